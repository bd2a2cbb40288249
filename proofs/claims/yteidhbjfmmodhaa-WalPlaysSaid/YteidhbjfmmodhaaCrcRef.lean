/- The walks over the check sum's reference. -/
import Derived.Test.YteidhbjfmmodhaaCrcWalk
namespace Go.Proofs.Yteidhbjfmmodhaa
open Go.RowKit Crc

set_option maxHeartbeats 400000 in
theorem rbit_any (x : Int) (one : Bool) (w : World) (h0 : 0 ≤ x) (h1 : x < 4294967296) :
    Calls Try.prog 81 #[.int .u32 x, .bool one] w fun e w' => e = .returned (.int .u32 (btI x one)) ∧ w' = w := by
  have hb := bt_int x one h0 h1
  rcases Decidable.em (2147483648 ≤ x) with hx | hx <;> cases one <;> simp [hx] at hb
  all_goals
    try rw [show 2 * x % 4294967296 = 2 * x from by omega] at hb
    have HB := Lib.hid hb
    clear hb
    go_enter Try.func81, Try.ntmps81
    go_wp2
    go_ret
    exact ⟨congrArg (fun z => Ending.returned (.int .u32 z)) HB.out.symm, rfl⟩

set_option maxHeartbeats 1000000 in
theorem rrun_any (x : Int) (s : ByteArray) (w : World) (h0 : 0 ≤ x) (h1 : x < 4294967296) (hs : s.size ≤ maxLen) :
    Calls Try.prog 77 #[.int .u32 x, .string s] w fun e w' => e = .returned (.int .u32 (rnI (BitVec.ofInt 32 x) s.data.toList)) ∧ w' = w := by
  unfold maxLen at hs
  obtain ⟨X, hX⟩ : ∃ X : BitVec 32, X = BitVec.ofInt 32 x := ⟨_, rfl⟩
  rw [← hX]
  have hx := bv_ofInt x h0 h1
  rw [← hX] at hx
  clear hX
  have HX := Lib.hid (show x = rnI X [] from hx.symm)
  clear hx
  go_enter Try.func77, Try.ntmps77
  go_wp2
  go_loop [0, 5] (fun x' i => ∃ k : Nat, k ≤ s.size ∧ i = .int .i64 k ∧ x' = .int .u32 (rnI X (s.data.toList.take k))) (fun _ i => s.size - (intOf i).toNat)
  case atStart => exact ⟨0, Nat.zero_le _, rfl, by rw [HX.out]; rfl⟩
  case round =>
    obtain ⟨k, hk, rfl, rfl⟩ := hrel
    by_cases hlt : k < s.size
    · have hst := bsI_end X (s.data.toList.take k) s[k]
      rw [← take_snoc s k hlt] at hst
      have HT := Lib.hid hst
      clear hst
      have HZ := Lib.hid (restI_zero s[k])
      go_wp2
      go_loop [0, 6, 7] (fun x' r u => ∃ j : Nat, j ≤ 8 ∧ u = .int .i64 (unitI j) ∧ r = .int .i64 (restI s[k] j) ∧ x' = .int .u32 (bsI (rn X (s.data.toList.take k)) s[k] j)) (fun _ _ u => (intOf u).toNat)
      case atStart => exact ⟨0, by omega, rfl, by rw [← HZ.out, IntWalk.wrap64_in _ (by have := s[k].toNat_lt; omega)], rfl⟩
      case round =>
        obtain ⟨j, hj, rfl, rfl, rfl⟩ := hrel
        by_cases hjt : j < 8
        · have hu := unitI_fact j hjt
          obtain ⟨hu0, hu1, hu2⟩ := hu
          have HU := Lib.hid hu2
          clear hu2
          have HN := Lib.hid (bsI_next (rn X (s.data.toList.take k)) s[k] j hjt)
          have HR := Lib.hid (restI_next s[k] j hjt)
          have hr := restI_range s[k] j
          obtain ⟨hr0, hr1⟩ := hr
          have hrg := bsI_range (rn X (s.data.toList.take k)) s[k] j
          go_wp2_with (go_at_call 81; refine (rbit_any _ _ _ hrg.1 hrg.2).mono ?_; rintro e w' ⟨rfl, rfl⟩)
          go_round
          case rel => exact ⟨j + 1, by omega, by rw [← HU.out], by rw [← HR.out], by rw [← HN.out]⟩
          case measure => simp [intOf]; omega
        · obtain rfl : j = 8 := by omega
          have hu := unitI_end
          go_wp2
          go_round
          case rel => exact ⟨k + 1, by omega, by go_num, by rw [HT.out]⟩
          case measure => simp [intOf]; omega
    · go_wp2
      go_ret
      exact ⟨by rw [List.take_of_length_le (by simp; omega)]; rfl, rfl⟩

theorem sm_int (l : List UInt8) : 4294967295 - rnI (~~~ 0#32) l = smI l := not_sub _
theorem smI_range (l : List UInt8) : 0 ≤ smI l ∧ smI l < 4294967296 := bv_range _
theorem smS_range (s : ByteArray) : 0 ≤ smS s ∧ smS s < 4294967296 := bv_range _
set_option maxHeartbeats 400000 in
theorem rsum_any (s : ByteArray) (w : World) (hs : s.size ≤ maxLen) :
    Calls Try.prog 67 #[.string s] w fun e w' => e = .returned (.int .u32 (smS s)) ∧ w' = w := by
  obtain ⟨X, hX⟩ : ∃ X : BitVec 32, X = ~~~ 0#32 := ⟨_, rfl⟩
  have hm := sm_int s.data.toList
  rw [← hX] at hm
  have HM := Lib.hid hm
  have HX := Lib.hid (show BitVec.ofInt 32 4294967295 = X from hX.symm)
  clear hm hX
  have hr := rnI_range X s.data.toList
  obtain ⟨hr0, hr1⟩ := hr
  go_enter Try.func67, Try.ntmps67
  go_wp2_with (go_at_call 77; refine (rrun_any _ _ _ (by omega) (by omega) hs).mono ?_; rintro e w' ⟨rfl, rfl⟩; rw [HX.out])
  go_ret
  exact ⟨congrArg (fun z => Ending.returned (.int .u32 z)) HM.out, rfl⟩

set_option maxHeartbeats 400000 in
theorem rput_any (x : Int) (w : World) (h0 : 0 ≤ x) (h1 : x < 4294967296) :
    Calls Try.prog 66 #[.int .u32 x] w fun e w' => e = .returned (.string (putI x)) ∧ Below w.heap.size w w' := by
  have hcv := run_convert_bytes_arg (P := Try.prog) (w.alloc (.cells #[.int .u8 (x / 16777216), .int .u8 (x / 65536 % 256), .int .u8 (x / 256 % 256), .int .u8 (x % 256)] 5)) 77 5 Try.underlying77 Try.underlying5 w.heap.size 0 4 4 [x / 16777216, x / 65536 % 256, x / 256 % 256, x % 256] rfl
    (fun i hi => by
      have : i = 0 ∨ i = 1 ∨ i = 2 ∨ i = 3 := by omega
      rcases this with rfl | rfl | rfl | rfl <;> simp) 9 Try.underlying9
  go_enter Try.func66, Try.ntmps66
  go_wp2
  go_ret
  exact ⟨rfl, (Below.refl _ _).alloc (Nat.le_refl _) _⟩
end Go.Proofs.Yteidhbjfmmodhaa
