/- The walks over the check sum's functions: each computes what the plain functions of bit vectors compute. -/
import Derived.Test.YteidhbjfmmodhaaProg
import Derived.Test.YteidhbjfmmodhaaCrcPure
import Derived.WalkKit
import Derived.WalkSpells
import Derived.WalkLawsBesides
import Derived.Lib.Hide
namespace Go.Proofs.Yteidhbjfmmodhaa
open Go.RowKit Crc

set_option maxHeartbeats 400000 in
theorem steps_any (b : Int) (w : World) (h0 : 0 ≤ b) (h1 : b < 256) :
    Calls Try.prog 82 #[.int .u8 b] w fun e w' => e = .returned (.int .u32 (stI b)) ∧ w' = w := by
  go_enter Try.func82, Try.ntmps82
  go_wp2
  go_loop [3, 8] (fun x i => ∃ k : Nat, k ≤ 8 ∧ i = .int .i64 k ∧ x = .int .u32 ((itb k ((BitVec.ofInt 8 b).setWidth 32 <<< 24)).toNat : Int)) (fun _ i => 8 - (intOf i).toNat)
  case atStart => exact ⟨0, by omega, rfl, by rw [itb, ready_byte b h0 h1]⟩
  case round =>
    obtain ⟨k, hk, rfl, rfl⟩ := hrel
    generalize hx : itb k ((BitVec.ofInt 8 b).setWidth 32 <<< 24) = x
    have HX := Lib.hid hx
    clear hx
    by_cases hlt : k < 8
    · cases hm : x.msb
      · have ht : (Go.bits .and .u32 (x.toNat : Int) 2147483648 != 0) = false := by rw [test_top, hm]
        have HM := Lib.hid hm
        clear hm
        go_wp2
        go_round
        case rel => exact ⟨k + 1, by omega, by go_num, by rw [b1_no x HM.out, itb, HX.out]⟩
        case measure => simp [intOf]; omega
      · have ht : (Go.bits .and .u32 (x.toNat : Int) 2147483648 != 0) = true := by rw [test_top, hm]
        have HM := Lib.hid hm
        clear hm
        go_wp2
        go_round
        case rel => exact ⟨k + 1, by omega, by go_num, by rw [b1_yes x HM.out, itb, HX.out]⟩
        case measure => simp [intOf]; omega
    · obtain rfl : k = 8 := by omega
      go_wp2
      go_ret
      exact ⟨by rw [← HX.out]; rfl, rfl⟩

set_option maxHeartbeats 400000 in
theorem take_any (x b : Int) (w : World) (hx0 : 0 ≤ x) (hx1 : x < 4294967296) :
    Calls Try.prog 80 #[.int .u32 x, .int .u8 b] w fun e w' => e = .returned (.int .u32 (tkI x b)) ∧ w' = w := by
  have h := take_int x b hx0 hx1
  rw [show x / 16777216 % 256 = x / 16777216 from by omega] at h
  have H := Lib.hid h
  clear h
  go_enter Try.func80, Try.ntmps80
  go_wp2_with (go_at_call 82; refine (steps_any _ _ (xor8_range _ _).1 (xor8_range _ _).2).mono ?_; rintro e w' ⟨rfl, rfl⟩)
  go_ret
  exact ⟨congrArg (fun z => Ending.returned (.int .u32 z)) H.out, rfl⟩

theorem sum_nil (w : World) : Calls Try.prog 75 #[.slice none 0 0] w fun e w' => e = .returned (.int .u32 (smI [])) ∧ w' = w := by
  go_enter Try.func75, Try.ntmps75
  go_wp2
  go_loop [3, 9] (fun x i => x = .int .u32 4294967295 ∧ i = .int .i64 0) (fun _ _ => 0)
  case atStart => exact ⟨rfl, rfl⟩
  case round =>
    obtain ⟨rfl, rfl⟩ := hrel
    go_wp2
    go_ret
    exact ⟨rfl, rfl⟩

set_option maxHeartbeats 400000 in
theorem sum_some (b o cap : Nat) (l : List ByteArray) (w : World) (hl : l.length ≤ maxLen) (hs : ∀ s ∈ l, s.size ≤ maxLen)
    (hc : ∀ k (h : k < l.length), w.cell? ⟨b, o + k, none⟩ = some (.string l[k])) :
    Calls Try.prog 75 #[.slice (some ⟨b, o, none⟩) l.length cap] w fun e w' => e = .returned (.int .u32 (smI (cat l))) ∧ w' = w := by
  unfold maxLen at hl hs
  have HC := Lib.hid hc
  have HS := Lib.hid hs
  clear hc hs
  go_enter Try.func75, Try.ntmps75
  go_wp2
  go_loop [3, 9] (fun x i => ∃ k : Nat, k ≤ l.length ∧ i = .int .i64 k ∧ x = .int .u32 ((rn (~~~ 0#32) (cat (l.take k))).toNat : Int)) (fun _ i => l.length - (intOf i).toNat)
  case atStart => exact ⟨0, Nat.zero_le _, rfl, rfl⟩
  case round =>
    obtain ⟨k, hk, rfl, rfl⟩ := hrel
    by_cases hlt : k < l.length
    · have hcell := HC.out k hlt
      have hct := cat_take l k hlt
      have hsz := HS.out l[k] (List.getElem_mem hlt)
      generalize l[k] = s at *
      generalize hy : rn (~~~ 0#32) (cat (l.take k)) = y
      have hrs := rn_append (~~~ 0#32) (cat (l.take k)) s.data.toList
      rw [← hct, hy] at hrs
      have HR := Lib.hid hrs
      clear hct hy hrs
      go_wp2
      go_loop [3, 15] (fun x i => ∃ j : Nat, j ≤ s.size ∧ i = .int .i64 j ∧ x = .int .u32 ((rn y (s.data.toList.take j)).toNat : Int)) (fun _ i => s.size - (intOf i).toNat)
      case atStart => exact ⟨0, Nat.zero_le _, rfl, rfl⟩
      case round =>
        obtain ⟨j, hj, rfl, rfl⟩ := hrel
        by_cases hjt : j < s.size
        · have hst := tkI_step y (s.data.toList.take j) s[j]
          rw [← take_snoc s j hjt] at hst
          have HT := Lib.hid hst
          clear hst
          have hrg := bv_range (rn y (s.data.toList.take j))
          go_wp2_with (go_at_call 80; refine (take_any _ _ _ hrg.1 hrg.2).mono ?_; rintro e w' ⟨rfl, rfl⟩)
          go_round
          case rel => exact ⟨j + 1, by omega, by go_num, by rw [HT.out]⟩
          case measure => simp [intOf]; omega
        · go_wp2
          go_round
          case rel => exact ⟨k + 1, by omega, by go_num, by rw [HR.out, List.take_of_length_le (by simp; omega)]⟩
          case measure => simp [intOf]; omega
    · go_wp2
      go_ret
      exact ⟨by rw [List.take_of_length_le (by omega)]; exact congrArg (fun z => Ending.returned (.int .u32 z)) (not_int _), rfl⟩

/-- A slice of strings, in memory, of whatever length. -/
def Strs (w : World) (v : Value) (l : List ByteArray) : Prop :=
  ∃ a cap, v = .slice a l.length cap ∧ (l ≠ [] → ∃ b o, a = some ⟨b, o, none⟩ ∧ ∀ k (h : k < l.length), w.cell? ⟨b, o + k, none⟩ = some (.string l[k]))
theorem sum_none (a : Option Addr) (cap : Nat) (w : World) : Calls Try.prog 75 #[.slice a 0 cap] w fun e w' => e = .returned (.int .u32 (smI [])) ∧ w' = w := by
  go_enter Try.func75, Try.ntmps75
  go_wp2
  go_loop [3, 9] (fun x i => x = .int .u32 4294967295 ∧ i = .int .i64 0) (fun _ _ => 0)
  case atStart => exact ⟨rfl, rfl⟩
  case round =>
    obtain ⟨rfl, rfl⟩ := hrel
    go_wp2
    go_ret
    exact ⟨rfl, rfl⟩
theorem sum_strs (v : Value) (l : List ByteArray) (w : World) (hv : Strs w v l) (hl : l.length ≤ maxLen) (hs : ∀ s ∈ l, s.size ≤ maxLen) :
    Calls Try.prog 75 #[v] w fun e w' => e = .returned (.int .u32 (smS (catB l))) ∧ w' = w := by
  obtain ⟨a, cap, rfl, hc⟩ := hv
  by_cases h : l = []
  · subst h; exact sum_none a cap w
  · obtain ⟨b, o, rfl, hc'⟩ := hc h
    clear hc
    exact sum_some b o cap l w hl hs hc'
/-- A row of the call's own is such a slice. -/
theorem strs_of_own {w : World} {base : Nat} {e : TypeId} {v : Value} {n : Nat} {l : List ByteArray} (h : w.ownsRow base e 1 v n (l.map Value.string)) : Strs w v l := by
  obtain ⟨h1, h2⟩ := h
  have hn : n = l.length := by simpa using h1.symm
  subst hn
  rcases h2 with ⟨rfl, h0⟩ | ⟨g, cap, cur, rfl, _, hh, hcap, _, hsz, hcur⟩
  · exact ⟨none, 0, by rw [h0], fun h => absurd (List.eq_nil_of_length_eq_zero h0) h⟩
  · refine ⟨some ⟨g, 0, none⟩, cap, rfl, fun _ => ⟨g, 0, rfl, fun k hk => ?_⟩⟩
    have hk2 : (l.map Value.string)[k]? = some (Value.string l[k]) := by simp [hk]
    rw [← hcur] at hk2
    simp only [Nat.mul_one, List.getElem?_take, hk, if_true] at hk2
    unfold World.cell?
    simp only [hh, Nat.zero_add, Option.isSome_none, Bool.false_eq_true, if_false]
    simpa using hk2
theorem sum_one (b : Nat) (s : ByteArray) (w : World) (hs : s.size ≤ maxLen) (hc : w.cell? ⟨b, 0, none⟩ = some (.string s)) :
    Calls Try.prog 75 #[.slice (some ⟨b, 0, none⟩) 1 1] w fun e w' => e = .returned (.int .u32 (smS s)) ∧ w' = w := by
  have h := sum_some b 0 1 [s] w (by simp [maxLen]) (by simpa using hs) (by intro k hk; simp at hk; subst hk; simpa using hc)
  have hcat : cat [s] = s.data.toList := by simp [cat]
  rw [hcat] at h
  exact h
set_option maxHeartbeats 400000 in
theorem put_any (x : Int) (w : World) (h0 : 0 ≤ x) (h1 : x < 4294967296) :
    Calls Try.prog 74 #[.int .u32 x] w fun e w' => e = .returned (.string (putI x)) ∧ Below w.heap.size w w' := by
  have hcv := run_convert_bytes_arg (P := Try.prog) (w.alloc (.cells #[.int .u8 (x / 16777216), .int .u8 (x / 65536 % 256), .int .u8 (x / 256 % 256), .int .u8 (x % 256)] 5)) 77 5 Try.underlying77 Try.underlying5 w.heap.size 0 4 4 [x / 16777216, x / 65536 % 256, x / 256 % 256, x % 256] rfl
    (fun i hi => by
      have : i = 0 ∨ i = 1 ∨ i = 2 ∨ i = 3 := by omega
      rcases this with rfl | rfl | rfl | rfl <;> simp) 9 Try.underlying9
  go_enter Try.func74, Try.ntmps74
  go_wp2
  go_ret
  exact ⟨rfl, (Below.refl _ _).alloc (Nat.le_refl _) _⟩

end Go.Proofs.Yteidhbjfmmodhaa
