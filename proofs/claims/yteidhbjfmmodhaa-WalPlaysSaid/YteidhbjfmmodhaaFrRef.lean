/- The walks over the sectors' reference. -/
import Derived.Test.YteidhbjfmmodhaaFrGet
import Derived.Deep.OwnRows
import Derived.Test.YteidhbjfmmodhaaOrd
namespace Go.Proofs.Yteidhbjfmmodhaa
open Go.RowKit Crc Fr

set_option maxHeartbeats 400000 in
theorem rroom_any (size : Int) (w : World) : Calls Try.prog 44 #[.int .i64 size] w fun e w' => e = .returned (.int .i64 (roomI size)) ∧ w' = w := by
  by_cases h1 : size < 128
  · have e : roomI size = 0 := by unfold roomI; rw [if_pos (Or.inl h1)]
    rw [e]
    go_enter Try.func44, Try.ntmps44
    go_wp2
    go_ret
    exact ⟨rfl, rfl⟩
  · by_cases h2 : 1024 < size
    · have e : roomI size = 0 := by unfold roomI; rw [if_pos (Or.inr h2)]
      rw [e]
      have h3 : 128 ≤ size := by omega
      clear h1
      go_enter Try.func44, Try.ntmps44
      go_wp2
      go_ret
      exact ⟨rfl, rfl⟩
    · have e : roomI size = size - 14 := by unfold roomI; rw [if_neg (by omega)]
      rw [e]
      have h3 : 128 ≤ size := by omega
      have h4 : size ≤ 1024 := by omega
      clear h1 h2
      go_enter Try.func44, Try.ntmps44
      go_wp2
      go_ret
      exact ⟨rfl, rfl⟩

theorem beL_succ_div (x k : Nat) : (x / 256 ^ k) % 256 % 256 = x / 256 ^ k % 256 := by omega
theorem beB_succ (x k : Nat) : beB x (k + 1) = (strOfNums [((x / 256 ^ k : Nat) : Int) % 256]) ++ beB x k := by
  refine bytes_ext ?_
  rw [list_append]
  show UInt8.ofNat (x / 256 ^ k) :: beL x k = _
  rw [strOfNums_data]
  simp only [List.map_cons, List.map_nil, List.cons_append, List.nil_append]
  congr 1
  apply UInt8.toNat_inj.1
  rw [UInt8.toNat_ofNat', UInt8.toNat_ofNat']
  omega
def qI (x k : Nat) : Int := ((x / 256 ^ k : Nat) : Int)
theorem qI_zero (x : Nat) : (x : Int) = qI x 0 := by unfold qI; simp
theorem qI_next (x k : Nat) : qI x k / 256 = qI x (k + 1) := by
  unfold qI
  rw [Nat.pow_succ, ← Nat.div_div_eq_div_mul]; omega
theorem qI_range (x k : Nat) (hx : x ≤ 9223372036854775807) : 0 ≤ qI x k ∧ qI x k ≤ 9223372036854775807 := by
  have := Nat.div_le_self x (256 ^ k)
  unfold qI
  generalize x / 256 ^ k = z at *
  omega

set_option maxHeartbeats 2000000 in
theorem rbytes_any (x : Int) (n : Nat) (w : World) (h0 : 0 ≤ x) (hx : x ≤ 9223372036854775807) (h1 : n ≤ 8) :
    Calls Try.prog 76 #[.int .i64 x, .int .i64 n] w fun e w' => e = .returned (.string (beB x.toNat n)) ∧ Below w.heap.size w w' := by
  obtain ⟨X, rfl⟩ := Int.eq_ofNat_of_zero_le h0
  rw [Int.toNat_natCast]
  have HX := Lib.hid (show X ≤ 9223372036854775807 by omega)
  have HZ := Lib.hid (qI_zero X)
  clear h0 hx
  have hbs : ∀ x n, (beB x n).size = n := beB_size
  obtain ⟨B, hB⟩ : ∃ B, B = w.heap.size := ⟨_, rfl⟩
  have HB := Lib.hid hB
  have hb0 : Below B w w := Below.refl _ _
  rw [← hB]
  clear hB
  go_enter Try.func76, Try.ntmps76
  go_wp2
  go_loopw [0, 5, 6] (fun x' v i wr => ∃ k : Nat, k ≤ n ∧ i = .int .i64 k ∧ x' = .int .i64 (qI X k) ∧ v = .string (beB X k) ∧ Below B w wr ∧ B ≤ wr.heap.size) (fun _ _ i _ => n - (intOf i).toNat)
  case atStart => exact ⟨0, Nat.zero_le _, rfl, by rw [HZ.out], rfl, hb0, by rw [HB.out]; exact Nat.le_refl _⟩
  case round =>
    obtain ⟨k, hk, rfl, rfl, rfl, hb, hbs2⟩ := hrel
    have HBS := Lib.hid hbs2
    clear hbs2
    by_cases hlt : k < n
    · have hq := qI_range X k HX.out
      obtain ⟨hq0, hq1⟩ := hq
      have HS := Lib.hid (beB_succ X k)
      have HN := Lib.hid (qI_next X k)
      have hcv := run_convert_bytes_arg (P := Try.prog) (wr.alloc (.cells #[.int .u8 (qI X k % 256)] 5)) 77 5 Try.underlying77 Try.underlying5 wr.heap.size 0 1 1 [qI X k % 256] rfl
        (fun i hi => by
          obtain rfl : i = 0 := by omega
          simp) 9 Try.underlying9
      have hs1 := strOfNums_size [qI X k % 256]
      simp only [List.length_cons, List.length_nil] at hs1
      go_wp2
      go_roundw
      case rel => exact ⟨k + 1, by omega, by go_num, by rw [HN.out], by rw [HS.out]; rfl, hb.alloc HBS.out _, by have := HBS.out; simp; omega⟩
      case measure => simp [intOf]; omega
    · obtain rfl : k = n := by omega
      go_wp2
      go_ret
      exact ⟨rfl, hb⟩

set_option maxHeartbeats 1000000 in
theorem value_any (s : ByteArray) (w : World) (hs : s.size ≤ 4) :
    Calls Try.prog 65 #[.string s] w fun e w' => e = .returned (.int .i64 (valS s)) ∧ w' = w := by
  go_enter Try.func65, Try.ntmps65
  go_wp2
  go_loop [3, 4] (fun n i => ∃ k : Nat, k ≤ s.size ∧ i = .int .i64 k ∧ n = .int .i64 ((valL (s.data.toList.take k) : Nat) : Int)) (fun _ i => s.size - (intOf i).toNat)
  case atStart => exact ⟨0, Nat.zero_le _, rfl, rfl⟩
  case round =>
    obtain ⟨k, hk, rfl, rfl⟩ := hrel
    by_cases hlt : k < s.size
    · have hs1 := valL_snoc (s.data.toList.take k) s[k]
      rw [← take_snoc s k hlt] at hs1
      have HS := Lib.hid hs1
      clear hs1
      have hv := valL_lt (s.data.toList.take k)
      have hp : 256 ^ (s.data.toList.take k).length ≤ 256 ^ 3 := Nat.pow_le_pow_right (by omega) (by rw [List.length_take]; omega)
      have hv2 : valL (s.data.toList.take k) < 16777216 := by omega
      clear hv hp
      obtain ⟨z, hz⟩ : ∃ z : Nat, z = valL (s.data.toList.take k) := ⟨_, rfl⟩
      rw [← hz] at hv2 HS ⊢
      clear hz
      have hz1 : (z : Int) < 16777216 := by omega
      have HZ := Lib.hid hv2
      clear hv2
      have hbt := s[k].toNat_lt
      go_wp2
      go_round
      case rel => exact ⟨k + 1, by omega, by go_num, by rw [HS.out]; first | rfl | (congr 1; omega) | (simp [IntWalk.wrap64_in]; omega)⟩
      case measure => simp [intOf]; omega
    · go_wp2
      go_ret
      exact ⟨by rw [List.take_of_length_le (by simp; omega)]; rfl, rfl⟩

theorem made_string (n : Nat) (W : World) :
    (convert 77 9 (.slice (some ⟨W.heap.size, 0, none⟩) n n)).run Try.prog (W.alloc (.cells (madeCells #[.int .u8 0] n) 5)) = .ok (.string (zB n)) (W.alloc (.cells (madeCells #[.int .u8 0] n) 5)) := by
  have h := run_convert_bytes_back (P := Try.prog) (W.alloc (.cells (madeCells #[.int .u8 0] n) 5)) 77 9 5 ⟨W.heap.size, 0, none⟩ n (Lib.repeatL [0] n) Try.underlying77 Try.underlying5 Try.underlying9
    (fun j hj => by
      have hj2 : j < n := by rw [Lib.repeatL_length] at hj; simpa using hj
      have e : (⟨W.heap.size, 0, none⟩ : Addr).add j = ⟨W.heap.size, j, none⟩ := by unfold Addr.add; split <;> simp_all
      have e2 : (Lib.repeatL [0] n)[j] = 0 := by simp [repeat_one]
      rw [e, e2]
      have hc : (W.alloc (.cells (madeCells #[.int .u8 0] n) 5)).heap[W.heap.size]? = some (.cells (madeCells #[.int .u8 0] n) 5) := by show (W.heap.push _)[W.heap.size]? = _; simp
      unfold World.cell?
      rw [show (⟨W.heap.size, j, none⟩ : Addr).block = W.heap.size from rfl, hc]
      simp only [Option.isSome_none, Bool.false_eq_true, if_false]
      rw [← Array.getElem?_toList, toList_madeCells_one]
      simp [hj2])
  have hl : (Lib.repeatL [0] n).length = n := by rw [Lib.repeatL_length]; simp
  rw [hl] at h
  exact h
theorem rbytes2_any (x : Int) (w : World) (h0 : 0 ≤ x) (hx : x ≤ 9223372036854775807) :
    Calls Try.prog 76 #[.int .i64 x, .int .i64 2] w fun e w' => e = .returned (.string (beB x.toNat 2)) ∧ Below w.heap.size w w' := rbytes_any x 2 w h0 hx (by omega)
theorem rbytes4_any (x : Int) (w : World) (h0 : 0 ≤ x) (hx : x ≤ 9223372036854775807) :
    Calls Try.prog 76 #[.int .i64 x, .int .i64 4] w fun e w' => e = .returned (.string (beB x.toNat 4)) ∧ Below w.heap.size w w' := rbytes_any x 4 w h0 hx (by omega)

set_option maxHeartbeats 2000000 in
theorem rput_yes (gen seq size : Int) (p : ByteArray) (w : World) (h1 : 128 ≤ size) (h2 : size ≤ 1024) (g0 : 0 ≤ gen) (hg : gen ≤ 4294967295) (s0 : 0 ≤ seq) (hs : seq ≤ 4294967295) (hp : (p.size : Int) ≤ size - 14) :
    Calls Try.prog 63 #[.int .i64 gen, .int .i64 seq, .string p, .int .i64 size] w fun e w' => e = .returned (.tuple #[.string (secB gen.toNat seq.toNat p size.toNat), .int .i64 0]) ∧ Below w.heap.size w w' := by
  have hsr := smS_range (hdB p.size gen.toNat seq.toNat ++ p)
  have HSR := Lib.hid hsr
  clear hsr
  have hb2 : ∀ x n, (beB x n).size = n := beB_size
  have hpi : ∀ x, (putI x).size = 4 := putI_size
  have hzb : ∀ n, (zB n).size = n := zB_size
  have hhz : ∀ l g s, (hdB l g s).size = 10 := hdB_size
  have HM := Lib.hid (show (hdB p.size gen.toNat seq.toNat ++ p).size ≤ maxLen by rw [ByteArray.size_append, hdB_size]; unfold maxLen; omega)
  have hps : p.size ≤ 1010 := by omega
  have g0' : decide (size < 128) = false := decide_eq_false (by omega)
  have g1 : decide (1024 < size) = false := decide_eq_false (by omega)
  have g2 : decide (gen < 0) = false := decide_eq_false (by omega)
  have g3 : decide (seq < 0) = false := decide_eq_false (by omega)
  have g4 : decide (4294967295 < gen) = false := decide_eq_false (by omega)
  have g5 : decide (4294967295 < seq) = false := decide_eq_false (by omega)
  have g6 : decide (size - 14 < (p.size : Int)) = false := decide_eq_false (by omega)
  obtain ⟨n, hn⟩ : ∃ n : Nat, size - (14 + (p.size : Int)) = (n : Int) := ⟨(size - (14 + (p.size : Int))).toNat, by omega⟩
  have HN := Lib.hid (show n = size.toNat - (14 + p.size) by omega)
  have hn1 : n ≤ 1024 := by omega
  have hmk := fun W : World => run_make_row' (P := Try.prog) 77 5 (.int .u8 0) 1 Try.underlying77 info_u8 rfl .i64 .i64 n (by omega) (by omega) W
  have hms := made_string n
  have HA := Lib.hid (And.intro h1 (And.intro h2 (And.intro g0 (And.intro hg (And.intro s0 (And.intro hs hp))))))
  have hsz1 : 128 ≤ size := h1
  have hsz2 : size ≤ 1024 := h2
  clear h1 h2 g0 hg s0 hs hp
  go_enter Try.func63, Try.ntmps63
  go_wp2_with fail
  (with_reducible refine (rbytes2_any _ _ (by omega) (by omega)).mono ?_); rintro _ w1 ⟨rfl, hb1⟩
  go_wp2_with fail
  (with_reducible refine (rbytes4_any gen _ (by have := HA.out; omega) (by have := HA.out; omega)).mono ?_); rintro _ w2 ⟨rfl, hb2'⟩
  go_wp2_with fail
  (with_reducible refine (rbytes4_any seq _ (by have := HA.out; omega) (by have := HA.out; omega)).mono ?_); rintro _ w3 ⟨rfl, hb3⟩
  go_wp2_with fail
  rw [show beB p.size 2 ++ beB gen.toNat 4 ++ beB seq.toNat 4 = hdB p.size gen.toNat seq.toNat from rfl]
  (with_reducible refine (rsum_any _ _ HM.out).mono ?_); rintro _ w' ⟨rfl, rfl⟩
  go_wp2_with fail
  (with_reducible refine (rput_any _ _ HSR.out.1 HSR.out.2).mono ?_); rintro _ w4 ⟨rfl, hb4⟩
  go_wp2
  go_ret2
  refine ⟨by rw [HN.out]; rfl, balloc (bthen (bthen (bthen hb1 hb2') hb3) hb4) _⟩

set_option maxHeartbeats 2000000 in
theorem rput_long (gen seq size : Int) (p : ByteArray) (w : World) (h1 : 128 ≤ size) (h2 : size ≤ 1024) (g0 : 0 ≤ gen) (hg : gen ≤ 4294967295) (s0 : 0 ≤ seq) (hs : seq ≤ 4294967295) (hp : size - 14 < (p.size : Int)) :
    Calls Try.prog 63 #[.int .i64 gen, .int .i64 seq, .string p, .int .i64 size] w fun e w' => e = .returned (.tuple #[.string ⟨#[]⟩, .int .i64 5]) ∧ w' = w := by
  have g0' : decide (size < 128) = false := decide_eq_false (by omega)
  have g1 : decide (1024 < size) = false := decide_eq_false (by omega)
  have g2 : decide (gen < 0) = false := decide_eq_false (by omega)
  have g3 : decide (seq < 0) = false := decide_eq_false (by omega)
  have g4 : decide (4294967295 < gen) = false := decide_eq_false (by omega)
  have g5 : decide (4294967295 < seq) = false := decide_eq_false (by omega)
  have g6 : decide (size - 14 < (p.size : Int)) = true := decide_eq_true (by omega)
  have hsz1 : 128 ≤ size := h1
  have hsz2 : size ≤ 1024 := h2
  clear h1 h2 g0 hg s0 hs hp
  go_enter Try.func63, Try.ntmps63
  go_wp2
  go_ret2
  exact ⟨rfl, rfl⟩

theorem rput_any4 (gen seq size : Int) (p : ByteArray) (w : World) :
    Calls Try.prog 63 #[.int .i64 gen, .int .i64 seq, .string p, .int .i64 size] w fun e w' => e = .returned (.tuple #[.string (outB gen seq p size), .int .i64 (errI gen seq p size)]) ∧ Below w.heap.size w w' := by
  by_cases h : size < 128 ∨ 1024 < size ∨ gen < 0 ∨ 4294967295 < gen ∨ seq < 0 ∨ 4294967295 < seq
  · have e : errI gen seq p size = 1 := by unfold errI; rw [if_pos h]
    have e2 : outB gen seq p size = ⟨#[]⟩ := by unfold outB; rw [e, if_neg (by omega)]
    rw [e, e2]
    have base : Calls Try.prog 63 #[.int .i64 gen, .int .i64 seq, .string p, .int .i64 size] w fun e w' => e = .returned (.tuple #[.string ⟨#[]⟩, .int .i64 1]) ∧ w' = w := by
      have HE := Lib.hid e
      have HE2 := Lib.hid e2
      clear e e2
      by_cases h0 : size < 128
      · have g0' : decide (size < 128) = true := decide_eq_true h0
        clear h h0
        go_enter Try.func63, Try.ntmps63
        go_wp2
        go_ret2
        exact ⟨rfl, rfl⟩
      have g0' : decide (size < 128) = false := decide_eq_false h0
      by_cases h1 : 1024 < size
      · have g1 : decide (1024 < size) = true := decide_eq_true h1
        clear h h0 h1
        go_enter Try.func63, Try.ntmps63
        go_wp2
        go_ret2
        exact ⟨rfl, rfl⟩
      have g1 : decide (1024 < size) = false := decide_eq_false h1
      by_cases h2 : gen < 0
      · have g2 : decide (gen < 0) = true := decide_eq_true h2
        clear h h0 h1 h2
        go_enter Try.func63, Try.ntmps63
        go_wp2
        go_ret2
        exact ⟨rfl, rfl⟩
      have g2 : decide (gen < 0) = false := decide_eq_false h2
      by_cases h3 : 4294967295 < gen
      · have g4 : decide (4294967295 < gen) = true := decide_eq_true h3
        clear h h0 h1 h2 h3
        go_enter Try.func63, Try.ntmps63
        go_wp2
        go_ret2
        exact ⟨rfl, rfl⟩
      have g4 : decide (4294967295 < gen) = false := decide_eq_false h3
      by_cases h4 : seq < 0
      · have g3 : decide (seq < 0) = true := decide_eq_true h4
        clear h h0 h1 h2 h3 h4
        go_enter Try.func63, Try.ntmps63
        go_wp2
        go_ret2
        exact ⟨rfl, rfl⟩
      have g3 : decide (seq < 0) = false := decide_eq_false h4
      have g5 : decide (4294967295 < seq) = true := decide_eq_true (by omega)
      clear h h0 h1 h2 h3 h4
      go_enter Try.func63, Try.ntmps63
      go_wp2
      go_ret2
      exact ⟨rfl, rfl⟩
    exact base.mono fun _ _ ⟨h1, h2⟩ => ⟨h1, by rw [h2]; exact Below.refl _ _⟩
  · by_cases h2 : size - 14 < (p.size : Int)
    · have e : errI gen seq p size = 5 := by unfold errI; rw [if_neg h, if_pos h2]
      have e2 : outB gen seq p size = ⟨#[]⟩ := by unfold outB; rw [e, if_neg (by omega)]
      rw [e, e2]
      exact (rput_long gen seq size p w (by omega) (by omega) (by omega) (by omega) (by omega) (by omega) h2).mono fun _ _ ⟨h1, h2⟩ => ⟨h1, by rw [h2]; exact Below.refl _ _⟩
    · have e : errI gen seq p size = 0 := by unfold errI; rw [if_neg h, if_neg h2]
      have e2 : outB gen seq p size = secB gen.toNat seq.toNat p size.toNat := by unfold outB; rw [e, if_pos rfl]
      rw [e, e2]
      exact rput_yes gen seq size p w (by omega) (by omega) (by omega) (by omega) (by omega) (by omega) (by omega)
end Go.Proofs.Yteidhbjfmmodhaa
