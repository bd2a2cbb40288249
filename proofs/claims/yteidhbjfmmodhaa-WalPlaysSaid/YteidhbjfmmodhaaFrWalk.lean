/- The walks over the sectors' functions. -/
import Derived.Test.YteidhbjfmmodhaaCrcRef
import Derived.Test.YteidhbjfmmodhaaFrPure
import Derived.Test.YteidhbjfmmodhaaShelf
import Derived.OwnWalk
import Derived.Laws.IdiomStrings
namespace Go.Proofs.Yteidhbjfmmodhaa
open Go.RowKit Crc Fr

theorem info_u8 : (Try.prog.info? 5).map (fun i => (i.zero, i.size, i.bytes)) = some (some (.int .u8 0), 1, 1) := by kernel_rfl

/-- A row of bytes of the call's own. -/
theorem own_bytes {w : World} {base : Nat} {e : TypeId} {v : Value} {n : Nat} {l : List UInt8} (h : w.ownsRow base e 1 v n (l.map fun b => Value.int .u8 b.toNat)) (h0 : l ≠ []) :
    n = l.length ∧ ∃ g cap, v = .slice (some ⟨g, 0, none⟩) l.length cap ∧ ∀ j (hj : j < l.length), w.cell? ((⟨g, 0, none⟩ : Addr).add j) = some (.int .u8 l[j].toNat) := by
  obtain ⟨h1, h2⟩ := h
  have hn : n = l.length := by simpa using h1.symm
  subst hn
  refine ⟨rfl, ?_⟩
  rcases h2 with ⟨rfl, h3⟩ | ⟨g, cap, cur, rfl, _, hh, hcap, _, hsz, hcur⟩
  · exact absurd (List.eq_nil_of_length_eq_zero h3) h0
  · refine ⟨g, cap, rfl, fun k hk => ?_⟩
    have hk2 : (l.map fun b => Value.int .u8 b.toNat)[k]? = some (Value.int .u8 l[k].toNat) := by simp [hk]
    rw [← hcur] at hk2
    simp only [Nat.mul_one, List.getElem?_take, hk, if_true] at hk2
    have e : (⟨g, 0, none⟩ : Addr).add k = ⟨g, k, none⟩ := by unfold Addr.add; split <;> simp_all
    rw [e]
    unfold World.cell?
    simp only [hh, Option.isSome_none, Bool.false_eq_true, if_false]
    simpa using hk2

theorem own_block {w : World} {base : Nat} {e : TypeId} {size n : Nat} {v : Value} {xs : List Value} (h : w.ownsRow base e size v n xs) : ∀ k, v.ownBlock = some k → base ≤ k := by
  intro k hk
  obtain ⟨_, ho⟩ := h
  rcases ho with ⟨rfl, _⟩ | ⟨g, cap', cur, rfl, hg3, _⟩
  · cases hk
  · simp [Value.ownBlock] at hk; omega
theorem byte_int (x : Nat) : (x : Int) % 256 = ((UInt8.ofNat x).toNat : Int) := by
  rw [UInt8.toNat_ofNat']; omega

theorem shift_byte (x q : Nat) : (x : Int) / 2 ^ (8 * q) % 256 = ((UInt8.ofNat (x / 256 ^ q)).toNat : Int) := by
  rw [← byte_int, Int.natCast_ediv, Int.natCast_pow, Int.pow_mul]
  rfl
theorem one_new (w : World) (v : Value) (e : TypeId) : ∀ (j : Nat) (u : Value), [v][j]? = some u → (w.alloc (.cells #[v] e)).cell? ((⟨w.heap.size, 0, none⟩ : Addr).add j) = some u := by
  intro j u h
  cases j with
  | zero => simp at h; subst h; show (w.alloc (.cells #[v] e)).cell? ⟨w.heap.size, 0, none⟩ = _; simp [go_sem]
  | succ j => simp at h
theorem beL_take (x n q : Nat) (h : q < n) : (beL x n).take (n - q) = (beL x n).take (n - (q + 1)) ++ [UInt8.ofNat (x / 256 ^ q)] := by
  induction n with
  | zero => omega
  | succ n ih =>
    by_cases e : q = n
    · subst e
      rw [show q + 1 - q = 1 by omega, show q + 1 - (q + 1) = 0 by omega]
      rfl
    · have := ih (by omega)
      rw [show n + 1 - q = (n - q) + 1 by omega, show n + 1 - (q + 1) = (n - (q + 1)) + 1 by omega]
      simp only [beL, List.take_succ_cons, List.cons_append]
      rw [this]

set_option maxHeartbeats 2000000 in
theorem bytes_any (x n : Nat) (w : World) (hx : x ≤ 9223372036854775807) (h0 : 1 ≤ n) (h1 : n ≤ 8) :
    Calls Try.prog 73 #[.int .i64 x, .int .i64 n] w fun e w' => e = .returned (.string (beB x n)) ∧ Below w.heap.size w w' := by
  obtain ⟨i0, hi, hz0, hz1, hz2⟩ := info_parts info_u8
  have HI := Lib.hid (And.intro hi (And.intro hz0 (And.intro hz1 hz2)))
  clear hi hz0 hz1 hz2
  have HX := Lib.hid hx
  clear hx
  obtain ⟨B, hB⟩ : ∃ B, B = w.heap.size := ⟨_, rfl⟩
  have HB := Lib.hid hB
  have hb0 : Below B w w := Below.refl _ _
  rw [← hB]
  clear hB
  go_enter Try.func73, Try.ntmps73
  go_wp2
  go_loopw [5, 6] (fun v i wr => ∃ r : Nat, r ≤ n ∧ i = .int .i64 ((r : Int) - 1) ∧ wr.ownsRow B 5 1 v (n - r) (((beL x n).take (n - r)).map fun b => Value.int .u8 b.toNat) ∧ Below B w wr ∧ B ≤ wr.heap.size) (fun _ i _ => ((intOf i) + 1).toNat)
  case atStart => exact ⟨n, Nat.le_refl _, rfl, ⟨by simp, Or.inl ⟨rfl, by omega⟩⟩, hb0, by rw [HB.out]; exact Nat.le_refl _⟩
  case round =>
    obtain ⟨r, hr, rfl, hown, hb, hbs⟩ := hrel
    have HO := Lib.hid hown
    have HBS := Lib.hid hbs
    clear hown hbs
    by_cases hlt : 0 < r
    · obtain ⟨q, rfl⟩ : ∃ q, r = q + 1 := ⟨r - 1, by omega⟩
      rw [show (((q + 1 : Nat) : Int) - 1) = (q : Int) by omega]
      have HT := Lib.hid (beL_take x n q (by omega))
      have HSH := Lib.hid (shift_byte x q)
      have hm := Lib.hid (show n - (q + 1) + 1 ≤ maxLen by unfold maxLen; omega)
      go_wp2_with (at_builtin; refine wpList_append_own _ rfl (.tmp 13) (.tmp 19) 77 rfl B 5 i0 (.int .u8 0) 1 1 Try.underlying77 HI.out.1 HI.out.2.1 HI.out.2.2.1 HI.out.2.2.2 rfl (by decide) _ (n - (q + 1)) _ rfl (HO.out.alloc _) ⟨wr.heap.size, 0, none⟩ 1 1 [.int .u8 ((x : Int) / 2 ^ (8 * q) % 256)] rfl rfl (one_new _ _ _) (by intro u hu; simp at hu; subst hu; rfl) hm.out (by omega) (by have := HBS.out; simp; omega) ?_)
      intro v' w2 hown2 hg2 _
      have hb2 : Below B w w2 := (hb.alloc HBS.out _).grown hg2 (by have := HBS.out; simp; omega) (own_block HO.out)
      have hz2 : B ≤ w2.heap.size := by have := hg2.size; have := HBS.out; simp at *; omega
      have HO2 := Lib.hid hown2
      clear hown2 hg2
      have HZ := Lib.hid hz2
      clear hz2
      go_wp2
      go_roundw
      case rel =>
        refine ⟨q, by omega, by go_num, ?_, hb2, HZ.out⟩
        have := HO2.out
        rw [HSH.out] at this
        rw [HT.out, List.map_append, show n - q = n - (q + 1) + 1 by omega, List.map_take]
        exact this
      case measure => simp only [intOf]; omega
    · obtain rfl : r = 0 := by omega
      have hl : (beL x n).take (n - 0) = beL x n := List.take_of_length_le (by rw [beL_length]; omega)
      have hne : beL x n ≠ [] := by intro h; have := beL_length x n; rw [h] at this; simp at this; omega
      have ho := HO.out
      rw [hl] at ho
      obtain ⟨_, g, cap, rfl, hc⟩ := own_bytes ho hne
      clear HO ho hl
      have hcv := run_convert_bytes_back (P := Try.prog) wr 77 9 5 ⟨g, 0, none⟩ cap (beL x n) Try.underlying77 Try.underlying5 Try.underlying9 hc
      clear hc hne
      go_wp2
      go_ret
      exact ⟨rfl, hb⟩

set_option maxHeartbeats 400000 in
theorem room_any (size : Int) (w : World) : Calls Try.prog 60 #[.int .i64 size] w fun e w' => e = .returned (.int .i64 (roomI size)) ∧ w' = w := by
  by_cases h1 : size < 128
  · have e : roomI size = 0 := by unfold roomI; rw [if_pos (Or.inl h1)]
    rw [e]
    go_enter Try.func60, Try.ntmps60
    go_wp2
    go_ret
    exact ⟨rfl, rfl⟩
  · by_cases h2 : 1024 < size
    · have e : roomI size = 0 := by unfold roomI; rw [if_pos (Or.inr h2)]
      rw [e]
      have h3 : 128 ≤ size := by omega
      clear h1
      go_enter Try.func60, Try.ntmps60
      go_wp2
      go_ret
      exact ⟨rfl, rfl⟩
    · have e : roomI size = size - 14 := by unfold roomI; rw [if_neg (by omega)]
      rw [e]
      have h3 : 128 ≤ size := by omega
      have h4 : size ≤ 1024 := by omega
      clear h1 h2
      go_enter Try.func60, Try.ntmps60
      go_wp2
      go_ret
      exact ⟨rfl, rfl⟩

theorem or_byte (n b : Nat) (hb : b < 256) (hn : n < 16777216) : Go.bits .or .i64 ((n : Int) * 256) (wrap64 (b : Int)) = ((256 * n + b : Nat) : Int) := by
  rw [IntWalk.wrap64_in _ (by omega)]
  rw [bits_join .i64 62 (by decide) (fun z h0 h1 => by rw [IntKind.wrap_i64]; have : (2 : Int) ^ 62 = 4611686018427387904 := rfl; omega) 8 _ _ (by omega) (by have : (2 : Int) ^ 8 = 256 := rfl; omega) (by have : (2 : Int) ^ 62 = 4611686018427387904 := rfl; omega) (by omega) (by have : (2 : Int) ^ 8 = 256 := rfl; omega) (by have : (2 : Int) ^ 62 = 4611686018427387904 := rfl; omega)]
  omega
set_option maxHeartbeats 1000000 in
theorem number_any (s : ByteArray) (w : World) (hs : s.size ≤ 4) :
    Calls Try.prog 61 #[.string s] w fun e w' => e = .returned (.int .i64 (valS s)) ∧ w' = w := by
  go_enter Try.func61, Try.ntmps61
  go_wp2
  go_loop [3, 7] (fun n i => ∃ k : Nat, k ≤ s.size ∧ i = .int .i64 k ∧ n = .int .i64 ((valL (s.data.toList.take k) : Nat) : Int)) (fun _ i => s.size - (intOf i).toNat)
  case atStart => exact ⟨0, Nat.zero_le _, rfl, rfl⟩
  case round =>
    obtain ⟨k, hk, rfl, rfl⟩ := hrel
    by_cases hlt : k < s.size
    · have hs1 := valL_snoc (s.data.toList.take k) s[k]
      rw [← take_snoc s k hlt] at hs1
      have HS := Lib.hid hs1
      clear hs1
      have hv := valL_lt (s.data.toList.take k)
      have hp : 256 ^ (s.data.toList.take k).length ≤ 256 ^ 3 := Nat.pow_le_pow_right (by omega) (by rw [List.length_take]; omega)
      have hv2 : valL (s.data.toList.take k) < 16777216 := by omega
      clear hv hp
      have HB := Lib.hid (or_byte (valL (s.data.toList.take k)) s[k].toNat s[k].toNat_lt hv2)
      go_wp2
      go_round
      case rel => exact ⟨k + 1, by omega, by go_num, by rw [HS.out, HB.out]⟩
      case measure => simp [intOf]; omega
    · go_wp2
      go_ret
      exact ⟨by rw [List.take_of_length_le (by simp; omega)]; rfl, rfl⟩

/-- A copy of a byte 0. -/
theorem repeat_zeros (n : Nat) (w : World) (h1 : n ≤ 4096) :
    Calls Try.prog 30 #[.string ⟨#[0]⟩, .int .i64 n] w fun e w' => e = .returned (.string (zB n)) ∧ Below w.heap.size w w' :=
  Try.strings_Repeat ⟨#[0]⟩ n w (by omega) (by simp [ByteArray.size]; omega)

theorem bytes2_any (x : Int) (w : World) (h0 : 0 ≤ x) (hx : x ≤ 9223372036854775807) :
    Calls Try.prog 73 #[.int .i64 x, .int .i64 2] w fun e w' => e = .returned (.string (beB x.toNat 2)) ∧ Below w.heap.size w w' := by
  obtain ⟨n, rfl⟩ := Int.eq_ofNat_of_zero_le h0
  exact bytes_any n 2 w (by omega) (by omega) (by omega)
theorem bytes4_any (x : Int) (w : World) (h0 : 0 ≤ x) (hx : x ≤ 9223372036854775807) :
    Calls Try.prog 73 #[.int .i64 x, .int .i64 4] w fun e w' => e = .returned (.string (beB x.toNat 4)) ∧ Below w.heap.size w w' := by
  obtain ⟨n, rfl⟩ := Int.eq_ofNat_of_zero_le h0
  exact bytes_any n 4 w (by omega) (by omega) (by omega)
theorem repeat_zerosI (n : Int) (w : World) (h0 : 0 ≤ n) (h1 : n ≤ 4096) :
    Calls Try.prog 30 #[.string ⟨#[0]⟩, .int .i64 n] w fun e w' => e = .returned (.string (zB n.toNat)) ∧ Below w.heap.size w w' := by
  obtain ⟨n, rfl⟩ := Int.eq_ofNat_of_zero_le h0
  exact repeat_zeros n w (by omega)

theorem gt_int (n : Nat) (z : Int) (h : (n : Int) ≤ z) : decide (z < (n : Int)) = false := decide_eq_false (by omega)
set_option maxHeartbeats 2000000 in
theorem put_yes (gen seq size : Int) (p : ByteArray) (w : World) (h1 : 128 ≤ size) (h2 : size ≤ 1024) (g0 : 0 ≤ gen) (hg : gen ≤ 4294967295) (s0 : 0 ≤ seq) (hs : seq ≤ 4294967295) (hp : (p.size : Int) ≤ size - 14) :
    Calls Try.prog 56 #[.int .i64 gen, .int .i64 seq, .string p, .int .i64 size] w fun e w' => e = .returned (.tuple #[.string (secB gen.toNat seq.toNat p size.toNat), .int .i64 0]) ∧ Below w.heap.size w w' := by
  have hro : roomI size = size - 14 := by unfold roomI; rw [if_neg (by omega)]
  have HRO := Lib.hid hro
  clear hro
  have hsr := smS_range (hdB p.size gen.toNat seq.toNat ++ p)
  have HSR := Lib.hid hsr
  clear hsr
  have hb2 : ∀ x n, (beB x n).size = n := beB_size
  have hpi : ∀ x, (putI x).size = 4 := putI_size
  have hzb : ∀ n, (zB n).size = n := zB_size
  have HM := Lib.hid (show (hdB p.size gen.toNat seq.toNat ++ p).size ≤ maxLen by rw [ByteArray.size_append, hdB_size]; unfold maxLen; omega)
  have hps : p.size ≤ 1010 := by omega
  have g1 : (size - 14 == 0) = false := by simp; omega
  have g2 : decide (gen < 0) = false := decide_eq_false (by omega)
  have g3 : decide (seq < 0) = false := decide_eq_false (by omega)
  have g4 : decide (4294967295 < gen) = false := decide_eq_false (by omega)
  have g5 : decide (4294967295 < seq) = false := decide_eq_false (by omega)
  have g6 : decide (size - 14 < (p.size : Int)) = false := decide_eq_false (by omega)
  have HA := Lib.hid (And.intro h1 (And.intro h2 (And.intro g0 (And.intro hg (And.intro s0 (And.intro hs hp))))))
  have hsz1 : 128 ≤ size := h1
  have hsz2 : size ≤ 1024 := h2
  clear h1 h2 g0 hg s0 hs hp
  go_enter Try.func56, Try.ntmps56
  go_wp2_with fail
  (with_reducible refine (room_any _ _).mono ?_); rintro _ w' ⟨rfl, rfl⟩
  rw [HRO.out]
  go_wp2_with fail
  (with_reducible refine (room_any _ _).mono ?_); rintro _ w' ⟨rfl, rfl⟩
  rw [HRO.out]
  go_wp2_with fail
  (with_reducible refine (bytes2_any _ _ (by omega) (by omega)).mono ?_); rintro _ w1 ⟨rfl, hb1⟩
  go_wp2_with fail
  (with_reducible refine (bytes4_any gen _ (by have := HA.out; omega) (by have := HA.out; omega)).mono ?_); rintro _ w2 ⟨rfl, hb2'⟩
  go_wp2_with fail
  (with_reducible refine (bytes4_any seq _ (by have := HA.out; omega) (by have := HA.out; omega)).mono ?_); rintro _ w3 ⟨rfl, hb3⟩
  go_wp2_with fail
  (with_reducible refine (sum_one _ (hdB p.size gen.toNat seq.toNat ++ p) _ HM.out (by simp [go_sem, hdB])).mono ?_); rintro _ w' ⟨rfl, rfl⟩
  go_wp2_with fail
  (with_reducible refine (put_any _ _ HSR.out.1 HSR.out.2).mono ?_); rintro _ w4 ⟨rfl, hb4⟩
  go_wp2_with fail
  (with_reducible refine (repeat_zerosI _ _ (by have := HA.out; omega) (by omega)).mono ?_); rintro _ w5 ⟨rfl, hb5⟩
  go_wp2
  go_ret2
  refine ⟨?_, bthen (bthen (balloc (bthen (bthen hb1 hb2') hb3) _) hb4) hb5⟩
  have e : (size - (14 + (p.size : Int))).toNat = size.toNat - (14 + p.size) := by omega
  rw [e]
  rfl

set_option maxHeartbeats 2000000 in
theorem put_long (gen seq size : Int) (p : ByteArray) (w : World) (h1 : 128 ≤ size) (h2 : size ≤ 1024) (g0 : 0 ≤ gen) (hg : gen ≤ 4294967295) (s0 : 0 ≤ seq) (hs : seq ≤ 4294967295) (hp : size - 14 < (p.size : Int)) :
    Calls Try.prog 56 #[.int .i64 gen, .int .i64 seq, .string p, .int .i64 size] w fun e w' => e = .returned (.tuple #[.string ⟨#[]⟩, .int .i64 5]) ∧ w' = w := by
  have hro : roomI size = size - 14 := by unfold roomI; rw [if_neg (by omega)]
  have HRO := Lib.hid hro
  clear hro
  have g1 : (size - 14 == 0) = false := by simp; omega
  have g2 : decide (gen < 0) = false := decide_eq_false (by omega)
  have g3 : decide (seq < 0) = false := decide_eq_false (by omega)
  have g4 : decide (4294967295 < gen) = false := decide_eq_false (by omega)
  have g5 : decide (4294967295 < seq) = false := decide_eq_false (by omega)
  have g6 : decide (size - 14 < (p.size : Int)) = true := decide_eq_true (by omega)
  clear h1 h2 g0 hg s0 hs hp
  go_enter Try.func56, Try.ntmps56
  go_wp2_with fail
  (with_reducible refine (room_any _ _).mono ?_); rintro _ w' ⟨rfl, rfl⟩
  rw [HRO.out]
  go_wp2_with fail
  (with_reducible refine (room_any _ _).mono ?_); rintro _ w' ⟨rfl, rfl⟩
  rw [HRO.out]
  go_wp2
  go_ret2
  exact ⟨rfl, rfl⟩

set_option maxHeartbeats 2000000 in
theorem put_range (gen seq size : Int) (p : ByteArray) (w : World) (h : size < 128 ∨ 1024 < size ∨ gen < 0 ∨ 4294967295 < gen ∨ seq < 0 ∨ 4294967295 < seq) :
    Calls Try.prog 56 #[.int .i64 gen, .int .i64 seq, .string p, .int .i64 size] w fun e w' => e = .returned (.tuple #[.string ⟨#[]⟩, .int .i64 1]) ∧ w' = w := by
  by_cases h1 : size < 128 ∨ 1024 < size
  · have HRO := Lib.hid (show roomI size = 0 by unfold roomI; rw [if_pos h1])
    clear h h1
    go_enter Try.func56, Try.ntmps56
    go_wp2_with fail
    (with_reducible refine (room_any _ _).mono ?_); rintro _ w' ⟨rfl, rfl⟩
    rw [HRO.out]
    go_wp2
    go_ret2
    exact ⟨rfl, rfl⟩
  have HRO := Lib.hid (show roomI size = size - 14 by unfold roomI; rw [if_neg h1])
  have g1 : (size - 14 == 0) = false := by simp; omega
  have h := h
  by_cases h2 : gen < 0
  · have g2 : decide (gen < 0) = true := decide_eq_true h2
    clear h h1 h2
    go_enter Try.func56, Try.ntmps56
    go_wp2_with fail
    (with_reducible refine (room_any _ _).mono ?_); rintro _ w' ⟨rfl, rfl⟩
    rw [HRO.out]
    go_wp2
    go_ret2
    exact ⟨rfl, rfl⟩
  have g2 : decide (gen < 0) = false := decide_eq_false h2
  by_cases h3 : 4294967295 < gen
  · have g4 : decide (4294967295 < gen) = true := decide_eq_true h3
    clear h h1 h2 h3
    go_enter Try.func56, Try.ntmps56
    go_wp2_with fail
    (with_reducible refine (room_any _ _).mono ?_); rintro _ w' ⟨rfl, rfl⟩
    rw [HRO.out]
    go_wp2
    go_ret2
    exact ⟨rfl, rfl⟩
  have g4 : decide (4294967295 < gen) = false := decide_eq_false h3
  by_cases h4 : seq < 0
  · have g3 : decide (seq < 0) = true := decide_eq_true h4
    clear h h1 h2 h3 h4
    go_enter Try.func56, Try.ntmps56
    go_wp2_with fail
    (with_reducible refine (room_any _ _).mono ?_); rintro _ w' ⟨rfl, rfl⟩
    rw [HRO.out]
    go_wp2
    go_ret2
    exact ⟨rfl, rfl⟩
  have g3 : decide (seq < 0) = false := decide_eq_false h4
  have g5 : decide (4294967295 < seq) = true := decide_eq_true (by omega)
  clear h h1 h2 h3 h4
  go_enter Try.func56, Try.ntmps56
  go_wp2_with fail
  (with_reducible refine (room_any _ _).mono ?_); rintro _ w' ⟨rfl, rfl⟩
  rw [HRO.out]
  go_wp2
  go_ret2
  exact ⟨rfl, rfl⟩

theorem put_any4 (gen seq size : Int) (p : ByteArray) (w : World) :
    Calls Try.prog 56 #[.int .i64 gen, .int .i64 seq, .string p, .int .i64 size] w fun e w' => e = .returned (.tuple #[.string (outB gen seq p size), .int .i64 (errI gen seq p size)]) ∧ Below w.heap.size w w' := by
  by_cases h : size < 128 ∨ 1024 < size ∨ gen < 0 ∨ 4294967295 < gen ∨ seq < 0 ∨ 4294967295 < seq
  · have e : errI gen seq p size = 1 := by unfold errI; rw [if_pos h]
    have e2 : outB gen seq p size = ⟨#[]⟩ := by unfold outB; rw [e, if_neg (by omega)]
    rw [e, e2]
    exact (put_range gen seq size p w h).mono fun _ _ ⟨h1, h2⟩ => ⟨h1, by rw [h2]; exact Below.refl _ _⟩
  · by_cases h2 : size - 14 < (p.size : Int)
    · have e : errI gen seq p size = 5 := by unfold errI; rw [if_neg h, if_pos h2]
      have e2 : outB gen seq p size = ⟨#[]⟩ := by unfold outB; rw [e, if_neg (by omega)]
      rw [e, e2]
      exact (put_long gen seq size p w (by omega) (by omega) (by omega) (by omega) (by omega) (by omega) h2).mono fun _ _ ⟨h1, h2⟩ => ⟨h1, by rw [h2]; exact Below.refl _ _⟩
    · have e : errI gen seq p size = 0 := by unfold errI; rw [if_neg h, if_neg h2]
      have e2 : outB gen seq p size = secB gen.toNat seq.toNat p size.toNat := by unfold outB; rw [e, if_pos rfl]
      rw [e, e2]
      exact put_yes gen seq size p w (by omega) (by omega) (by omega) (by omega) (by omega) (by omega) (by omega)
end Go.Proofs.Yteidhbjfmmodhaa
