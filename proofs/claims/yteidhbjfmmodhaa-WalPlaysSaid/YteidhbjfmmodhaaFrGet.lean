/- The walk over the sectors' Get. -/
import Derived.Test.YteidhbjfmmodhaaFrWalk
import Derived.Deep.QuietTactic
import Derived.BigQuiet
namespace Go.Proofs.Yteidhbjfmmodhaa
open Go.RowKit Crc Fr

theorem results_tmp4 {fn : Func} {t u v x : Tmp} (h : fn.results = #[.tmp t, .tmp u, .tmp v, .tmp x]) (tmps : Array Value) (P : Program) (w : World) :
    (results fn tmps).run P w = .ok (.tuple #[tmps.getD t undef, tmps.getD u undef, tmps.getD v undef, tmps.getD x undef]) w := by
  simp [results, h]

theorem extract_size (s : ByteArray) (i j : Nat) (h1 : j ≤ s.size) (h2 : i ≤ j) : (s.extract i j).size = j - i := by rw [ByteArray.size_extract]; omega

set_option maxHeartbeats 2000000 in
theorem get_range (s : ByteArray) (w : World) (h : s.size < 128 ∨ 1024 < s.size) (hs : s.size ≤ 100000) :
    Calls Try.prog 37 #[.string s] w fun e w' => e = .returned (.tuple #[.int .i64 0, .int .i64 0, .string ⟨#[]⟩, .bool false]) ∧ w' = w := by
  have HRO := Lib.hid (show roomI (s.size : Int) = 0 by unfold roomI; rw [if_pos (by omega)])
  clear h
  go_enter Try.func37, Try.ntmps37
  go_wp2_with fail
  (with_reducible refine (room_any _ _).mono ?_); rintro _ w' ⟨rfl, rfl⟩
  rw [HRO.out]
  go_wp2
  refine bodyPost_ret (results_tmp4 rfl _ _ _) rfl ?_
  exact ⟨rfl, rfl⟩

set_option maxHeartbeats 2000000 in
theorem get_short (s : ByteArray) (w : World) (h1 : 128 ≤ s.size) (h2 : s.size ≤ 1024) (h3 : s.size - 14 < lenOf s) :
    Calls Try.prog 37 #[.string s] w fun e w' => e = .returned (.tuple #[.int .i64 0, .int .i64 0, .string ⟨#[]⟩, .bool false]) ∧ w' = w := by
  have HRO := Lib.hid (show roomI (s.size : Int) = (s.size : Int) - 14 by unfold roomI; rw [if_neg (by omega)])
  have HN := Lib.hid (show valS (s.extract 0 2) = lenOf s from rfl)
  have g1 : ((s.size : Int) - 14 == 0) = false := by simp; omega
  have g2 : decide ((s.size : Int) - 14 < (lenOf s : Int)) = true := decide_eq_true (by omega)
  clear h3
  go_enter Try.func37, Try.ntmps37
  go_wp2_with fail
  (with_reducible refine (room_any _ _).mono ?_); rintro _ w' ⟨rfl, rfl⟩
  rw [HRO.out]
  go_wp2_with fail
  (with_reducible refine (number_any _ _ (by rw [extract_size _ _ _ (by omega) (by omega)]; omega)).mono ?_); rintro _ w' ⟨rfl, rfl⟩
  rw [HN.out]
  go_wp2
  refine bodyPost_ret (results_tmp4 rfl _ _ _) rfl ?_
  exact ⟨rfl, rfl⟩

theorem val4 (s : ByteArray) (i j : Nat) (h1 : j ≤ s.size) (h2 : j = i + 4) : valS (s.extract i j) < 4294967296 := by
  have := valS_lt (s.extract i j)
  rw [extract_size _ _ _ h1 (by omega), show j - i = 4 by omega] at this
  exact this

theorem put_sec (gen seq size : Nat) (p : ByteArray) (w : World) (h1 : 128 ≤ size) (h2 : size ≤ 1024) (hg : gen < 4294967296) (hs : seq < 4294967296) (hp : p.size ≤ size - 14) :
    Calls Try.prog 56 #[.int .i64 gen, .int .i64 seq, .string p, .int .i64 size] w fun e w' => e = .returned (.tuple #[.string (secB gen seq p size), .int .i64 0]) ∧ Below w.heap.size w w' :=
  put_yes gen seq size p w (by omega) (by omega) (by omega) (by omega) (by omega) (by omega) (by omega)
theorem _root_.Go.RowKit.Below.drewN {B : Nat} {a w : World} (h : Below B a w) (n : Nat) : Below B a (w.drewN n) := ⟨h.os, h.tape, h.output, h.size, h.block⟩

set_option maxHeartbeats 2000000 in
theorem get_long (s : ByteArray) (w : World) (h1 : 128 ≤ s.size) (h2 : s.size ≤ 1024) (h3 : lenOf s ≤ s.size - 14) :
    Calls Try.prog 37 #[.string s] w fun e w' => e = .returned (.tuple #[.int .i64 (genI s), .int .i64 (seqI s), .string (payB s), .bool (okB s)]) ∧ Below w.heap.size w w' := by
  have HRO := Lib.hid (show roomI (s.size : Int) = (s.size : Int) - 14 by unfold roomI; rw [if_neg (by omega)])
  have HN := Lib.hid (show valS (s.extract 0 2) = lenOf s from rfl)
  have HG := Lib.hid (show valS (s.extract 2 6) = genOf s from rfl)
  have HS := Lib.hid (show valS (s.extract 6 10) = seqOf s from rfl)
  have HG4 := Lib.hid (show genOf s < 4294967296 from val4 s 2 6 (by omega) rfl)
  have HS4 := Lib.hid (show seqOf s < 4294967296 from val4 s 6 10 (by omega) rfl)
  obtain ⟨n, hn⟩ : ∃ n, n = lenOf s := ⟨_, rfl⟩
  have HP := Lib.hid (show s.extract 14 (14 + n) = payOf s by rw [hn]; rfl)
  have HPS := Lib.hid (show (payOf s).size = n by rw [← HP.out]; rw [extract_size _ _ _ (by omega) (by omega)]; omega)
  rw [← hn] at HN h3
  have HOK := Lib.hid (show okB s = decide (secB (genOf s) (seqOf s) (payOf s) s.size = s) by unfold okB; rw [← hn]; simp [h1, h2, h3])
  clear hn
  have g1 : ((s.size : Int) - 14 == 0) = false := by simp; omega
  have g2 : decide ((s.size : Int) - 14 < (n : Int)) = false := decide_eq_false (by omega)
  have h4 : 14 + n ≤ s.size := by omega
  have h5 : 14 + (n : Int) ≤ (s.size : Int) := by omega
  go_enter Try.func37, Try.ntmps37
  go_wp2_with fail
  (with_reducible refine (room_any _ _).mono ?_); rintro _ w' ⟨rfl, rfl⟩
  rw [HRO.out]
  go_wp2_with fail
  (with_reducible refine (number_any _ _ (by rw [extract_size _ _ _ (by omega) (by omega)]; omega)).mono ?_); rintro _ w' ⟨rfl, rfl⟩
  rw [HN.out]
  go_wp2
  go_quiet (first
    | (go_at_call_of 61 (s.extract 2 6); refine Calls.quiet_of_same (number_any _ _ (by rw [extract_size _ _ _ (by omega) (by omega)]; omega)))
    | (go_at_call_of 61 (s.extract 6 10); refine Calls.quiet_of_same (number_any _ _ (by rw [extract_size _ _ _ (by omega) (by omega)]; omega))))
  rw [HG.out, HS.out]
  go_wp2_with fail
  rw [HP.out]
  (with_reducible refine (put_sec (genOf s) (seqOf s) s.size (payOf s) _ h1 h2 HG4.out HS4.out (by rw [HPS.out]; omega)).mono ?_); rintro _ w1 ⟨rfl, hb1⟩
  have hb2 : Below w'.heap.size w' w1 := (Below.drewN (Below.refl _ _) nq).trans hb1
  clear hb1
  have HE := Lib.hid (show ((secB (genOf s) (seqOf s) (payOf s) s.size).toList == s.toList) = okB s by rw [HOK.out, strEq])
  cases hok : okB s
  · have hg : genI s = 0 := by unfold genI; rw [hok]; rfl
    have hq : seqI s = 0 := by unfold seqI; rw [hok]; rfl
    have hp : payB s = ⟨#[]⟩ := by unfold payB; rw [hok]; rfl
    have HF := Lib.hid (And.intro hg (And.intro hq (And.intro hp hok)))
    clear hg hq hp
    have he := HE.out
    rw [hok] at he
    clear hok
    go_wp2
    refine bodyPost_ret (results_tmp4 rfl _ _ _) rfl ?_
    exact ⟨by rw [HF.out.1, HF.out.2.1, HF.out.2.2.1, HF.out.2.2.2]; rfl, hb2⟩
  · have hg : genI s = genOf s := by unfold genI; rw [hok]; rfl
    have hq : seqI s = seqOf s := by unfold seqI; rw [hok]; rfl
    have hp : payB s = payOf s := by unfold payB; rw [hok]; rfl
    have HF := Lib.hid (And.intro hg (And.intro hq (And.intro hp hok)))
    clear hg hq hp
    have he := HE.out
    rw [hok] at he
    clear hok
    go_wp2
    refine bodyPost_ret (results_tmp4 rfl _ _ _) rfl ?_
    exact ⟨by rw [HF.out.1, HF.out.2.1, HF.out.2.2.1, HF.out.2.2.2]; rfl, hb2⟩

theorem get_any (s : ByteArray) (w : World) (hs : s.size ≤ 100000) :
    Calls Try.prog 37 #[.string s] w fun e w' => e = .returned (.tuple #[.int .i64 (genI s), .int .i64 (seqI s), .string (payB s), .bool (okB s)]) ∧ Below w.heap.size w w' := by
  by_cases h : s.size < 128 ∨ 1024 < s.size
  · have hok : okB s = false := by unfold okB; rcases h with h | h <;> simp <;> omega
    unfold genI seqI payB
    rw [hok]
    exact (get_range s w h hs).mono fun _ _ ⟨h1, h2⟩ => ⟨h1, by rw [h2]; exact Below.refl _ _⟩
  · by_cases h3 : s.size - 14 < lenOf s
    · have hok : okB s = false := by unfold okB; simp; omega
      unfold genI seqI payB
      rw [hok]
      exact (get_short s w (by omega) (by omega) h3).mono fun _ _ ⟨h1, h2⟩ => ⟨h1, by rw [h2]; exact Below.refl _ _⟩
    · exact get_long s w (by omega) (by omega) (by omega)
end Go.Proofs.Yteidhbjfmmodhaa
