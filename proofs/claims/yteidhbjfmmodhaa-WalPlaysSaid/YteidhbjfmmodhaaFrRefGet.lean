/- The walk over the sectors' reference, Get. -/
import Derived.Test.YteidhbjfmmodhaaFrRef
namespace Go.Proofs.Yteidhbjfmmodhaa
open Go.RowKit Crc Fr

theorem zero_results (s : ByteArray) (h : okB s = false) : Value.tuple #[.int .i64 (genI s), .int .i64 (seqI s), .string (payB s), .bool (okB s)] = .tuple #[.int .i64 0, .int .i64 0, .string ⟨#[]⟩, .bool false] := by
  unfold genI seqI payB; rw [h]; rfl

set_option maxHeartbeats 2000000 in
theorem rget_range (s : ByteArray) (w : World) (h : s.size < 128 ∨ 1024 < s.size) :
    Calls Try.prog 43 #[.string s] w fun e w' => e = .returned (.tuple #[.int .i64 0, .int .i64 0, .string ⟨#[]⟩, .bool false]) ∧ w' = w := by
  by_cases h1 : s.size < 128
  · have g1 : decide ((s.size : Int) < 128) = true := decide_eq_true (by omega)
    clear h
    go_enter Try.func43, Try.ntmps43
    go_wp2
    refine bodyPost_ret (results_tmp4 rfl _ _ _) rfl ?_
    exact ⟨rfl, rfl⟩
  · have g1 : decide ((s.size : Int) < 128) = false := decide_eq_false (by omega)
    have g2 : decide (1024 < (s.size : Int)) = true := decide_eq_true (by omega)
    clear h h1
    go_enter Try.func43, Try.ntmps43
    go_wp2
    refine bodyPost_ret (results_tmp4 rfl _ _ _) rfl ?_
    exact ⟨rfl, rfl⟩

set_option maxHeartbeats 2000000 in
theorem rget_short (s : ByteArray) (w : World) (h1 : 128 ≤ s.size) (h2 : s.size ≤ 1024) (h3 : s.size - 14 < lenOf s) :
    Calls Try.prog 43 #[.string s] w fun e w' => e = .returned (.tuple #[.int .i64 0, .int .i64 0, .string ⟨#[]⟩, .bool false]) ∧ w' = w := by
  have HN := Lib.hid (show valS (s.extract 0 2) = lenOf s from rfl)
  have g0 : decide ((s.size : Int) < 128) = false := decide_eq_false (by omega)
  have g1 : decide (1024 < (s.size : Int)) = false := decide_eq_false (by omega)
  have g2 : decide ((s.size : Int) - 14 < (lenOf s : Int)) = true := decide_eq_true (by omega)
  clear h3
  go_enter Try.func43, Try.ntmps43
  go_wp2_with fail
  (with_reducible refine (value_any _ _ (by rw [extract_size _ _ _ (by omega) (by omega)]; omega)).mono ?_); rintro _ w' ⟨rfl, rfl⟩
  rw [HN.out]
  go_wp2
  refine bodyPost_ret (results_tmp4 rfl _ _ _) rfl ?_
  exact ⟨rfl, rfl⟩

theorem getD_byte (s : ByteArray) (k : Nat) (h : k < s.size) : s.data.toList.getD k 0 = s[k] := by
  have : k < s.data.toList.length := by rw [list_length]; exact h
  simp only [List.getD, List.getElem?_eq_getElem this, Option.getD_some]
  rfl

set_option maxHeartbeats 4000000 in
theorem rget_long (s : ByteArray) (w : World) (h1 : 128 ≤ s.size) (h2 : s.size ≤ 1024) (h3 : lenOf s ≤ s.size - 14) :
    Calls Try.prog 43 #[.string s] w fun e w' => e = .returned (.tuple #[.int .i64 (genI s), .int .i64 (seqI s), .string (payB s), .bool (okB s)]) ∧ Below w.heap.size w w' := by
  have HOK := Lib.hid (ok_iff s h1 h2 h3)
  have HN := Lib.hid (show valS (s.extract 0 2) = lenOf s from rfl)
  have HG := Lib.hid (show valS (s.extract 2 6) = genOf s from rfl)
  have HS := Lib.hid (show valS (s.extract 6 10) = seqOf s from rfl)
  obtain ⟨n, hn⟩ : ∃ n, n = lenOf s := ⟨_, rfl⟩
  have HP := Lib.hid (show s.extract 14 (14 + n) = payOf s by rw [hn]; rfl)
  rw [← hn] at HN h3 HOK
  clear hn
  have g0 : decide ((s.size : Int) < 128) = false := decide_eq_false (by omega)
  have g1 : decide (1024 < (s.size : Int)) = false := decide_eq_false (by omega)
  have g2 : decide ((s.size : Int) - 14 < (n : Int)) = false := decide_eq_false (by omega)
  have h4 : 14 + n ≤ s.size := by omega
  have h5 : 14 + (n : Int) ≤ (s.size : Int) := by omega
  go_enter Try.func43, Try.ntmps43
  go_wp2_with fail
  (with_reducible refine (value_any _ _ (by rw [extract_size _ _ _ (by omega) (by omega)]; omega)).mono ?_); rintro _ w' ⟨rfl, rfl⟩
  rw [HN.out]
  go_wp2
  go_loop [7] (fun i => ∃ k : Nat, 14 + n ≤ k ∧ k ≤ s.size ∧ i = .int .i64 k ∧ (∀ j, 14 + n ≤ j → j < k → s.data.toList.getD j 0 = 0)) (fun i => s.size - (intOf i).toNat)
  case atStart => exact ⟨14 + n, by omega, by omega, by go_num, fun j h6 h7 => by omega⟩
  case round =>
    obtain ⟨k, hk1, hk2, rfl, hz⟩ := hrel
    have HZ := Lib.hid hz
    clear hz
    by_cases hlt : k < s.size
    · by_cases hb : s[k] = 0
      · have HB := Lib.hid hb
        have hb1 : ((s[k].toNat : Int) == 0) = true := by rw [hb]; rfl
        have hb2 : ((s[k].toNat : Int) != 0) = false := by rw [hb]; rfl
        clear hb
        go_wp2
        go_round
        case rel =>
          refine ⟨k + 1, by omega, by omega, by go_num, fun j h6 h7 => ?_⟩
          by_cases e : j = k
          · subst e; rw [getD_byte s j hlt]; exact HB.out
          · exact HZ.out j h6 (by omega)
        case measure => simp [intOf]; omega
      · have hb0 : s[k].toNat ≠ 0 := fun h => hb (UInt8.toNat_inj.1 h)
        have hb1 : ((s[k].toNat : Int) == 0) = false := by simp; exact hb0
        have hb2 : ((s[k].toNat : Int) != 0) = true := by simp; exact hb0
        have HF := Lib.hid (show okB s = false by
          cases hok : okB s
          · rfl
          · have := (HOK.out.1 hok).1 k hk1 hlt
            rw [getD_byte s k hlt] at this
            exact absurd this hb)
        clear hb hb0
        go_wp2
        refine bodyPost_ret (results_tmp4 rfl _ _ _) rfl ?_
        exact ⟨by rw [zero_results s HF.out]; rfl, Below.refl _ _⟩
    · obtain rfl : k = s.size := by omega
      have hx10 := Lib.hid (extract_size s 0 10 (by omega) (by omega))
      have hcat : (s.extract 0 10 ++ s.extract 14 (14 + n)).size = 10 + n := by rw [ByteArray.size_append, hx10.out, extract_size _ _ _ h4 (by omega)]; omega
      have HM := Lib.hid (show (s.extract 0 10 ++ s.extract 14 (14 + n)).size ≤ maxLen by rw [hcat]; unfold maxLen; omega)
      clear hcat
      have HSR := Lib.hid (smS_range (s.extract 0 10 ++ s.extract 14 (14 + n)))
      by_cases hc : s.extract 10 14 = putI (smS (s.extract 0 10 ++ s.extract 14 (14 + n)))
      · have HT := Lib.hid (show okB s = true from HOK.out.2 ⟨fun i h6 h7 => HZ.out i h6 h7, hc⟩)
        have hc2 : ((s.extract 10 14).toList == (putI (smS (s.extract 0 10 ++ s.extract 14 (14 + n)))).toList) = true := by rw [strEq]; simpa using hc
        clear hc
        go_wp2
        refine Ord.wp_region_ord (fun _ => True) [([0, 1, 2, 3, 4, 5, 6, 7, 8], 9), ([], 10)] [11] (by kernel_rfl) (by kernel_rfl) trivial ?_
        refine Ord.wpOrd_seg [_, _, _, _, _, _, _, _, _] _ rfl rfl ?_
        simp only [List.getElem_toArray, List.getElem_cons_zero, List.getElem_cons_succ]
        repeat first | go_big_quiet_skip | (go_big_quiet_want; go_big_quiet_op; first | go_big_quiet_on | (apply Exists.intro; refine ⟨fun _ => ?_, ?_⟩; (focus (intros; first | rfl | (simp only [*]; rfl) | (simp [*]; rfl))); go_big_quiet_on))
        refine wpQuiet_nil ?_
        go_wp2_with fail
        (with_reducible refine (rsum_any _ _ HM.out).mono ?_); rintro _ w' ⟨rfl, rfl⟩
        go_wp2
        refine ⟨trivial, ?_⟩
        refine Ord.wpOrd_seg [] _ rfl rfl ?_
        simp only [List.getElem_toArray, List.getElem_cons_zero, List.getElem_cons_succ]
        refine wpQuiet_nil ?_
        go_wp2_with fail
        (with_reducible refine (rput_any _ _ HSR.out.1 HSR.out.2).mono ?_); rintro _ w1 ⟨rfl, hb1⟩
        go_wp2
        refine ⟨trivial, ?_⟩
        refine Ord.wpOrd_last [_] rfl ?_
        simp only [List.getElem_toArray, List.getElem_cons_zero, List.getElem_cons_succ]
        repeat first | go_big_quiet_skip | (go_big_quiet_want; go_big_quiet_op; first | go_big_quiet_on | (apply Exists.intro; refine ⟨fun _ => ?_, ?_⟩; (focus (intros; first | rfl | (simp only [*]; rfl) | (simp [*]; rfl))); go_big_quiet_on))
        refine wpQuiet_nil ?_
        go_wp2
        go_quiet (first
          | (go_at_call_of 65 (s.extract 2 6); refine Calls.quiet_of_same (value_any _ _ (by rw [extract_size _ _ _ (by omega) (by omega)]; omega)))
          | (go_at_call_of 65 (s.extract 6 10); refine Calls.quiet_of_same (value_any _ _ (by rw [extract_size _ _ _ (by omega) (by omega)]; omega))))
        rw [HG.out, HS.out]
        go_wp2
        refine bodyPost_ret (results_tmp4 rfl _ _ _) rfl ?_
        refine ⟨?_, Below.drewN ((Below.drew (Below.refl _ _)).trans hb1) _⟩
        unfold genI seqI payB
        rw [HT.out, ← HP.out]
        rfl
      · have HT := Lib.hid (show okB s = false by
          cases hok : okB s
          · rfl
          · exact absurd (HOK.out.1 hok).2 hc)
        have hc2 : ((s.extract 10 14).toList == (putI (smS (s.extract 0 10 ++ s.extract 14 (14 + n)))).toList) = false := by rw [strEq]; simpa using hc
        clear hc
        go_wp2
        refine Ord.wp_region_ord (fun _ => True) [([0, 1, 2, 3, 4, 5, 6, 7, 8], 9), ([], 10)] [11] (by kernel_rfl) (by kernel_rfl) trivial ?_
        refine Ord.wpOrd_seg [_, _, _, _, _, _, _, _, _] _ rfl rfl ?_
        simp only [List.getElem_toArray, List.getElem_cons_zero, List.getElem_cons_succ]
        repeat first | go_big_quiet_skip | (go_big_quiet_want; go_big_quiet_op; first | go_big_quiet_on | (apply Exists.intro; refine ⟨fun _ => ?_, ?_⟩; (focus (intros; first | rfl | (simp only [*]; rfl) | (simp [*]; rfl))); go_big_quiet_on))
        refine wpQuiet_nil ?_
        go_wp2_with fail
        (with_reducible refine (rsum_any _ _ HM.out).mono ?_); rintro _ w' ⟨rfl, rfl⟩
        go_wp2
        refine ⟨trivial, ?_⟩
        refine Ord.wpOrd_seg [] _ rfl rfl ?_
        simp only [List.getElem_toArray, List.getElem_cons_zero, List.getElem_cons_succ]
        refine wpQuiet_nil ?_
        go_wp2_with fail
        (with_reducible refine (rput_any _ _ HSR.out.1 HSR.out.2).mono ?_); rintro _ w1 ⟨rfl, hb1⟩
        go_wp2
        refine ⟨trivial, ?_⟩
        refine Ord.wpOrd_last [_] rfl ?_
        simp only [List.getElem_toArray, List.getElem_cons_zero, List.getElem_cons_succ]
        repeat first | go_big_quiet_skip | (go_big_quiet_want; go_big_quiet_op; first | go_big_quiet_on | (apply Exists.intro; refine ⟨fun _ => ?_, ?_⟩; (focus (intros; first | rfl | (simp only [*]; rfl) | (simp [*]; rfl))); go_big_quiet_on))
        refine wpQuiet_nil ?_
        go_wp2
        refine bodyPost_ret (results_tmp4 rfl _ _ _) rfl ?_
        exact ⟨by rw [zero_results s HT.out]; rfl, (Below.drew (Below.refl _ _)).trans hb1⟩

theorem rget_any (s : ByteArray) (w : World) :
    Calls Try.prog 43 #[.string s] w fun e w' => e = .returned (.tuple #[.int .i64 (genI s), .int .i64 (seqI s), .string (payB s), .bool (okB s)]) ∧ Below w.heap.size w w' := by
  by_cases h : s.size < 128 ∨ 1024 < s.size
  · have hok : okB s = false := by unfold okB; rcases h with h | h <;> simp <;> omega
    rw [zero_results s hok]
    exact (rget_range s w h).mono fun _ _ ⟨h1, h2⟩ => ⟨h1, by rw [h2]; exact Below.refl _ _⟩
  · by_cases h3 : s.size - 14 < lenOf s
    · have hok : okB s = false := by unfold okB; simp; omega
      rw [zero_results s hok]
      exact (rget_short s w (by omega) (by omega) h3).mono fun _ _ ⟨h1, h2⟩ => ⟨h1, by rw [h2]; exact Below.refl _ _⟩
    · exact rget_long s w (by omega) (by omega) (by omega)
end Go.Proofs.Yteidhbjfmmodhaa
