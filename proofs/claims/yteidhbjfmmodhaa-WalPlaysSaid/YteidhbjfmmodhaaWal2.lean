/- The walks over the log's own calls. -/
import Derived.Test.YteidhbjfmmodhaaWal
namespace Go.Proofs.Yteidhbjfmmodhaa
open Go.RowKit Crc Fr

/-- A log, in memory. -/
def LogI (w : World) (bw bd : Nat) (l : Lg) : Prop := Blk w bw [ptr bd, .int .i64 l.area, .int .i64 l.gen, .int .i64 l.recs.length, .bool l.broken] 66
theorem LogI.mod {S : List Nat} {w w' : World} {bw bd : Nat} {l : Lg} (h : LogI w bw bd l) (hm : Mod S w w') (hs : bw ∉ S) : LogI w' bw bd l := Blk.mod h hm hs

set_option maxHeartbeats 1000000 in
theorem gen_any (bw bd : Nat) (l : Lg) (w : World) (h : LogI w bw bd l) :
    Calls Try.prog 13 #[ptr bw] w fun e w' => e = .returned (.int .i64 l.gen) ∧ w' = w := by
  obtain ⟨c0, c1, c2, c3, c4, fz⟩ := Blk.cells5 h
  clear h c0 c1 c3 c4 fz
  go_enter Try.func13, Try.ntmps13
  go_wp2
  go_ret
  exact ⟨rfl, rfl⟩
set_option maxHeartbeats 1000000 in
theorem broken_any (bw bd : Nat) (l : Lg) (w : World) (h : LogI w bw bd l) :
    Calls Try.prog 20 #[ptr bw] w fun e w' => e = .returned (.bool l.broken) ∧ w' = w := by
  obtain ⟨c0, c1, c2, c3, c4, fz⟩ := Blk.cells5 h
  clear h c0 c1 c2 c3 fz
  go_enter Try.func20, Try.ntmps20
  go_wp2
  go_ret
  exact ⟨rfl, rfl⟩

set_option maxHeartbeats 1000000 in
theorem may_any (bw bd bs bf : Nat) (d : D) (av : List Nat) (l : Lg) (s : ByteArray) (w : World) (h : LogI w bw bd l) (hd : DiskI w bd bs bf d av) :
    Calls Try.prog 38 #[ptr bw, .string s] w fun e w' => e = .returned (.int .i64 (mayE d l s)) ∧ w' = w := by
  obtain ⟨c0, c1, c2, c3, c4, fz⟩ := Blk.cells5 h
  have H := Lib.hid hd
  clear h c1 c2 c3 fz hd
  obtain ⟨m, hm⟩ : ∃ m, m = mayE d l s := ⟨_, rfl⟩
  rw [← hm]
  have hr : roomI d.size = (d.size : Int) - 14 := by have := H.out.fits.s1; have := H.out.fits.s2; unfold roomI; rw [if_neg (by omega)]
  have HR := Lib.hid hr
  clear hr
  cases hb : l.broken
  · rw [hb] at c4
    by_cases hs : (d.size : Int) - 14 < s.size
    · have HM := Lib.hid (show m = 5 by rw [hm]; unfold mayE; rw [hb, if_neg (by simp), if_pos hs])
      clear hm hb
      go_enter Try.func38, Try.ntmps38
      go_wp2_with fail
      (with_reducible refine (size_any bd bs bf d av _ H.out).mono ?_); rintro _ w' ⟨rfl, rfl⟩
      go_wp2_with fail
      (with_reducible refine (room_any _ _).mono ?_); rintro _ w' ⟨rfl, rfl⟩
      rw [HR.out]
      go_wp2
      go_ret
      exact ⟨by rw [HM.out]; rfl, rfl⟩
    · have HM := Lib.hid (show m = 0 by rw [hm]; unfold mayE; rw [hb, if_neg (by simp), if_neg hs])
      have hs' : decide ((d.size : Int) - 14 < s.size) = false := decide_eq_false hs
      clear hm hb hs
      go_enter Try.func38, Try.ntmps38
      go_wp2_with fail
      (with_reducible refine (size_any bd bs bf d av _ H.out).mono ?_); rintro _ w' ⟨rfl, rfl⟩
      go_wp2_with fail
      (with_reducible refine (room_any _ _).mono ?_); rintro _ w' ⟨rfl, rfl⟩
      rw [HR.out]
      go_wp2
      go_ret
      exact ⟨by rw [HM.out]; rfl, rfl⟩
  · rw [hb] at c4
    have HM := Lib.hid (show m = 2 by rw [hm]; unfold mayE; rw [hb]; rfl)
    clear hm hb
    go_enter Try.func38, Try.ntmps38
    go_wp2
    go_ret
    exact ⟨by rw [HM.out]; rfl, rfl⟩

set_option maxHeartbeats 1000000 in
theorem wroom_any (bw bd bs bf : Nat) (d : D) (av : List Nat) (l : Lg) (w : World) (h : LogI w bw bd l) (hd : DiskI w bd bs bf d av) (hl : l.recs.length + 1 ≤ d.half) :
    Calls Try.prog 14 #[ptr bw] w fun e w' => e = .returned (.int .i64 (roomN d l)) ∧ Mod [] w w' := by
  obtain ⟨c0, c1, c2, c3, c4, fz⟩ := Blk.cells5 h
  have H := Lib.hid hd
  have hh := half_two hd.fits
  have hw : wrap64 (wrap64 ((d.half : Int) - 1) - (l.recs.length : Int)) = roomN d l := by
    unfold roomN
    rw [IntWalk.wrap64_in ((d.half : Int) - 1) (by omega), IntWalk.wrap64_in _ (by omega)]
  have HW := Lib.hid hw
  clear h hd c1 c2 c4 fz hh hw hl
  go_enter Try.func14, Try.ntmps14
  go_wp2_with fail
  refine Ord.wp_region_ord (fun w' => w'.cell? ⟨bw, 0, none⟩ = some (ptr bd) ∧ w'.cell? ⟨bw, 3, none⟩ = some (.int .i64 l.recs.length)) [([0, 1, 2, 3, 6, 7, 8, 9], 4)] [5, 10, 11] (by kernel_rfl) (by kernel_rfl) ⟨c0, c3⟩ ?_
  refine Ord.wpOrd_seg [_, _, _, _, _, _, _, _] _ rfl rfl ?_
  simp only [List.getElem_toArray, List.getElem_cons_zero, List.getElem_cons_succ]
  repeat first | go_big_quiet_skip | (go_big_quiet_want; go_big_quiet_op; first | go_big_quiet_on | (apply Exists.intro; refine ⟨fun _ => ?_, ?_⟩; (focus (intros; first | rfl | (simp only [*]; rfl) | (simp [*]; rfl))); go_big_quiet_on))
  refine wpQuiet_nil ?_
  go_wp2_with fail
  (with_reducible refine (half_any bd bs bf d av _ (H.out.same (Mod.refl [] _).drew)).mono ?_); rintro _ w2 ⟨rfl, rfl⟩
  go_wp2
  refine ⟨⟨c0, c3⟩, ?_⟩
  refine Ord.wpOrd_last [_, _, _] rfl ?_
  simp only [List.getElem_toArray, List.getElem_cons_zero, List.getElem_cons_succ]
  repeat first | go_big_quiet_skip | (go_big_quiet_want; go_big_quiet_op; first | go_big_quiet_on | (apply Exists.intro; refine ⟨fun _ => ?_, ?_⟩; (focus (intros; first | rfl | (simp only [*]; rfl) | (simp [*]; rfl))); go_big_quiet_on))
  refine wpQuiet_nil ?_
  rw [HW.out]
  go_wp2
  go_ret
  exact ⟨rfl, (Mod.refl [] _).drew⟩

theorem may_zero {d : D} {l : Lg} {s : ByteArray} (h : mayE d l s = 0) : l.broken = false ∧ (s.size : Int) ≤ (d.size : Int) - 14 := by
  unfold mayE at h
  split at h
  · omega
  · split at h
    · omega
    · rename_i h1 h2
      exact ⟨by simpa using h1, by omega⟩

set_option maxHeartbeats 2000000 in
theorem append_any (bw bd bs bf : Nat) (d : D) (av : List Nat) (l : Lg) (s : ByteArray) (w : World) (h : LogI w bw bd l) (hd : DiskI w bd bs bf d av) (hf : LgFits d l) (hav : ∀ x ∈ av, x < w.heap.size) (hbw : bw ∈ av) :
    Calls Try.prog 16 #[ptr bw, .string s] w fun e w' => e = .returned (.int .i64 (appE d l s)) ∧
      LogI w' bw bd (appL d l s) ∧ DiskI w' bd bs bf (appD d l s) av ∧ Mod [bd, bs, bf, bw] w w' := by
  obtain ⟨c0, c1, c2, c3, c4, fz⟩ := Blk.cells5 h
  have H := Lib.hid h
  have HD := Lib.hid hd
  have HF := Lib.hid hf
  have HAV := Lib.hid hav
  have HBW := Lib.hid hbw
  clear c0 c1 c2 c3 c4 fz
  obtain ⟨m, hm⟩ : ∃ m, m = appE d l s := ⟨_, rfl⟩
  have HM := Lib.hid hm
  rw [← hm]
  clear hm
  by_cases hy : mayE d l s = 0
  · have HY := Lib.hid hy
    have hr0 : 0 ≤ roomN d l := by unfold roomN; have := hf.recs; omega
    by_cases hr : roomN d l = 0
    · have HR := Lib.hid hr
      clear h hd hf hav hbw hy hr0 hr
      go_enter Try.func16, Try.ntmps16
      go_wp2_with fail
      (with_reducible refine (may_any bw bd bs bf d av l s _ H.out HD.out).mono ?_); rintro _ w' ⟨rfl, rfl⟩
      rw [HY.out]
      go_wp2_with fail
      (with_reducible refine (wroom_any bw bd bs bf d av l _ H.out HD.out HF.out.recs).mono ?_); rintro _ w1 ⟨rfl, hm1⟩
      rw [HR.out]
      have HM1 := Lib.hid hm1
      clear hm1
      go_wp2
      go_ret
      refine ⟨by rw [HM.out]; unfold appE; rw [HY.out, HR.out]; rfl, ?_, ?_, HM1.out.mono (by simp)⟩
      · unfold appL; rw [if_pos (.inr HR.out)]; exact H.out.mod HM1.out (by simp)
      · unfold appD; rw [if_pos (.inr HR.out)]; exact HD.out.same HM1.out
    · have HR := Lib.hid hr
      have HRD := Lib.hid (show (roomN d l == 0) = false by simpa using hr)
      clear h hd hf hav hbw hy hr0 hr
      go_enter Try.func16, Try.ntmps16
      go_wp2_with fail
      (with_reducible refine (may_any bw bd bs bf d av l s _ H.out HD.out).mono ?_); rintro _ w' ⟨rfl, rfl⟩
      rw [HY.out]
      go_wp2_with fail
      (with_reducible refine (wroom_any bw bd bs bf d av l _ H.out HD.out HF.out.recs).mono ?_); rintro _ w1 ⟨rfl, hm1⟩
      have h1 := H.out.mod hm1 (by simp)
      obtain ⟨c0, c1, c2, c3, c4, fz⟩ := Blk.cells5 h1
      have H1 := Lib.hid h1
      have HM1 := Lib.hid hm1
      have hrd := HRD.out
      have hle : l.recs.length + 1 < d.half := by
        have h3 := HR.out
        have h4 := HF.out.recs
        unfold roomN at h3
        omega
      have hseq : wrap64 ((l.recs.length : Int) + 1) = ((l.recs.length + 1 : Nat) : Int) := by
        have := half_two HD.out.fits
        rw [IntWalk.wrap64_in _ (by omega)]; omega
      have HSEQ := Lib.hid hseq
      have HLE := Lib.hid hle
      have hz := may_zero HY.out
      have HZ := Lib.hid hz
      have h1b : Blk w1.drew bw [ptr bd, .int .i64 l.area, .int .i64 l.gen, .int .i64 l.recs.length, .bool false] 66 := by
        have h2 := h1
        unfold LogI at h2
        rw [hz.1] at h2
        exact h2
      have H1B := Lib.hid h1b
      have HD1 := Lib.hid (HD.out.same (hm1.drew))
      have HAV1 := Lib.hid (show ∀ x ∈ av, x < w1.drew.heap.size from fun x hx => Nat.lt_of_lt_of_le (HAV.out x hx) hm1.size)
      clear h1 hm1 c0 c4 hle hseq hz h1b
      go_wp2_with fail
      refine Ord.wp_region_ord (fun w' => w'.cell? ⟨bw, 1, none⟩ = some (.int .i64 l.area) ∧ w'.cell? ⟨bw, 2, none⟩ = some (.int .i64 l.gen) ∧ w'.cell? ⟨bw, 3, none⟩ = some (.int .i64 l.recs.length)) [([0, 1, 2, 3, 4, 5, 6, 7, 8, 9, 10, 11, 12, 13, 14], 15)] [16] (by kernel_rfl) (by kernel_rfl) ⟨c1, c2, c3⟩ ?_
      refine Ord.wpOrd_seg [_, _, _, _, _, _, _, _, _, _, _, _, _, _, _] _ rfl rfl ?_
      simp only [List.getElem_toArray, List.getElem_cons_zero, List.getElem_cons_succ]
      repeat first | go_big_quiet_skip | (go_big_quiet_want; go_big_quiet_op; first | go_big_quiet_on | (apply Exists.intro; refine ⟨fun _ => ?_, ?_⟩; (focus (intros; first | rfl | (simp only [*]; rfl) | (simp [*]; rfl))); go_big_quiet_on))
      refine wpQuiet_nil ?_
      go_wp2_with fail
      rw [HSEQ.out]
      (with_reducible refine (lay_any bw bd bs bf d av l.area l.gen (l.recs.length + 1) (.int .i64 l.area) (.int .i64 l.gen) (.int .i64 l.recs.length) s _ HD1.out HAV1.out H1B.out HBW.out (HF.out.opn HZ.out.1) HF.out.area HF.out.gen HLE.out HZ.out.2).mono ?_); rintro _ w2 ⟨rfl, hd2, hb2, hm2⟩
      obtain ⟨q0, q1, q2, q3, q4, qz⟩ := Blk.cells5 hb2
      have HD2 := Lib.hid hd2
      have HB2 := Lib.hid hb2
      have HM2 := Lib.hid (((HM1.out.drew).mono (S' := [bd, bs, bf, bw]) (by simp)).trans hm2)
      clear hd2 hb2 hm2 q0 q4 c1 c2 c3 fz
      cases hok : layOk d l.area l.gen (l.recs.length + 1) s
      · have HOK := Lib.hid hok
        have HE := Lib.hid (show layE d l.area l.gen (l.recs.length + 1) s = 2 by unfold layE; rw [hok]; rfl)
        have HN := Lib.hid (show ¬ (mayE d l s ≠ 0 ∨ roomN d l = 0) from by have := HY.out; have := HR.out; simp_all)
        clear hok
        rw [HE.out]
        go_wp2
        refine ⟨⟨q1, q2, q3⟩, ?_⟩
        refine Ord.wpOrd_last [_] rfl ?_
        simp only [List.getElem_toArray, List.getElem_cons_zero, List.getElem_cons_succ]
        repeat first | go_big_quiet_skip | (go_big_quiet_want; go_big_quiet_op; first | go_big_quiet_on | (apply Exists.intro; refine ⟨fun _ => ?_, ?_⟩; (focus (intros; first | rfl | (simp only [*]; rfl) | (simp [*]; rfl))); go_big_quiet_on))
        refine wpQuiet_nil ?_
        go_wp2
        go_ret
        refine ⟨by rw [HM.out]; unfold appE; rw [if_neg (by simp [HY.out]), if_neg HR.out, HOK.out]; rfl, ?_, ?_, HM2.out⟩
        · unfold appL; rw [if_neg HN.out, HOK.out]
          have := HB2.out
          rw [HOK.out] at this
          exact this
        · unfold appD; rw [if_neg HN.out]; exact HD2.out
      · have HOK := Lib.hid hok
        have HE := Lib.hid (show layE d l.area l.gen (l.recs.length + 1) s = 0 by unfold layE; rw [hok]; rfl)
        have HN := Lib.hid (show ¬ (mayE d l s ≠ 0 ∨ roomN d l = 0) from by have := HY.out; have := HR.out; simp_all)
        clear hok
        rw [HE.out]
        go_wp2_with fail
        refine ⟨⟨q1, q2, q3⟩, ?_⟩
        refine Ord.wpOrd_last [_] rfl ?_
        simp only [List.getElem_toArray, List.getElem_cons_zero, List.getElem_cons_succ]
        repeat first | go_big_quiet_skip | (go_big_quiet_want; go_big_quiet_op; first | go_big_quiet_on | (apply Exists.intro; refine ⟨fun _ => ?_, ?_⟩; (focus (intros; first | rfl | (simp only [*]; rfl) | (simp [*]; rfl))); go_big_quiet_on))
        refine wpQuiet_nil ?_
        go_wp2
        rw [HSEQ.out]
        go_ret
        refine ⟨by rw [HM.out]; unfold appE; rw [if_neg (by simp [HY.out]), if_neg HR.out, HOK.out]; rfl, ?_, ?_, HM2.out.setCell (by simp) _⟩
        · unfold appL; rw [if_neg HN.out, HOK.out]
          have := HB2.out.set 3 (.int .i64 ((l.recs.length + 1 : Nat) : Int))
          rw [HOK.out] at this
          unfold LogI
          simp only [if_true, List.length_append, List.length_singleton, HZ.out.1]
          exact this
        · unfold appD; rw [if_neg HN.out]; exact HD2.out.mod ((Mod.refl [bw] _).setCell (by simp) _) (by simp; exact HBW.out)
  · have HY := Lib.hid hy
    have hyd : (((mayE d l s : Nat) : Int) != 0) = true := by simp; exact hy
    have HT := Lib.hid (show m = mayE d l s by rw [HM.out]; unfold appE; rw [if_pos hy])
    clear h hd hf hav hbw hy
    go_enter Try.func16, Try.ntmps16
    go_wp2_with fail
    (with_reducible refine (may_any bw bd bs bf d av l s _ H.out HD.out).mono ?_); rintro _ w' ⟨rfl, rfl⟩
    go_wp2
    go_ret
    refine ⟨by rw [HT.out]; rfl, ?_, ?_, Mod.refl _ _⟩
    · unfold appL; rw [if_pos (.inl HY.out)]; exact H.out
    · unfold appD; rw [if_pos (.inl HY.out)]; exact HD.out
end Go.Proofs.Yteidhbjfmmodhaa
