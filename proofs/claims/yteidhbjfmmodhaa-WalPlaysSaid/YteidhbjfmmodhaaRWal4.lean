/- The walk over a checkpoint of the reference's log. -/
import Derived.Test.YteidhbjfmmodhaaRWal3
namespace Go.Proofs.Yteidhbjfmmodhaa
open Go.RowKit Crc Fr

theorem rlay_one (rw_ rd rf : Nat) (d : D) (av : List Nat) (area gen : Nat) (c1 c2 c3 : Value) (s : ByteArray) (w : World) (h : DiskR w rd rf d av) (hav : ∀ x ∈ av, x < w.heap.size)
    (hb : Blk w rw_ [ptr rd, c1, c2, c3, .bool false] 56) (hrw : rw_ ∈ av) (hop : d.opn = none) (ha : area ≤ 1) (hg : gen ≤ 4294967295) (hp : (s.size : Int) ≤ (d.size : Int) - 14) :
    Calls Try.prog 42 #[ptr rw_, .int .i64 area, .int .i64 gen, .int .i64 1, .string s] w fun e w' =>
      e = .returned (.bool (layOk d area gen 1 s)) ∧ DiskR w' rd rf (lay d area gen 1 s) av ∧
      Blk w' rw_ [ptr rd, c1, c2, c3, .bool (!layOk d area gen 1 s)] 56 ∧ Mod [rd, rf, rw_] w w' :=
  rlay_any rw_ rd rf d av area gen 1 c1 c2 c3 s w h hav hb hrw hop ha hg (by have := half_two h.fits; omega) hp
theorem rlay_head (rw_ rd rf : Nat) (d : D) (av : List Nat) (area gen : Nat) (c1 c2 c3 : Value) (w : World) (h : DiskR w rd rf d av) (hav : ∀ x ∈ av, x < w.heap.size)
    (hb : Blk w rw_ [ptr rd, c1, c2, c3, .bool false] 56) (hrw : rw_ ∈ av) (hop : d.opn = none) (ha : area ≤ 1) (hg : gen ≤ 4294967295) :
    Calls Try.prog 42 #[ptr rw_, .int .i64 area, .int .i64 gen, .int .i64 0, .string ⟨#[104, 101, 97, 100]⟩] w fun e w' =>
      e = .returned (.bool (layOk d area gen 0 headS)) ∧ DiskR w' rd rf (lay d area gen 0 headS) av ∧
      Blk w' rw_ [ptr rd, c1, c2, c3, .bool (!layOk d area gen 0 headS)] 56 ∧ Mod [rd, rf, rw_] w w' :=
  rlay_any rw_ rd rf d av area gen 0 c1 c2 c3 headS w h hav hb hrw hop ha hg (by have := half_two h.fits; omega) (by have := h.fits.s1; have : headS.size = 4 := rfl; omega)


set_option maxRecDepth 100000 in
set_option maxHeartbeats 4000000 in
theorem rcheck_any (rw_ rd rf : Nat) (d : D) (av : List Nat) (l : Lg) (s : ByteArray) (w : World) (h : LogR w rw_ rd l ([rd, rf] ++ av)) (hd : DiskR w rd rf d av) (hf : LgFits d l) (hav : ∀ x ∈ av, x < w.heap.size) (hrw : rw_ ∈ av) :
    Calls Try.prog 24 #[ptr rw_, .string s] w fun e w' => e = .returned (.int .i64 (chkE d l s)) ∧
      LogR w' rw_ rd (chkL d l s) ([rd, rf] ++ av) ∧ DiskR w' rd rf (chkD d l s) av ∧ Mod [rd, rf, rw_] w w' := by
  have H := Lib.hid h
  have HD := Lib.hid hd
  have HF := Lib.hid hf
  have HAV := Lib.hid hav
  have HRW := Lib.hid hrw
  obtain ⟨v, hb, hs⟩ := h
  obtain ⟨m, hm⟩ : ∃ m, m = chkE d l s := ⟨_, rfl⟩
  have HM := Lib.hid hm
  rw [← hm]
  obtain ⟨c0, c1, c2, c3, c4, fz⟩ := hb.cells5
  have d0 : w.cell? ⟨rd, 0, none⟩ = some (.int .i64 d.size) := by obtain ⟨⟨vl, vn, vi, vb, h1, _⟩, _⟩ := hd; exact h1.cells6.1
  have HRI := Lib.hid (show roomI (d.size : Int) = (d.size : Int) - 14 by have := hd.fits.s1; have := hd.fits.s2; unfold roomI; rw [if_neg (by omega)])
  clear hm hd hf hav hrw
  cases hbr : l.broken with
  | true =>
    rw [hbr] at c4
    have HY := Lib.hid (show mayE d l s = 2 by unfold mayE; rw [hbr]; rfl)
    have HT := Lib.hid (show m = 2 by rw [HM.out]; unfold chkE; rw [if_pos (by rw [HY.out]; omega), HY.out])
    clear hbr hb hs c0 c1 c2 c3 d0
    go_enter Try.func24, Try.ntmps24
    go_wp2
    go_ret
    refine ⟨by rw [HT.out]; rfl, ?_, ?_, Mod.refl _ _⟩
    · unfold chkL; rw [if_pos (.inl (by rw [HY.out]; omega))]; exact H.out
    · unfold chkD; rw [if_pos (.inl (by rw [HY.out]; omega))]; exact HD.out
  | false =>
    rw [hbr] at c4 hb
    have HBR := Lib.hid hbr
    clear hbr
    by_cases hlong : (d.size : Int) - 14 < (s.size : Int)
    · have hgl : decide ((d.size : Int) - 14 < (s.size : Int)) = true := decide_eq_true hlong
      have HY := Lib.hid (show mayE d l s = 5 by unfold mayE; rw [HBR.out, if_neg (by simp), if_pos hlong])
      have HT := Lib.hid (show m = 5 by rw [HM.out]; unfold chkE; rw [if_pos (by rw [HY.out]; omega), HY.out])
      clear hlong hb hs c1 c2 c3
      go_enter Try.func24, Try.ntmps24
      go_wp2_with fail
      (with_reducible refine (rroom_any d.size _).mono ?_); rintro _ w1 ⟨rfl, rfl⟩
      rw [HRI.out]
      go_wp2
      go_ret
      refine ⟨by rw [HT.out]; rfl, ?_, ?_, Mod.refl _ _⟩
      · unfold chkL; rw [if_pos (.inl (by rw [HY.out]; omega))]; exact H.out
      · unfold chkD; rw [if_pos (.inl (by rw [HY.out]; omega))]; exact HD.out
    · have hgl : decide ((d.size : Int) - 14 < (s.size : Int)) = false := decide_eq_false hlong
      have HY := Lib.hid (show mayE d l s = 0 by unfold mayE; rw [HBR.out, if_neg (by simp), if_neg hlong])
      have HLG := Lib.hid (show (s.size : Int) ≤ (d.size : Int) - 14 by omega)
      clear hlong
      by_cases hg : l.gen = 4294967295
      · have HG := Lib.hid hg
        rw [hg] at c2
        clear hg hb hs c1 c3
        go_enter Try.func24, Try.ntmps24
        go_wp2_with fail
        (with_reducible refine (rroom_any d.size _).mono ?_); rintro _ w1 ⟨rfl, rfl⟩
        rw [HRI.out]
        go_wp2
        go_ret
        refine ⟨by rw [HM.out]; unfold chkE; rw [HY.out, HG.out]; rfl, ?_, ?_, Mod.refl _ _⟩
        · unfold chkL; rw [if_pos (.inr HG.out)]; exact H.out
        · unfold chkD; rw [if_pos (.inr HG.out)]; exact HD.out
      · have HG := Lib.hid hg
        have hgg : decide (4294967295 ≤ (l.gen : Int)) = false := decide_eq_false (by have := HF.out.gen; omega)
        have HN := Lib.hid (show ¬ (mayE d l s ≠ 0 ∨ l.gen = 4294967295) from by have := HY.out; simp_all)
        have HW1 := Lib.hid (show wrap64 (1 - (l.area : Int)) = ((1 - l.area : Nat) : Int) by have := HF.out.area; rw [IntWalk.wrap64_in _ (by omega)]; omega)
        have HW2 := Lib.hid (show wrap64 ((l.gen : Int) + 1) = ((l.gen + 1 : Nat) : Int) by have := HF.out.gen; rw [IntWalk.wrap64_in _ (by omega)]; omega)
        have HB := Lib.hid hb
        have HST := Lib.hid hs
        have HGN := Lib.hid (show l.gen + 1 ≤ 4294967295 by have := HF.out.gen; omega)
        obtain ⟨la, lc, hv⟩ := hs.slc
        obtain rfl := hv
        have HB0D := Lib.hid hb.drew
        have HD0 := Lib.hid (HD.out.same (Mod.refl [] w).drew)
        have HAV0 := Lib.hid (show ∀ x ∈ av, x < w.drew.heap.size from HAV.out)
        clear hg hb hs c3
        go_enter Try.func24, Try.ntmps24
        go_wp2_with fail
        (with_reducible refine (rroom_any d.size _).mono ?_); rintro _ w1 ⟨rfl, rfl⟩
        rw [HRI.out]
        go_wp2_with fail
        refine Ord.wp_region_ord (fun w' => w'.cell? ⟨rw_, 1, none⟩ = some (.int .i64 l.area) ∧ w'.cell? ⟨rw_, 2, none⟩ = some (.int .i64 l.gen)) [([0, 1, 2, 3, 4, 5, 6, 7, 8, 9, 10, 11], 12), ([13, 14, 15, 16, 17, 18, 19, 20, 21, 22, 23, 24, 25], 26)] [27, 28] (by kernel_rfl) (by kernel_rfl) ⟨c1, c2⟩ ?_
        refine Ord.wpOrd_seg [_, _, _, _, _, _, _, _, _, _, _, _] _ rfl rfl ?_
        simp only [List.getElem_toArray, List.getElem_cons_zero, List.getElem_cons_succ]
        repeat first | go_big_quiet_skip | (go_big_quiet_want; go_big_quiet_op; first | go_big_quiet_on | (apply Exists.intro; refine ⟨fun _ => ?_, ?_⟩; (focus (intros; first | rfl | (simp only [*]; rfl) | (simp [*]; rfl))); go_big_quiet_on))
        refine wpQuiet_nil ?_
        go_wp2_with fail
        rw [HW1.out, HW2.out]
        (with_reducible refine (rlay_one rw_ rd rf d av (1 - l.area) (l.gen + 1) (.int .i64 l.area) (.int .i64 l.gen) (.slice la l.recs.length lc) s _ HD0.out HAV0.out HB0D.out HRW.out (HF.out.opn HBR.out) (Nat.sub_le _ _) HGN.out HLG.out).mono ?_); rintro _ w2 ⟨rfl, hd2, hb2, hm2⟩
        obtain ⟨q0, q1, q2, q3, q4, qz⟩ := hb2.cells5
        have HD2 := Lib.hid hd2
        have HB2 := Lib.hid hb2
        have HM2 := Lib.hid (((Mod.refl [rd, rf, rw_] _).drew).trans hm2)
        clear hd2 hb2 hm2 c0 c1 c2 c4 fz d0 q0 q3 q4 qz
        cases hok : layOk d (1 - l.area) (l.gen + 1) 1 s
        · have HOK := Lib.hid (show chk1Ok d l s = false from hok)
          have hb3 := HB2.out
          rw [hok] at hb3
          have HB3 := Lib.hid hb3
          clear hok hb3
          go_wp2_with fail
          try (refine ⟨⟨q1, q2⟩, ?_⟩)
          refine Ord.wpOrd_seg [_, _, _, _, _, _, _, _, _, _, _, _, _] _ rfl rfl ?_
          simp only [List.getElem_toArray, List.getElem_cons_zero, List.getElem_cons_succ]
          repeat first | go_big_quiet_skip | (go_big_quiet_want; go_big_quiet_op; first | go_big_quiet_on | (apply Exists.intro; refine ⟨fun _ => ?_, ?_⟩; (focus (intros; first | rfl | (simp only [*]; rfl) | (simp [*]; rfl))); go_big_quiet_on))
          refine wpQuiet_nil ?_
          go_wp2_with fail
          try (refine ⟨⟨q1, q2⟩, ?_⟩)
          refine Ord.wpOrd_last [_, _] rfl ?_
          simp only [List.getElem_toArray, List.getElem_cons_zero, List.getElem_cons_succ]
          repeat first | go_big_quiet_skip | (go_big_quiet_want; go_big_quiet_op; first | go_big_quiet_on | (apply Exists.intro; refine ⟨fun _ => ?_, ?_⟩; (focus (intros; first | rfl | (simp only [*]; rfl) | (simp [*]; rfl))); go_big_quiet_on))
          refine wpQuiet_nil ?_
          go_wp2
          go_ret
          refine ⟨by rw [HM.out]; unfold chkE; rw [if_neg (by simp [HY.out]), if_neg HG.out, HOK.out]; rfl, ?_, ?_, HM2.out⟩
          · unfold chkL; rw [if_neg HN.out, HOK.out]
            exact ⟨_, HB3.out, HST.out.mod HM2.out (by intro x hx; left; simp at hx ⊢; rcases hx with e | e | e; simp [e]; simp [e]; rw [e]; simp [HRW.out])⟩
          · unfold chkD; rw [if_neg HN.out, HOK.out]; exact HD2.out
        · have HOK := Lib.hid (show chk1Ok d l s = true from hok)
          have HOP := Lib.hid (show (chk1 d l s).opn = none from lay_opn _ _ _ _ _ hok)
          have hb3 : Blk w2 rw_ [ptr rd, .int .i64 l.area, .int .i64 l.gen, .slice la l.recs.length lc, .bool false] 56 := by
            have := HB2.out
            rw [hok] at this
            exact this
          have HB3 := Lib.hid hb3
          have HD3 := Lib.hid (show DiskR w2 rd rf (chk1 d l s) av from HD2.out)
          have HAV3 := Lib.hid (show ∀ x ∈ av, x < w2.heap.size from fun x hx => Nat.lt_of_lt_of_le (HAV.out x hx) HM2.out.size)
          clear hok hb3
          go_wp2_with fail
          try (refine ⟨⟨q1, q2⟩, ?_⟩)
          refine Ord.wpOrd_seg [_, _, _, _, _, _, _, _, _, _, _, _, _] _ rfl rfl ?_
          simp only [List.getElem_toArray, List.getElem_cons_zero, List.getElem_cons_succ]
          repeat first | go_big_quiet_skip | (go_big_quiet_want; go_big_quiet_op; first | go_big_quiet_on | (apply Exists.intro; refine ⟨fun _ => ?_, ?_⟩; (focus (intros; first | rfl | (simp only [*]; rfl) | (simp [*]; rfl))); go_big_quiet_on))
          refine wpQuiet_nil ?_
          go_wp2_with fail
          rw [HW1.out, HW2.out]
          (with_reducible refine (rlay_head rw_ rd rf (chk1 d l s) av (1 - l.area) (l.gen + 1) (.int .i64 l.area) (.int .i64 l.gen) (.slice la l.recs.length lc) _ HD3.out HAV3.out HB3.out HRW.out HOP.out (Nat.sub_le _ _) HGN.out).mono ?_); rintro _ w3 ⟨rfl, hd4, hb4, hm4⟩
          obtain ⟨r0, r1, r2, r3, r4, rz⟩ := hb4.cells5
          have hlt4 : rw_ < w3.heap.size := hb4.lt
          have HLT4 := Lib.hid hlt4
          have HD4 := Lib.hid hd4
          have HB4 := Lib.hid hb4
          have HM4 := Lib.hid (HM2.out.trans hm4)
          clear hd4 hb4 hm4 r0 r4 q1 q2
          cases hok2 : layOk (chk1 d l s) (1 - l.area) (l.gen + 1) 0 headS
          · have HOK2 := Lib.hid (show chk2Ok d l s = false from hok2)
            have hb5 := HB4.out
            rw [hok2] at hb5
            have HB5 := Lib.hid hb5
            clear hok2 hb5 r3 rz hlt4
            go_wp2_with fail
            try (refine ⟨⟨r1, r2⟩, ?_⟩)
            refine Ord.wpOrd_last [_, _] rfl ?_
            simp only [List.getElem_toArray, List.getElem_cons_zero, List.getElem_cons_succ]
            repeat first | go_big_quiet_skip | (go_big_quiet_want; go_big_quiet_op; first | go_big_quiet_on | (apply Exists.intro; refine ⟨fun _ => ?_, ?_⟩; (focus (intros; first | rfl | (simp only [*]; rfl) | (simp [*]; rfl))); go_big_quiet_on))
            refine wpQuiet_nil ?_
            go_wp2
            go_ret
            refine ⟨by rw [HM.out]; unfold chkE; rw [if_neg (by simp [HY.out]), if_neg HG.out, HOK.out, HOK2.out]; rfl, ?_, ?_, HM4.out⟩
            · unfold chkL; rw [if_neg HN.out, HOK.out, HOK2.out]
              exact ⟨_, HB5.out, HST.out.mod HM4.out (by intro x hx; left; simp at hx ⊢; rcases hx with e | e | e; simp [e]; simp [e]; rw [e]; simp [HRW.out])⟩
            · unfold chkD; rw [if_neg HN.out, HOK.out]; exact HD4.out
          · have HOK2 := Lib.hid (show chk2Ok d l s = true from hok2)
            have hb5 := HB4.out
            rw [hok2] at hb5
            have HB5 := Lib.hid hb5
            clear hok2 hb5
            go_wp2_with fail
            try (refine ⟨⟨r1, r2⟩, ?_⟩)
            refine Ord.wpOrd_last [_, _] rfl ?_
            simp only [List.getElem_toArray, List.getElem_cons_zero, List.getElem_cons_succ]
            repeat first | go_big_quiet_skip | (go_big_quiet_want; go_big_quiet_op; first | go_big_quiet_on | (apply Exists.intro; refine ⟨fun _ => ?_, ?_⟩; (focus (intros; first | rfl | (simp only [*]; rfl) | (simp [*]; rfl))); go_big_quiet_on))
            refine wpQuiet_nil ?_
            go_wp2
            rw [HW1.out, HW2.out]
            go_ret
            have ma : Mod [rw_] w3 ((w3.setCell ⟨rw_, 1, none⟩ (.int .i64 ((1 - l.area : Nat) : Int))).setCell ⟨rw_, 2, none⟩ (.int .i64 ((l.gen + 1 : Nat) : Int))) := ((Mod.refl [rw_] w3).setCell (p := ⟨rw_, 1, none⟩) (by simp) _).setCell (p := ⟨rw_, 2, none⟩) (by simp) _
            have mb := (ma.setCell (p := ⟨rw_, 3, none⟩) (by simp) (.slice (some ⟨w3.heap.size, 0, none⟩) 1 1)).alloc (.cells #[.string s] 9)
            have hb6 := (HB5.out.set 1 (.int .i64 ((1 - l.area : Nat) : Int))).set 2 (.int .i64 ((l.gen + 1 : Nat) : Int))
            have hb7 := (hb6.set 3 (.slice (some ⟨w3.heap.size, 0, none⟩) 1 1)).alloc (.cells #[.string s] 9)
            refine ⟨by rw [HM.out]; unfold chkE; rw [if_neg (by simp [HY.out]), if_neg HG.out, HOK.out, HOK2.out]; rfl, ?_, ?_, HM4.out.trans (mb.mono (S' := [rd, rf, rw_]) (by simp))⟩
            · unfold chkL; rw [if_neg HN.out, HOK.out, HOK2.out]
              refine ⟨_, ?_, .inr ⟨w3.heap.size, 1, rfl, ?_, ?_, ?_⟩⟩
              · show Blk _ rw_ [_, _, _, _, .bool l.broken] _
                rw [HBR.out]
                exact hb7
              · intro i hi
                have hi0 : i = 0 := by simpa using hi
                subst hi0
                exact one_new_at (((w3.setCell ⟨rw_, 1, none⟩ (.int .i64 ((1 - l.area : Nat) : Int))).setCell ⟨rw_, 2, none⟩ (.int .i64 ((l.gen + 1 : Nat) : Int))).setCell ⟨rw_, 3, none⟩ (.slice (some ⟨w3.heap.size, 0, none⟩) 1 1)) (.string s) 9 w3.heap.size (by simp) 0 _ rfl
              · intro hx
                have h1 := HD4.out.lts
                rcases List.mem_cons.1 hx with e | hx
                · omega
                rcases List.mem_cons.1 hx with e | e
                · omega
                · have := HAV.out _ e; have := HM4.out.size; omega
              · simp
            · unfold chkD; rw [if_neg HN.out, HOK.out]
              exact HD4.out.mod mb (by simp; exact HRW.out)
end Go.Proofs.Yteidhbjfmmodhaa
