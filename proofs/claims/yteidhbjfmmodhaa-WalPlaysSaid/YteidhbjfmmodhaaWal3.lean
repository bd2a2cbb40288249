/- The walk over a checkpoint. -/
import Derived.Test.YteidhbjfmmodhaaWal2
namespace Go.Proofs.Yteidhbjfmmodhaa
open Go.RowKit Crc Fr

theorem lay_one (bw bd bs bf : Nat) (d : D) (av : List Nat) (area gen : Nat) (c1 c2 c3 : Value) (s : ByteArray) (w : World) (h : DiskI w bd bs bf d av) (hav : ∀ x ∈ av, x < w.heap.size)
    (hb : Blk w bw [ptr bd, c1, c2, c3, .bool false] 66) (hbw : bw ∈ av) (hop : d.opn = none) (ha : area ≤ 1) (hg : gen ≤ 4294967295) (hp : (s.size : Int) ≤ (d.size : Int) - 14) :
    Calls Try.prog 34 #[ptr bw, .int .i64 area, .int .i64 gen, .int .i64 1, .string s] w fun e w' =>
      e = .returned (.int .i64 (layE d area gen 1 s)) ∧ DiskI w' bd bs bf (lay d area gen 1 s) av ∧
      Blk w' bw [ptr bd, c1, c2, c3, .bool (!layOk d area gen 1 s)] 66 ∧ Mod [bd, bs, bf, bw] w w' :=
  lay_any bw bd bs bf d av area gen 1 c1 c2 c3 s w h hav hb hbw hop ha hg (by have := half_two h.fits; omega) hp
theorem lay_head (bw bd bs bf : Nat) (d : D) (av : List Nat) (area gen : Nat) (c1 c2 c3 : Value) (w : World) (h : DiskI w bd bs bf d av) (hav : ∀ x ∈ av, x < w.heap.size)
    (hb : Blk w bw [ptr bd, c1, c2, c3, .bool false] 66) (hbw : bw ∈ av) (hop : d.opn = none) (ha : area ≤ 1) (hg : gen ≤ 4294967295) :
    Calls Try.prog 34 #[ptr bw, .int .i64 area, .int .i64 gen, .int .i64 0, .string ⟨#[104, 101, 97, 100]⟩] w fun e w' =>
      e = .returned (.int .i64 (layE d area gen 0 headS)) ∧ DiskI w' bd bs bf (lay d area gen 0 headS) av ∧
      Blk w' bw [ptr bd, c1, c2, c3, .bool (!layOk d area gen 0 headS)] 66 ∧ Mod [bd, bs, bf, bw] w w' :=
  lay_any bw bd bs bf d av area gen 0 c1 c2 c3 headS w h hav hb hbw hop ha hg (by have := half_two h.fits; omega) (by have := h.fits.s1; have : headS.size = 4 := rfl; omega)

set_option maxHeartbeats 4000000 in
theorem check_any (bw bd bs bf : Nat) (d : D) (av : List Nat) (l : Lg) (s : ByteArray) (w : World) (h : LogI w bw bd l) (hd : DiskI w bd bs bf d av) (hf : LgFits d l) (hav : ∀ x ∈ av, x < w.heap.size) (hbw : bw ∈ av) :
    Calls Try.prog 17 #[ptr bw, .string s] w fun e w' => e = .returned (.int .i64 (chkE d l s)) ∧
      LogI w' bw bd (chkL d l s) ∧ DiskI w' bd bs bf (chkD d l s) av ∧ Mod [bd, bs, bf, bw] w w' := by
  have H := Lib.hid h
  have HD := Lib.hid hd
  have HF := Lib.hid hf
  have HAV := Lib.hid hav
  have HBW := Lib.hid hbw
  obtain ⟨m, hm⟩ : ∃ m, m = chkE d l s := ⟨_, rfl⟩
  have HM := Lib.hid hm
  rw [← hm]
  clear hm
  by_cases hy : mayE d l s = 0
  · have HY := Lib.hid hy
    obtain ⟨c0, c1, c2, c3, c4, fz⟩ := Blk.cells5 h
    by_cases hg : l.gen = 4294967295
    · have HG := Lib.hid hg
      rw [hg] at c2
      clear h hd hf hav hbw hy hg c0 c1 c3 c4 fz
      go_enter Try.func17, Try.ntmps17
      go_wp2_with fail
      (with_reducible refine (may_any bw bd bs bf d av l s _ H.out HD.out).mono ?_); rintro _ w' ⟨rfl, rfl⟩
      rw [HY.out]
      go_wp2
      go_ret
      refine ⟨by rw [HM.out]; unfold chkE; rw [HY.out, HG.out]; rfl, ?_, ?_, Mod.refl _ _⟩
      · unfold chkL; rw [if_pos (.inr HG.out)]; exact H.out
      · unfold chkD; rw [if_pos (.inr HG.out)]; exact HD.out
    · have HG := Lib.hid hg
      have hgd : ((l.gen : Int) == 4294967295) = false := by simp; omega
      have hz := may_zero hy
      have HZ := Lib.hid hz
      have HN := Lib.hid (show ¬ (mayE d l s ≠ 0 ∨ l.gen = 4294967295) from by have := hy; have := hg; simp_all)
      have h1b : Blk w.drew bw [ptr bd, .int .i64 l.area, .int .i64 l.gen, .int .i64 l.recs.length, .bool false] 66 := by
        have h2 := h
        unfold LogI at h2
        rw [hz.1] at h2
        exact h2
      have H1B := Lib.hid h1b
      have ha := hf.area
      have HW1 := Lib.hid (show wrap64 (1 - (l.area : Int)) = ((1 - l.area : Nat) : Int) by rw [IntWalk.wrap64_in _ (by omega)]; omega)
      have HW2 := Lib.hid (show wrap64 ((l.gen : Int) + 1) = ((l.gen + 1 : Nat) : Int) by have := hf.gen; rw [IntWalk.wrap64_in _ (by omega)]; omega)
      have HD1 := Lib.hid (hd.same (Mod.refl [] w).drew)
      have HAV1 := Lib.hid (show ∀ x ∈ av, x < w.drew.heap.size from hav)
      clear h hd hf hav hbw hy hg hz h1b ha c0 c3 c4
      go_enter Try.func17, Try.ntmps17
      go_wp2_with fail
      (with_reducible refine (may_any bw bd bs bf d av l s _ H.out HD.out).mono ?_); rintro _ w' ⟨rfl, rfl⟩
      rw [HY.out]
      go_wp2_with fail
      refine Ord.wp_region_ord (fun w' => w'.cell? ⟨bw, 1, none⟩ = some (.int .i64 l.area) ∧ w'.cell? ⟨bw, 2, none⟩ = some (.int .i64 l.gen)) [([0, 1, 2, 3, 4, 5, 6, 7, 8, 9, 10, 11], 12)] [13] (by kernel_rfl) (by kernel_rfl) ⟨c1, c2⟩ ?_
      refine Ord.wpOrd_seg [_, _, _, _, _, _, _, _, _, _, _, _] _ rfl rfl ?_
      simp only [List.getElem_toArray, List.getElem_cons_zero, List.getElem_cons_succ]
      repeat first | go_big_quiet_skip | (go_big_quiet_want; go_big_quiet_op; first | go_big_quiet_on | (apply Exists.intro; refine ⟨fun _ => ?_, ?_⟩; (focus (intros; first | rfl | (simp only [*]; rfl) | (simp [*]; rfl))); go_big_quiet_on))
      refine wpQuiet_nil ?_
      go_wp2_with fail
      rw [HW1.out, HW2.out]
      (with_reducible refine (lay_one bw bd bs bf d av (1 - l.area) (l.gen + 1) (.int .i64 l.area) (.int .i64 l.gen) (.int .i64 l.recs.length) s _ HD1.out HAV1.out H1B.out HBW.out (HF.out.opn HZ.out.1) (Nat.sub_le _ _) (by have := HG.out; have := HF.out.gen; omega) HZ.out.2).mono ?_); rintro _ w2 ⟨rfl, hd2, hb2, hm2⟩
      obtain ⟨q0, q1, q2, q3, q4, qz⟩ := Blk.cells5 hb2
      have HD2 := Lib.hid hd2
      have HB2 := Lib.hid hb2
      have HM2 := Lib.hid ((((Mod.refl [bd, bs, bf, bw] _).drew)).trans hm2)
      clear hd2 hb2 hm2 q0 q3 q4 c1 c2 fz
      cases hok : layOk d (1 - l.area) (l.gen + 1) 1 s
      · have HOK := Lib.hid (show chk1Ok d l s = false from hok)
        have HE := Lib.hid (show layE d (1 - l.area) (l.gen + 1) 1 s = 2 by unfold layE; rw [hok]; rfl)
        have hb3 := HB2.out
        rw [hok] at hb3
        have HB3 := Lib.hid hb3
        clear hok hb3
        rw [HE.out]
        go_wp2_with fail
        refine ⟨⟨q1, q2⟩, ?_⟩
        refine Ord.wpOrd_last [_] rfl ?_
        simp only [List.getElem_toArray, List.getElem_cons_zero, List.getElem_cons_succ]
        repeat first | go_big_quiet_skip | (go_big_quiet_want; go_big_quiet_op; first | go_big_quiet_on | (apply Exists.intro; refine ⟨fun _ => ?_, ?_⟩; (focus (intros; first | rfl | (simp only [*]; rfl) | (simp [*]; rfl))); go_big_quiet_on))
        refine wpQuiet_nil ?_
        go_wp2
        go_ret
        refine ⟨by rw [HM.out]; unfold chkE; rw [if_neg (by simp [HY.out]), if_neg HG.out, HOK.out]; rfl, ?_, ?_, HM2.out⟩
        · unfold chkL; rw [if_neg HN.out, HOK.out]
          exact HB3.out
        · unfold chkD; rw [if_neg HN.out, HOK.out]; exact HD2.out
      · have HOK := Lib.hid (show chk1Ok d l s = true from hok)
        have HE := Lib.hid (show layE d (1 - l.area) (l.gen + 1) 1 s = 0 by unfold layE; rw [hok]; rfl)
        have HOP := Lib.hid (show (chk1 d l s).opn = none from lay_opn _ _ _ _ _ hok)
        have hb3 : Blk w2.drew bw [ptr bd, .int .i64 l.area, .int .i64 l.gen, .int .i64 l.recs.length, .bool false] 66 := by
          have := HB2.out
          rw [hok] at this
          exact this
        have HB3 := Lib.hid hb3
        have HD3 := Lib.hid (show DiskI w2.drew bd bs bf (chk1 d l s) av from HD2.out.same (Mod.refl [] _).drew)
        have HAV3 := Lib.hid (show ∀ x ∈ av, x < w2.drew.heap.size from fun x hx => Nat.lt_of_lt_of_le (HAV.out x hx) HM2.out.size)
        clear hok hb3
        rw [HE.out]
        go_wp2_with fail
        refine ⟨⟨q1, q2⟩, ?_⟩
        refine Ord.wpOrd_last [_] rfl ?_
        simp only [List.getElem_toArray, List.getElem_cons_zero, List.getElem_cons_succ]
        repeat first | go_big_quiet_skip | (go_big_quiet_want; go_big_quiet_op; first | go_big_quiet_on | (apply Exists.intro; refine ⟨fun _ => ?_, ?_⟩; (focus (intros; first | rfl | (simp only [*]; rfl) | (simp [*]; rfl))); go_big_quiet_on))
        refine wpQuiet_nil ?_
        go_wp2_with fail
        refine Ord.wp_region_ord (fun w' => w'.cell? ⟨bw, 1, none⟩ = some (.int .i64 l.area) ∧ w'.cell? ⟨bw, 2, none⟩ = some (.int .i64 l.gen)) [([0, 1, 2, 3, 4, 5, 6, 7, 8, 9, 10], 11)] [12] (by kernel_rfl) (by kernel_rfl) ⟨q1, q2⟩ ?_
        refine Ord.wpOrd_seg [_, _, _, _, _, _, _, _, _, _, _] _ rfl rfl ?_
        simp only [List.getElem_toArray, List.getElem_cons_zero, List.getElem_cons_succ]
        repeat first | go_big_quiet_skip | (go_big_quiet_want; go_big_quiet_op; first | go_big_quiet_on | (apply Exists.intro; refine ⟨fun _ => ?_, ?_⟩; (focus (intros; first | rfl | (simp only [*]; rfl) | (simp [*]; rfl))); go_big_quiet_on))
        refine wpQuiet_nil ?_
        go_wp2_with fail
        rw [HW1.out, HW2.out]
        (with_reducible refine (lay_head bw bd bs bf (chk1 d l s) av (1 - l.area) (l.gen + 1) (.int .i64 l.area) (.int .i64 l.gen) (.int .i64 l.recs.length) _ HD3.out HAV3.out HB3.out HBW.out HOP.out (Nat.sub_le _ _) (by have := HG.out; have := HF.out.gen; omega)).mono ?_); rintro _ w3 ⟨rfl, hd4, hb4, hm4⟩
        obtain ⟨r0, r1, r2, r3, r4, rz⟩ := Blk.cells5 hb4
        have HD4 := Lib.hid hd4
        have HB4 := Lib.hid hb4
        have HM4 := Lib.hid (HM2.out.trans (((Mod.refl [bd, bs, bf, bw] _).drew).trans hm4))
        clear hd4 hb4 hm4 r0 r4 q1 q2 qz
        cases hok2 : layOk (chk1 d l s) (1 - l.area) (l.gen + 1) 0 headS
        · have HOK2 := Lib.hid (show chk2Ok d l s = false from hok2)
          have HE2 := Lib.hid (show layE (chk1 d l s) (1 - l.area) (l.gen + 1) 0 headS = 2 by unfold layE; rw [hok2]; rfl)
          have hb5 := HB4.out
          rw [hok2] at hb5
          have HB5 := Lib.hid hb5
          clear hok2 hb5 r3
          rw [HE2.out]
          go_wp2_with fail
          refine ⟨⟨r1, r2⟩, ?_⟩
          refine Ord.wpOrd_last [_] rfl ?_
          simp only [List.getElem_toArray, List.getElem_cons_zero, List.getElem_cons_succ]
          repeat first | go_big_quiet_skip | (go_big_quiet_want; go_big_quiet_op; first | go_big_quiet_on | (apply Exists.intro; refine ⟨fun _ => ?_, ?_⟩; (focus (intros; first | rfl | (simp only [*]; rfl) | (simp [*]; rfl))); go_big_quiet_on))
          refine wpQuiet_nil ?_
          go_wp2
          go_ret
          refine ⟨by rw [HM.out]; unfold chkE; rw [if_neg (by simp [HY.out]), if_neg HG.out, HOK.out, HOK2.out]; rfl, ?_, ?_, HM4.out⟩
          · unfold chkL; rw [if_neg HN.out, HOK.out, HOK2.out]
            exact HB5.out
          · unfold chkD; rw [if_neg HN.out, HOK.out]; exact HD4.out
        · have HOK2 := Lib.hid (show chk2Ok d l s = true from hok2)
          have HE2 := Lib.hid (show layE (chk1 d l s) (1 - l.area) (l.gen + 1) 0 headS = 0 by unfold layE; rw [hok2]; rfl)
          have hb5 := HB4.out
          rw [hok2] at hb5
          have HB5 := Lib.hid hb5
          clear hok2 hb5
          rw [HE2.out]
          go_wp2_with fail
          refine ⟨⟨r1, r2⟩, ?_⟩
          refine Ord.wpOrd_last [_] rfl ?_
          simp only [List.getElem_toArray, List.getElem_cons_zero, List.getElem_cons_succ]
          repeat first | go_big_quiet_skip | (go_big_quiet_want; go_big_quiet_op; first | go_big_quiet_on | (apply Exists.intro; refine ⟨fun _ => ?_, ?_⟩; (focus (intros; first | rfl | (simp only [*]; rfl) | (simp [*]; rfl))); go_big_quiet_on))
          refine wpQuiet_nil ?_
          go_wp2_with fail
          have t1 : ∀ i, w3.drew.frozen? ⟨bw, i, none⟩ = false := (HB5.out.drew).free
          go_region
          go_wp2
          rw [HW1.out, HW2.out]
          go_ret
          refine ⟨by rw [HM.out]; unfold chkE; rw [if_neg (by simp [HY.out]), if_neg HG.out, HOK.out, HOK2.out]; rfl, ?_, ?_, (((HM4.out.setCell (p := ⟨bw, 1, none⟩) (by simp) _).setCell (p := ⟨bw, 2, none⟩) (by simp) _).setCell (p := ⟨bw, 3, none⟩) (by simp) _).drew⟩
          · unfold chkL; rw [if_neg HN.out, HOK.out, HOK2.out]
            have := ((HB5.out.set 1 (.int .i64 ((1 - l.area : Nat) : Int))).set 2 (.int .i64 ((l.gen + 1 : Nat) : Int))).set 3 (.int .i64 1)
            unfold LogI
            simp only [Bool.and_self, if_true, List.length_singleton, HZ.out.1]
            exact this
          · unfold chkD; rw [if_neg HN.out, HOK.out]
            exact HD4.out.mod (((((Mod.refl [bw] _).setCell (p := ⟨bw, 1, none⟩) (by simp) _).setCell (p := ⟨bw, 2, none⟩) (by simp) _).setCell (p := ⟨bw, 3, none⟩) (by simp) _).drew) (by simp; exact HBW.out)
  · have HY := Lib.hid hy
    have hyd : (((mayE d l s : Nat) : Int) != 0) = true := by simp; exact hy
    have HT := Lib.hid (show m = mayE d l s by rw [HM.out]; unfold chkE; rw [if_pos hy])
    clear h hd hf hav hbw hy
    go_enter Try.func17, Try.ntmps17
    go_wp2_with fail
    (with_reducible refine (may_any bw bd bs bf d av l s _ H.out HD.out).mono ?_); rintro _ w' ⟨rfl, rfl⟩
    go_wp2
    go_ret
    refine ⟨by rw [HT.out]; rfl, ?_, ?_, Mod.refl _ _⟩
    · unfold chkL; rw [if_pos (.inl HY.out)]; exact H.out
    · unfold chkD; rw [if_pos (.inl HY.out)]; exact HD.out
end Go.Proofs.Yteidhbjfmmodhaa
