/- The walks over the calls of the reference's log. -/
import Derived.Test.YteidhbjfmmodhaaRWal2
namespace Go.Proofs.Yteidhbjfmmodhaa
open Go.RowKit Crc Fr

theorem LogR.out {w : World} {rw_ rd : Nat} {l : Lg} {o1 o2 : List Nat} (h : LogR w rw_ rd l o1) (hs : ∀ x ∈ o2, x ∈ o1 ∨ w.heap.size ≤ x) : LogR w rw_ rd l o2 := by
  obtain ⟨v, h1, h2⟩ := h
  exact ⟨v, h1, h2.out hs⟩
theorem LogR.mod {S : List Nat} {w w' : World} {rw_ rd : Nat} {l : Lg} {o : List Nat} (h : LogR w rw_ rd l o) (hm : Mod S w w') (hn : rw_ ∉ S) (hs : ∀ x ∈ S, x ∈ o ∨ w.heap.size ≤ x) : LogR w' rw_ rd l o := by
  obtain ⟨v, h1, h2⟩ := h
  exact ⟨v, h1.mod hm hn, h2.mod hm hs⟩
theorem StrsAt.slc {w : World} {v : Value} {l : List ByteArray} {out : List Nat} (h : StrsAt w v l out) : ∃ a c, v = .slice a l.length c := by
  rcases h with ⟨rfl, rfl⟩ | ⟨g, cap, h1, _⟩
  · exact ⟨_, _, rfl⟩
  · exact ⟨_, _, h1⟩

set_option maxRecDepth 100000 in
set_option maxHeartbeats 1000000 in
theorem rwroom_any (rw_ rd rf : Nat) (d : D) (av : List Nat) (l : Lg) (o : List Nat) (w : World) (h : LogR w rw_ rd l o) (hd : DiskR w rd rf d av) (hl : l.recs.length + 1 ≤ d.half) :
    Calls Try.prog 29 #[ptr rw_] w fun e w' => e = .returned (.int .i64 (roomN d l)) ∧ Mod [] w w' := by
  obtain ⟨v, hb, hs⟩ := h
  obtain ⟨a, c, rfl⟩ := hs.slc
  obtain ⟨g, cn, hn, _⟩ := hd.now_at
  obtain ⟨c0, c1, c2, c3, c4, fz⟩ := hb.cells5
  have hh := half_two hd.fits
  have hw : wrap64 (wrap64 (wrap64 ((d.last.length : Int) / 2) - 1) - (l.recs.length : Int)) = roomN d l := by
    have := hd.fits.n2
    unfold roomN
    rw [IntWalk.wrap64_in ((d.last.length : Int) / 2) (by omega)]
    rw [show ((d.last.length : Int) / 2) = (d.half : Int) by unfold D.half; omega]
    rw [IntWalk.wrap64_in ((d.half : Int) - 1) (by omega), IntWalk.wrap64_in _ (by omega)]
  have HW := Lib.hid hw
  clear hb hs hd hh hl c1 c2 c4 fz hw
  go_enter Try.func29, Try.ntmps29
  go_wp2_with fail
  refine Ord.wp_region_ord (fun w' => w'.cell? ⟨rw_, 0, none⟩ = some (ptr rd) ∧ w'.cell? ⟨rw_, 3, none⟩ = some (.slice a l.recs.length c) ∧ w'.cell? ⟨rd, 2, none⟩ = some (.slice (some ⟨g, 0, none⟩) d.last.length cn)) [] [0, 1, 2, 3, 4, 5, 6, 7, 8, 9, 10, 11, 12, 13, 14, 15, 16] (by kernel_rfl) (by kernel_rfl) ⟨c0, c3, hn⟩ ?_
  refine Ord.wpOrd_last [_, _, _, _, _, _, _, _, _, _, _, _, _, _, _, _, _] rfl ?_
  simp only [List.getElem_toArray, List.getElem_cons_zero, List.getElem_cons_succ]
  repeat first | go_big_quiet_skip | (go_big_quiet_want; go_big_quiet_op; first | go_big_quiet_on | (apply Exists.intro; refine ⟨fun _ => ?_, ?_⟩; (focus (intros; first | rfl | (simp only [*]; rfl) | (simp [*]; rfl))); go_big_quiet_on))
  refine wpQuiet_nil ?_
  rw [HW.out]
  go_wp2
  go_ret
  exact ⟨rfl, (Mod.refl [] _).drew⟩



set_option maxRecDepth 100000 in
set_option maxHeartbeats 4000000 in
theorem rappend_any (rw_ rd rf : Nat) (d : D) (av : List Nat) (l : Lg) (s : ByteArray) (w : World) (h : LogR w rw_ rd l ([rd, rf] ++ av)) (hd : DiskR w rd rf d av) (hf : LgFits d l) (hav : ∀ x ∈ av, x < w.heap.size) (hrw : rw_ ∈ av) :
    Calls Try.prog 23 #[ptr rw_, .string s] w fun e w' => e = .returned (.int .i64 (appE d l s)) ∧
      LogR w' rw_ rd (appL d l s) ([rd, rf] ++ av) ∧ DiskR w' rd rf (appD d l s) av ∧ Mod [rd, rf, rw_] w w' := by
  have H := Lib.hid h
  have HD := Lib.hid hd
  have HF := Lib.hid hf
  have HAV := Lib.hid hav
  have HRW := Lib.hid hrw
  obtain ⟨v, hb, hs⟩ := h
  obtain ⟨m, hm⟩ : ∃ m, m = appE d l s := ⟨_, rfl⟩
  have HM := Lib.hid hm
  rw [← hm]
  obtain ⟨c0, c1, c2, c3, c4, fz⟩ := hb.cells5
  have d0 : w.cell? ⟨rd, 0, none⟩ = some (.int .i64 d.size) := by obtain ⟨⟨vl, vn, vi, vb, h1, _⟩, _⟩ := hd; exact h1.cells6.1
  have HRI := Lib.hid (show roomI (d.size : Int) = (d.size : Int) - 14 by have := hd.fits.s1; have := hd.fits.s2; unfold roomI; rw [if_neg (by omega)])
  clear hm hd hf hav hrw
  cases hbr : l.broken with
  | true =>
    rw [hbr] at c4
    have HY := Lib.hid (show mayE d l s = 2 by unfold mayE; rw [hbr]; rfl)
    have HT := Lib.hid (show m = 2 by rw [HM.out]; unfold appE; rw [if_pos (by rw [HY.out]; omega), HY.out])
    clear hbr hb hs c0 c1 c2 c3 d0
    go_enter Try.func23, Try.ntmps23
    go_wp2
    go_ret
    refine ⟨by rw [HT.out]; rfl, ?_, ?_, Mod.refl _ _⟩
    · unfold appL; rw [if_pos (.inl (by rw [HY.out]; omega))]; exact H.out
    · unfold appD; rw [if_pos (.inl (by rw [HY.out]; omega))]; exact HD.out
  | false =>
    rw [hbr] at c4 hb
    have HBR := Lib.hid hbr
    clear hbr
    by_cases hlong : (d.size : Int) - 14 < (s.size : Int)
    · have hgl : decide ((d.size : Int) - 14 < (s.size : Int)) = true := decide_eq_true hlong
      have HY := Lib.hid (show mayE d l s = 5 by unfold mayE; rw [HBR.out, if_neg (by simp), if_pos hlong])
      have HT := Lib.hid (show m = 5 by rw [HM.out]; unfold appE; rw [if_pos (by rw [HY.out]; omega), HY.out])
      clear hlong hb hs c1 c2 c3
      go_enter Try.func23, Try.ntmps23
      go_wp2_with fail
      (with_reducible refine (rroom_any d.size _).mono ?_); rintro _ w1 ⟨rfl, rfl⟩
      rw [HRI.out]
      go_wp2
      go_ret
      refine ⟨by rw [HT.out]; rfl, ?_, ?_, Mod.refl _ _⟩
      · unfold appL; rw [if_pos (.inl (by rw [HY.out]; omega))]; exact H.out
      · unfold appD; rw [if_pos (.inl (by rw [HY.out]; omega))]; exact HD.out
    · have hgl : decide ((d.size : Int) - 14 < (s.size : Int)) = false := decide_eq_false hlong
      have HY := Lib.hid (show mayE d l s = 0 by unfold mayE; rw [HBR.out, if_neg (by simp), if_neg hlong])
      have HLG := Lib.hid (show (s.size : Int) ≤ (d.size : Int) - 14 by omega)
      have hr0 : 0 ≤ roomN d l := by unfold roomN; have := HF.out.recs; omega
      clear hlong
      by_cases hr : roomN d l = 0
      · have hgr : decide (roomN d l ≤ 0) = true := decide_eq_true (by omega)
        have HR := Lib.hid hr
        clear hr hr0 hb hs c1 c2 c3
        go_enter Try.func23, Try.ntmps23
        go_wp2_with fail
        (with_reducible refine (rroom_any d.size _).mono ?_); rintro _ w1 ⟨rfl, rfl⟩
        rw [HRI.out]
        go_wp2_with fail
        (with_reducible refine (rwroom_any rw_ rd rf d av l _ _ H.out HD.out HF.out.recs).mono ?_); rintro _ w2 ⟨rfl, hm2⟩
        have HM2 := Lib.hid hm2
        clear hm2
        go_wp2
        go_ret
        refine ⟨by rw [HM.out]; unfold appE; rw [HY.out, HR.out]; rfl, ?_, ?_, HM2.out.mono (by simp)⟩
        · unfold appL; rw [if_pos (.inr HR.out)]; exact H.out.mod HM2.out (by simp) (by simp)
        · unfold appD; rw [if_pos (.inr HR.out)]; exact HD.out.same HM2.out
      · have hgr : decide (roomN d l ≤ 0) = false := decide_eq_false (by omega)
        have HR := Lib.hid hr
        have HN := Lib.hid (show ¬ (mayE d l s ≠ 0 ∨ roomN d l = 0) from by have := HY.out; simp_all)
        have hle : l.recs.length + 1 < d.half := by
          have h4 := HF.out.recs
          unfold roomN at hr hr0
          omega
        have HLE := Lib.hid hle
        have HSEQ := Lib.hid (show wrap64 ((l.recs.length : Int) + 1) = ((l.recs.length + 1 : Nat) : Int) by
          have := half_two HD.out.fits
          rw [IntWalk.wrap64_in _ (by omega)]; omega)
        have HB := Lib.hid hb
        have HST := Lib.hid hs
        obtain ⟨la, lc, hv⟩ := hs.slc
        obtain rfl := hv
        clear hr hr0 hle hb hs c1 c2 c3
        go_enter Try.func23, Try.ntmps23
        go_wp2_with fail
        (with_reducible refine (rroom_any d.size _).mono ?_); rintro _ w1 ⟨rfl, rfl⟩
        rw [HRI.out]
        go_wp2_with fail
        (with_reducible refine (rwroom_any rw_ rd rf d av l _ _ H.out HD.out HF.out.recs).mono ?_); rintro _ w2 ⟨rfl, hm2⟩
        have hb2 := HB.out.mod hm2 (by simp)
        obtain ⟨k0, k1, k2, k3, k4, kz⟩ := hb2.cells5
        have HB2 := Lib.hid hb2
        have HD2 := Lib.hid ((HD.out.same hm2).same (Mod.refl [] _).drew)
        have HM2 := Lib.hid hm2
        have HAV2 := Lib.hid (show ∀ x ∈ av, x < w2.drew.heap.size from fun x hx => Nat.lt_of_lt_of_le (HAV.out x hx) hm2.size)
        have HB2D := Lib.hid hb2.drew
        clear hb2 hm2 c0 c4 fz d0 k0 k4
        go_wp2_with fail
        refine Ord.wp_region_ord (fun w' => w'.cell? ⟨rw_, 1, none⟩ = some (.int .i64 l.area) ∧ w'.cell? ⟨rw_, 2, none⟩ = some (.int .i64 l.gen) ∧ w'.cell? ⟨rw_, 3, none⟩ = some (.slice la l.recs.length lc)) [([0, 1, 2, 3, 4, 5, 6, 7, 8, 9, 10, 11, 12, 13, 14, 15], 16)] [17] (by kernel_rfl) (by kernel_rfl) ⟨k1, k2, k3⟩ ?_
        refine Ord.wpOrd_seg [_, _, _, _, _, _, _, _, _, _, _, _, _, _, _, _] _ rfl rfl ?_
        simp only [List.getElem_toArray, List.getElem_cons_zero, List.getElem_cons_succ]
        repeat first | go_big_quiet_skip | (go_big_quiet_want; go_big_quiet_op; first | go_big_quiet_on | (apply Exists.intro; refine ⟨fun _ => ?_, ?_⟩; (focus (intros; first | rfl | (simp only [*]; rfl) | (simp [*]; rfl))); go_big_quiet_on))
        refine wpQuiet_nil ?_
        go_wp2_with fail
        rw [HSEQ.out]
        (with_reducible refine (rlay_any rw_ rd rf d av l.area l.gen (l.recs.length + 1) (.int .i64 l.area) (.int .i64 l.gen) (.slice la l.recs.length lc) s _ HD2.out HAV2.out HB2D.out HRW.out (HF.out.opn HBR.out) HF.out.area HF.out.gen HLE.out HLG.out).mono ?_); rintro _ w3 ⟨rfl, hd3, hb3, hm3⟩
        obtain ⟨q0, q1, q2, q3, q4, qz⟩ := hb3.cells5
        have hlt3 : rw_ < w3.heap.size := hb3.lt
        have HD3 := Lib.hid hd3
        have HB3 := Lib.hid hb3
        have HM3 := Lib.hid ((((HM2.out.drew).mono (S' := [rd, rf, rw_]) (by simp)).trans hm3))
        clear hd3 hb3 hm3 k1 k2 k3 kz q0 q4
        cases hok : layOk d l.area l.gen (l.recs.length + 1) s
        · have HOK := Lib.hid hok
          clear hok
          go_wp2_with fail
          try (refine ⟨⟨q1, q2, q3⟩, ?_⟩)
          refine Ord.wpOrd_last [_] rfl ?_
          simp only [List.getElem_toArray, List.getElem_cons_zero, List.getElem_cons_succ]
          repeat first | go_big_quiet_skip | (go_big_quiet_want; go_big_quiet_op; first | go_big_quiet_on | (apply Exists.intro; refine ⟨fun _ => ?_, ?_⟩; (focus (intros; first | rfl | (simp only [*]; rfl) | (simp [*]; rfl))); go_big_quiet_on))
          refine wpQuiet_nil ?_
          go_wp2
          go_ret
          refine ⟨by rw [HM.out]; unfold appE; rw [if_neg (by simp [HY.out]), if_neg HR.out, HOK.out]; rfl, ?_, ?_, HM3.out⟩
          · unfold appL; rw [if_neg HN.out, HOK.out]
            have hbb := HB3.out
            rw [HOK.out] at hbb
            exact ⟨_, hbb, HST.out.mod HM3.out (by intro x hx; left; simp at hx ⊢; rcases hx with e | e | e; simp [e]; simp [e]; rw [e]; simp [HRW.out])⟩
          · unfold appD; rw [if_neg HN.out]; exact HD3.out
        · have HOK := Lib.hid hok
          clear hok
          go_wp2_with fail
          try (refine ⟨⟨q1, q2, q3⟩, ?_⟩)
          refine Ord.wpOrd_last [_] rfl ?_
          simp only [List.getElem_toArray, List.getElem_cons_zero, List.getElem_cons_succ]
          repeat first | go_big_quiet_skip | (go_big_quiet_want; go_big_quiet_op; first | go_big_quiet_on | (apply Exists.intro; refine ⟨fun _ => ?_, ?_⟩; (focus (intros; first | rfl | (simp only [*]; rfl) | (simp [*]; rfl))); go_big_quiet_on))
          refine wpQuiet_nil ?_
          have hbb := HB3.out
          rw [HOK.out] at hbb
          have HB3' := Lib.hid hbb
          have hst3 : StrsAt w3 (.slice la l.recs.length lc) l.recs ([rd, rf] ++ av) := HST.out.mod HM3.out (by intro x hx; left; simp at hx ⊢; rcases hx with e | e | e; simp [e]; simp [e]; rw [e]; simp [HRW.out])
          have HLT3 := Lib.hid hlt3
          obtain ⟨i0, hinf, hz0, hz1, hz2⟩ := info_parts info_str
          have HI0 := Lib.hid (And.intro hinf (And.intro hz0 (And.intro hz1 hz2)))
          have HML := Lib.hid (show l.recs.length + 1 ≤ maxLen by have := HLE.out; have := half_two HD.out.fits; unfold maxLen; omega)
          have HCL := Lib.hid (show (l.recs.length + 1) * 16 ≤ 140737488355328 by have := HLE.out; have := half_two HD.out.fits; omega)
          clear hbb hinf hz0 hz1 hz2 q1 q2
          rcases hst3 with ⟨e1, e2⟩ | ⟨g, cap, e1, hc, _, _⟩
          · have hla : la = none := by injection e1
            have hlc : lc = 0 := by injection e1
            obtain rfl := hla
            obtain rfl := hlc
            have HE2 := Lib.hid e2
            have hl0 : l.recs.length = 0 := by rw [e2]; rfl
            have HL0 := Lib.hid hl0
            rw [hl0] at q3
            have hown1 : (w3.alloc (.cells #[] 9)).ownsRow w3.heap.size 9 1 (.slice (some ⟨w3.heap.size, 0, none⟩) 0 0) l.recs.length (l.recs.map Value.string) := by
              rw [e2]; exact own_empty w3 9
            have HOWN1 := Lib.hid hown1
            have HM4 := Lib.hid (show Mod [] w3 (w3.alloc (.cells #[] 9)) from (Mod.refl [] _).alloc _)
            have HB4 := Lib.hid (HB3'.out.alloc (.cells #[] 9))
            have HSZ1 := Lib.hid (show w3.heap.size ≤ ((w3.alloc (.cells #[] 9)).alloc (.cells #[.string s] 9)).heap.size by simp; omega)
            clear e1 e2 hown1 hl0
            -- hown1 : the row of what was; then one more, and the store
            go_wp2_with (at_builtin; refine wpList_append_own _ rfl (.tmp 47) (.tmp 49) 31 rfl w3.heap.size 9 i0 (.string ⟨#[]⟩) 1 16 Try.underlying31 HI0.out.1 HI0.out.2.1 HI0.out.2.2.1 HI0.out.2.2.2 rfl (by decide) _ l.recs.length (l.recs.map Value.string) rfl (HOWN1.out.alloc _) ⟨w3.heap.size + 1, 0, none⟩ 1 1 [.string s] rfl rfl (one_new_at _ _ _ _ (by simp)) (by intro u hu; simp at hu; subst hu; rfl) HML.out HCL.out HSZ1.out ?_)
            intro v5 w5 hown5 hg5 _
            have hb5 : Blk w5 rw_ [ptr rd, .int .i64 l.area, .int .i64 l.gen, .slice none l.recs.length 0, .bool false] 56 := by
              have hbb := HB4.out.alloc (.cells #[.string s] 9)
              refine (show w5.heap[rw_]? = _ from ?_)
              rw [hg5.block rw_ hbb.lt (fun e => by have := (HOWN1.out.lt rw_ e.symm).1; have := HLT3.out; omega)]
              exact hbb
            have hm5 := (HM4.out.alloc (.cells #[.string s] 9)).grown hg5 (fun q hq => by have := (HOWN1.out.lt q hq).1; exact this)
            obtain ⟨ya, yc, hv5⟩ := own_slice hown5
            obtain rfl := hv5
            obtain ⟨k0, k1, k2, k3, k4, kz⟩ := hb5.cells5
            have HB5 := Lib.hid hb5
            have HM5 := Lib.hid hm5
            have HO5 := Lib.hid hown5
            clear hown5 hg5 hb5 hm5 k0 k1 k2 k4
            go_wp2
            go_ret
            have hm6 := (HM5.out.mono (S' := [rd, rf, rw_]) (by simp)).setCell (p := ⟨rw_, 3, none⟩) (by simp) (.slice ya (l.recs.length + 1) yc)
            refine ⟨by rw [HM.out]; unfold appE; rw [if_neg (by simp [HY.out]), if_neg HR.out, HOK.out]; rfl, ?_, ?_, HM3.out.trans hm6⟩
            · unfold appL; rw [if_neg HN.out, HOK.out]
              refine ⟨.slice ya (l.recs.length + 1) yc, ?_, ?_⟩
              · have := HB5.out.set 3 (.slice ya (l.recs.length + 1) yc)
                show Blk _ rw_ [_, _, _, _, .bool l.broken] _
                rw [HBR.out]
                exact this
              · have h7 : (w5.setCell ⟨rw_, 3, none⟩ (.slice ya (l.recs.length + 1) yc)).ownsRow w3.heap.size 9 1 (.slice ya (l.recs.length + 1) yc) (l.recs ++ [s]).length ((l.recs ++ [s]).map Value.string) := by
                  have := ownsRow_setCell_below HO5.out (a := ⟨rw_, 3, none⟩) (by exact HLT3.out) (.slice ya (l.recs.length + 1) yc)
                  simp only [List.length_append, List.length_singleton, List.map_append, List.map_cons, List.map_nil]
                  exact this
                refine own_strs h7 ?_
                intro x hx
                have h1 := HD3.out.lts
                rcases List.mem_cons.1 hx with e | hx
                · rw [e]; exact h1.1
                rcases List.mem_cons.1 hx with e | e
                · rw [e]; exact h1.2
                · exact Nat.lt_of_lt_of_le (HAV.out x e) HM3.out.size
            · unfold appD; rw [if_neg HN.out]
              exact (HD3.out.same (HM5.out)).mod ((Mod.refl [rw_] w5).setCell (p := ⟨rw_, 3, none⟩) (by simp) _) (by simp; exact HRW.out)
          · have hla : la = some ⟨g, 0, none⟩ := by injection e1
            have hlc : lc = cap := by injection e1
            obtain rfl := hla
            obtain rfl := hlc
            have HSRC := Lib.hid (strs_src hc (Mod.refl [] w3))
            have HLL := Lib.hid (show l.recs.length ≤ maxLen by have := HML.out; omega)
            have HLC2 := Lib.hid (show l.recs.length * 16 ≤ 140737488355328 by have := HCL.out; omega)
            clear hc e1
            go_wp2_with (at_builtin; refine wpList_append_own _ rfl (.tmp 42) (.tmp 46) 31 rfl w3.heap.size 9 i0 (.string ⟨#[]⟩) 1 16 Try.underlying31 HI0.out.1 HI0.out.2.1 HI0.out.2.2.1 HI0.out.2.2.2 rfl (by decide) _ 0 [] rfl (own_empty w3 9) ⟨g, 0, none⟩ l.recs.length lc (l.recs.map Value.string) rfl (by rw [List.length_map, Nat.mul_one]) HSRC.out (by intro u hu; obtain ⟨s, _, rfl⟩ := List.mem_map.1 hu; rfl) (by rw [Nat.zero_add]; exact HLL.out) (by rw [Nat.zero_add]; exact HLC2.out) (by simp) ?_)
            intro v4 w4 hown1 hg4 _
            obtain ⟨za, zc, hv4⟩ := own_slice hown1
            obtain rfl := hv4
            have hm4 : Mod [] w3 w4 := ((Mod.refl [] w3).alloc (.cells #[] 9)).grown hg4 (fun k hk => by simp [Value.ownBlock] at hk; omega)
            have hb4 := HB3'.out.mod hm4 (by simp)
            obtain ⟨k0, k1, k2, k3, k4, kz⟩ := hb4.cells5
            have hlt4 : rw_ < w4.heap.size := hb4.lt
            have HOWN1 := Lib.hid hown1
            have HM4 := Lib.hid hm4
            have HB4 := Lib.hid hb4
            have HSZ1 := Lib.hid (show w3.heap.size ≤ (w4.alloc (.cells #[.string s] 9)).heap.size by have := hm4.size; simp; omega)
            clear hown1 hg4 hm4 hb4 k0 k1 k2 k4 q3 qz
            -- hown1 : the row of what was; then one more, and the store
            go_wp2_with (at_builtin; refine wpList_append_own _ rfl (.tmp 47) (.tmp 49) 31 rfl w3.heap.size 9 i0 (.string ⟨#[]⟩) 1 16 Try.underlying31 HI0.out.1 HI0.out.2.1 HI0.out.2.2.1 HI0.out.2.2.2 rfl (by decide) _ l.recs.length (l.recs.map Value.string) rfl (HOWN1.out.alloc _) ⟨w4.heap.size, 0, none⟩ 1 1 [.string s] rfl rfl (one_new _ _ _) (by intro u hu; simp at hu; subst hu; rfl) HML.out HCL.out HSZ1.out ?_)
            intro v5 w5 hown5 hg5 _
            have hb5 : Blk w5 rw_ [ptr rd, .int .i64 l.area, .int .i64 l.gen, .slice (some ⟨g, 0, none⟩) l.recs.length lc, .bool false] 56 := by
              have hbb := HB4.out.alloc (.cells #[.string s] 9)
              refine (show w5.heap[rw_]? = _ from ?_)
              rw [hg5.block rw_ hbb.lt (fun e => by have := (HOWN1.out.lt rw_ e.symm).1; have := HLT3.out; omega)]
              exact hbb
            have hm5 := (HM4.out.alloc (.cells #[.string s] 9)).grown hg5 (fun q hq => by have := (HOWN1.out.lt q hq).1; exact this)
            obtain ⟨ya, yc, hv5⟩ := own_slice hown5
            obtain rfl := hv5
            obtain ⟨k0, k1, k2, k3, k4, kz⟩ := hb5.cells5
            have HB5 := Lib.hid hb5
            have HM5 := Lib.hid hm5
            have HO5 := Lib.hid hown5
            clear hown5 hg5 hb5 hm5 k0 k1 k2 k4
            go_wp2
            go_ret
            have hm6 := (HM5.out.mono (S' := [rd, rf, rw_]) (by simp)).setCell (p := ⟨rw_, 3, none⟩) (by simp) (.slice ya (l.recs.length + 1) yc)
            refine ⟨by rw [HM.out]; unfold appE; rw [if_neg (by simp [HY.out]), if_neg HR.out, HOK.out]; rfl, ?_, ?_, HM3.out.trans hm6⟩
            · unfold appL; rw [if_neg HN.out, HOK.out]
              refine ⟨.slice ya (l.recs.length + 1) yc, ?_, ?_⟩
              · have := HB5.out.set 3 (.slice ya (l.recs.length + 1) yc)
                show Blk _ rw_ [_, _, _, _, .bool l.broken] _
                rw [HBR.out]
                exact this
              · have h7 : (w5.setCell ⟨rw_, 3, none⟩ (.slice ya (l.recs.length + 1) yc)).ownsRow w3.heap.size 9 1 (.slice ya (l.recs.length + 1) yc) (l.recs ++ [s]).length ((l.recs ++ [s]).map Value.string) := by
                  have := ownsRow_setCell_below HO5.out (a := ⟨rw_, 3, none⟩) (by exact HLT3.out) (.slice ya (l.recs.length + 1) yc)
                  simp only [List.length_append, List.length_singleton, List.map_append, List.map_cons, List.map_nil]
                  exact this
                refine own_strs h7 ?_
                intro x hx
                have h1 := HD3.out.lts
                rcases List.mem_cons.1 hx with e | hx
                · rw [e]; exact h1.1
                rcases List.mem_cons.1 hx with e | e
                · rw [e]; exact h1.2
                · exact Nat.lt_of_lt_of_le (HAV.out x e) HM3.out.size
            · unfold appD; rw [if_neg HN.out]
              exact (HD3.out.same (HM5.out)).mod ((Mod.refl [rw_] w5).setCell (p := ⟨rw_, 3, none⟩) (by simp) _) (by simp; exact HRW.out)
end Go.Proofs.Yteidhbjfmmodhaa
