/-
  In every order of calls, whatever the fuse bears, however it crashes, and whenever it is opened anew, a log has the records that the document says: the law WalPlays returns true for every pair of numbers and every slice of acts. No condition.
-/
import Derived.Test.YteidhbjfmmodhaaWalTwo
import Derived.Test.YteidhbjfmmodhaaWalGreat
import Derived.Test.YteidhbjfmmodhaaRDisk2
import Derived.Test.YteidhbjfmmodhaaArr
import Derived.Test.YteidhbjfmmodhaaRows
import Derived.ProofKit
import Derived.OpenShut
import Derived.ShutString
import Derived.ChangeOld
namespace Go.Proofs.Yteidhbjfmmodhaa
open Go.RowKit Crc Fr














/-- Both have a log, and the same; or neither has. -/
def State (w : World) (B bd bs bf rd rf : Nat) (v9 v12 : Value) : Prop :=
  (∃ bw rw_ d lg, v9 = ptr bw ∧ v12 = ptr rw_ ∧ Logs w B bd bs bf rd rf bw rw_ d d lg lg) ∨ (∃ d, v9 = .pointer none ∧ v12 = .pointer none ∧ Disks w B bd bs bf rd rf [] d d)

set_option maxRecDepth 100000 in
set_option maxHeartbeats 16000000 in
theorem plays_calls (x y : Int) (a : Option Addr) (cap : Nat) (l : List Act7) (w : World) (hl : ArgActs w a l) :
    Calls Try.prog 7 #[.agg #[.int .i64 x, .int .i64 y], .slice a l.length cap] w fun e w' => e = .returned (.bool true) ∧ Below w.heap.size w w' := by
  have HA := Lib.hid hl
  obtain ⟨gr, hgr⟩ : ∃ gr, gr = greatB y l := ⟨_, rfl⟩
  have HGR := Lib.hid hgr
  clear hl hgr
  obtain ⟨bx, hbx⟩ : ∃ bx, bx = w.heap.size := ⟨_, rfl⟩
  have hx0 := Blk.new w [.int .i64 x, .int .i64 y] 22
  rw [← hbx] at hx0
  obtain ⟨w0, hw0⟩ : ∃ w0, w0 = w.alloc (.cells #[.int .i64 x, .int .i64 y] 22) := ⟨_, rfl⟩
  have hx1 : Blk w0 bx [.int .i64 x, .int .i64 y] 22 := by rw [hw0]; exact hx0
  have hm0 : Mod [] w w0 := by rw [hw0]; exact (Mod.refl [] _).alloc _
  have HM0 := Lib.hid hm0
  have HX0 := Lib.hid hx1
  have HBX := Lib.hid hbx
  have HW0 := Lib.hid hw0
  clear hx0 hx1 hm0 hbx hw0
  cases gr with
  | true =>
    go_enter Try.func7, Try.ntmps7
    go_wp2_with fail
    rw [← HW0.out, ← HBX.out]
    (with_reducible refine (fnew_any _).mono ?_); rintro _ w1 ⟨bf, rfl, hb1, hf1, hm1⟩
    go_wp2_with fail
    obtain ⟨rf, hrf⟩ : ∃ rf, rf = w1.heap.size := ⟨_, rfl⟩
    have hr2 := Blk.new w1 [.bool false, .int .i64 0, .bool false, .int .i64 0] 46
    have hm2 : Mod [] w1 (w1.alloc (.cells #[.bool false, .int .i64 0, .bool false, .int .i64 0] 46)) := (Mod.refl [] w1).alloc _
    obtain ⟨w2, hw2⟩ : ∃ w2, w2 = w1.alloc (.cells #[.bool false, .int .i64 0, .bool false, .int .i64 0] 46) := ⟨_, rfl⟩
    rw [← hw2] at hm2 ⊢
    have hr3 : Blk w2 rf [.bool false, .int .i64 0, .bool false, .int .i64 0] 46 := by rw [hw2, hrf]; exact hr2
    rw [← hrf]
    have hfr : FuseR w2 rf F.new := ⟨⟨0, hr3, fun n hn => by cases hn⟩, fun n hn => by cases hn⟩
    have HFI := Lib.hid (hf1.mod hm2 (by simp))
    have HFR := Lib.hid hfr
    have HRF := Lib.hid (And.intro (show w0.heap.size ≤ bf from hb1) (show w0.heap.size ≤ rf ∧ bf < rf from ⟨by rw [hrf]; exact hm1.size, by rw [hrf]; exact hf1.blk.lt⟩))
    have HM1 := Lib.hid (hm1.trans hm2)
    clear hrf hr2 hm2 hw2 hr3 hfr hf1 hm1 hb1
    (with_reducible refine (wawake_any _).mono ?_); rintro _ w3 ⟨rfl, hb3⟩
    have hm3 : Mod [] w0 w3 := HM1.out.then hb3
    have hx3 := HX0.out.mod hm3 (by simp)
    have c0 := hx3.cell 0
    have c1 := hx3.cell 1
    simp only [List.getElem?_cons_zero, List.getElem?_cons_succ] at c0 c1
    have HX3 := Lib.hid hx3
    have HFI3 := Lib.hid (HFI.out.mod (Mod.of_below hb3 : Mod [] w2 w3) (by simp))
    have HFR3 := Lib.hid (HFR.out.mod (Mod.of_below hb3 : Mod [] w2 w3) (by simp))
    have HM3 := Lib.hid (HM0.out.trans hm3)
    have HA3 := Lib.hid (HA.out.mod HM3.out)
    clear hm3 hx3 hb3
    go_wp2_with fail
    (with_reducible refine (great_any x y a cap l _ HA3.out).mono ?_); rintro _ w4 ⟨rfl, hm4⟩
    rw [← HGR.out]
    have HM4 := Lib.hid (HM3.out.trans hm4)
    have HFI4 := Lib.hid (HFI3.out.mod hm4 (by simp))
    have HFR4 := Lib.hid (HFR3.out.mod hm4 (by simp))
    have hx4 := HX3.out.mod hm4 (by simp)
    have d0 := hx4.cell 0
    have d1 := hx4.cell 1
    simp only [List.getElem?_cons_zero, List.getElem?_cons_succ] at d0 d1
    have HC := Lib.hid (And.intro d0 d1)
    clear hm4 c0 c1 hx4 d0 d1
    go_wp2_with fail
    (with_reducible refine (wawake_any _).mono ?_); rintro _ w5 ⟨rfl, hb5⟩
    go_wp2
    go_ret
    exact ⟨rfl, (HM4.out.then hb5).below⟩
  | false =>
    go_enter Try.func7, Try.ntmps7
    go_wp2_with fail
    rw [← HW0.out, ← HBX.out]
    (with_reducible refine (fnew_any _).mono ?_); rintro _ w1 ⟨bf, rfl, hb1, hf1, hm1⟩
    go_wp2_with fail
    obtain ⟨rf, hrf⟩ : ∃ rf, rf = w1.heap.size := ⟨_, rfl⟩
    have hr2 := Blk.new w1 [.bool false, .int .i64 0, .bool false, .int .i64 0] 46
    have hm2 : Mod [] w1 (w1.alloc (.cells #[.bool false, .int .i64 0, .bool false, .int .i64 0] 46)) := (Mod.refl [] w1).alloc _
    obtain ⟨w2, hw2⟩ : ∃ w2, w2 = w1.alloc (.cells #[.bool false, .int .i64 0, .bool false, .int .i64 0] 46) := ⟨_, rfl⟩
    rw [← hw2] at hm2 ⊢
    have hr3 : Blk w2 rf [.bool false, .int .i64 0, .bool false, .int .i64 0] 46 := by rw [hw2, hrf]; exact hr2
    rw [← hrf]
    have hfr : FuseR w2 rf F.new := ⟨⟨0, hr3, fun n hn => by cases hn⟩, fun n hn => by cases hn⟩
    have HFI := Lib.hid (hf1.mod hm2 (by simp))
    have HFR := Lib.hid hfr
    have HRF := Lib.hid (And.intro (show w0.heap.size ≤ bf from hb1) (show w0.heap.size ≤ rf ∧ bf < rf from ⟨by rw [hrf]; exact hm1.size, by rw [hrf]; exact hf1.blk.lt⟩))
    have HM1 := Lib.hid (hm1.trans hm2)
    clear hrf hr2 hm2 hw2 hr3 hfr hf1 hm1 hb1
    (with_reducible refine (wawake_any _).mono ?_); rintro _ w3 ⟨rfl, hb3⟩
    have hm3 : Mod [] w0 w3 := HM1.out.then hb3
    have hx3 := HX0.out.mod hm3 (by simp)
    have c0 := hx3.cell 0
    have c1 := hx3.cell 1
    simp only [List.getElem?_cons_zero, List.getElem?_cons_succ] at c0 c1
    have HX3 := Lib.hid hx3
    have HFI3 := Lib.hid (HFI.out.mod (Mod.of_below hb3 : Mod [] w2 w3) (by simp))
    have HFR3 := Lib.hid (HFR.out.mod (Mod.of_below hb3 : Mod [] w2 w3) (by simp))
    have HM3 := Lib.hid (HM0.out.trans hm3)
    have HA3 := Lib.hid (HA.out.mod HM3.out)
    clear hm3 hx3 hb3
    go_wp2_with fail
    (with_reducible refine (great_any x y a cap l _ HA3.out).mono ?_); rintro _ w4 ⟨rfl, hm4⟩
    rw [← HGR.out]
    have HM4 := Lib.hid (HM3.out.trans hm4)
    have HFI4 := Lib.hid (HFI3.out.mod hm4 (by simp))
    have HFR4 := Lib.hid (HFR3.out.mod hm4 (by simp))
    have hx4 := HX3.out.mod hm4 (by simp)
    have d0 := hx4.cell 0
    have d1 := hx4.cell 1
    simp only [List.getElem?_cons_zero, List.getElem?_cons_succ] at d0 d1
    have HC := Lib.hid (And.intro d0 d1)
    clear hm4 c0 c1 hx4 d0 d1
    have c0 := HC.out.1
    have c1 := HC.out.2
    have HFI5 := Lib.hid (HFI4.out.mod ((Mod.refl [] w4).drew) (by simp))
    have HFR5 := Lib.hid (HFR4.out.mod ((Mod.refl [] w4).drew) (by simp))
    go_wp2_with fail
    refine Ord.wp_region_ord (fun w' => w'.cell? ⟨bx, 0, none⟩ = some (.int .i64 x) ∧ w'.cell? ⟨bx, 1, none⟩ = some (.int .i64 y)) [([0, 1, 2, 3, 4, 6, 7, 8, 9, 10], 5), ([], 11)] [12, 13] (by kernel_rfl) (by kernel_rfl) ⟨c0, c1⟩ ?_
    refine Ord.wpOrd_seg [_, _, _, _, _, _, _, _, _, _] _ rfl rfl ?_
    simp only [List.getElem_toArray, List.getElem_cons_zero, List.getElem_cons_succ]
    repeat first | go_big_quiet_skip | (go_big_quiet_want; go_big_quiet_op; first | go_big_quiet_on | (apply Exists.intro; refine ⟨fun _ => ?_, ?_⟩; (focus (intros; first | rfl | (simp only [*]; rfl) | (simp [*]; rfl))); go_big_quiet_on))
    refine wpQuiet_nil ?_
    go_wp2_with fail
    (with_reducible refine (dnew_any x y bf F.new _ HFI5.out).mono ?_); rintro _ w5 ⟨bd, bs, rfl, hbd, hbs, hd5, hm5⟩
    have HR5 := Lib.hid (HFR5.out.mod hm5 (by simp))
    have q0 := ((Mod.refl [] w4).drew.trans hm5).cell c0 (by simp)
    have q1 := ((Mod.refl [] w4).drew.trans hm5).cell c1 (by simp)
    have HD5 := Lib.hid hd5
    have HM5 := Lib.hid ((Mod.refl [] w4).drew.trans hm5)
    have HB5 := Lib.hid (And.intro hbd hbs)
    have HAV5 := Lib.hid (show (∀ x ∈ [bd, bs, bf], x < w5.heap.size) ∧ rf ∉ [bd, bs, bf] from by
      have h1 := hd5.lts
      have h2 := HRF.out
      have h8 : rf < w4.heap.size := by obtain ⟨⟨q, hb, _⟩, _⟩ := HFR4.out; exact hb.lt
      have h9 : rf < w4.drew.heap.size := h8
      refine ⟨fun x hx => ?_, fun hx => ?_⟩
      · simp at hx; omega
      · simp at hx; omega)
    clear c0 c1 hbd hbs hd5 hm5
    go_wp2_with fail
    try (refine ⟨⟨q0, q1⟩, ?_⟩)
    refine Ord.wpOrd_seg [] _ rfl rfl ?_
    simp only [List.getElem_toArray, List.getElem_cons_zero, List.getElem_cons_succ]
    refine wpQuiet_nil ?_
    go_wp2_with fail
    (with_reducible refine (rdnew_any x y rf F.new [bd, bs, bf] _ HR5.out HAV5.out.1 HAV5.out.2).mono ?_); rintro _ w6 ⟨rd, rfl, hrd, hd6, hm6⟩
    have q2 := hm6.cell q0 (by simp)
    have q3 := hm6.cell q1 (by simp)
    have HDI := Lib.hid (HD5.out.same hm6)
    have HDR := Lib.hid hd6
    have HM6 := Lib.hid (HM5.out.trans hm6)
    have HB6 := Lib.hid hrd
    have HDL := Lib.hid HD5.out.lts
    clear q0 q1 hd6 hm6 hrd
    go_wp2_with fail
    try (refine ⟨⟨q2, q3⟩, ?_⟩)
    refine Ord.wpOrd_last [_, _] rfl ?_
    simp only [List.getElem_toArray, List.getElem_cons_zero, List.getElem_cons_succ]
    repeat first | go_big_quiet_skip | (go_big_quiet_want; go_big_quiet_op; first | go_big_quiet_on | (apply Exists.intro; refine ⟨fun _ => ?_, ?_⟩; (focus (intros; first | rfl | (simp only [*]; rfl) | (simp [*]; rfl))); go_big_quiet_on))
    refine wpQuiet_nil ?_
    clear q2 q3
    have hdk : Disks w6 w.heap.size bd bs bf rd rf [] (dNew x y F.new) (dNew x y F.new) := by
      have h1 := HRF.out
      have h2 := HB5.out
      have h3 := HB6.out
      have h4 := HDL.out
      have h5 := HM4.out.size
      have h6 := HM0.out.size
      have h7 := HFI4.out.blk.lt
      have h8 : rf < w4.heap.size := by obtain ⟨⟨q, hb, _⟩, _⟩ := HFR4.out; exact hb.lt
      have h9 : w4.drew.heap.size = w4.heap.size := rfl
      have h10 := HM0.out.size
      have h11 : w.heap.size ≤ w4.heap.size := h5
      refine ⟨?_, HDR.out, by simp, ?_⟩
      · obtain ⟨⟨os, k1, k2⟩, k3, k4, k5, k6, k7⟩ := HDI.out
        refine ⟨⟨os, k1, k2⟩, k3, k4, k5, ⟨?_, ?_, ?_⟩, k7⟩
        · simp; omega
        · simp; omega
        · simp; omega
      · intro q hq
        simp at hq
        omega
    have HDK := Lib.hid hdk
    have HM7 := Lib.hid (HM4.out.trans HM6.out)
    clear hdk HDI HDR HM6 HB6 HDL HAV5 HB5 HM5 HD5 HR5 HFI5 HFR5 HFI4 HFR4 HM3 HX3 HM1 HFI HFR HFI3 HFR3 HC
    have HFO := Lib.hid (fresh_open x y F.new ⟨rfl, rfl⟩)
    have HBS := Lib.hid (show w.heap.size ≤ w6.heap.size from HM7.out.size)
    go_wp2_with fail
    (with_reducible refine (open_i HDK.out HBS.out).mono ?_); rintro _ w7 ⟨hm7, hcase⟩
    rcases hcase with ⟨_, bw, v, rfl, hbw, hl7, hd7, hs7⟩ | ⟨hno, _⟩
    case inr => rw [HFO.out.1] at hno; cases hno
    have hrecs : (openL (dNew x y F.new)).recs = [] := by rw [HFO.out.2.2]; rfl
    rw [hrecs] at hs7
    obtain ⟨va, vc, rfl⟩ := hs7.slc
    have HL7 := Lib.hid hl7
    have HD7 := Lib.hid hd7
    have HM8 := Lib.hid (below_mod HM7.out.below hm7 (fun q hq => HDK.out.base q (by simp only [List.mem_cons, List.not_mem_nil, or_false] at hq ⊢; rcases hq with e | e | e <;> simp [e])))
    have HF7 := Lib.hid (open_fits HDK.out.di.fits HFO.out.1)
    have HBS7 := Lib.hid (show w.heap.size ≤ w7.heap.size from HM8.out.size)
    clear hl7 hd7 hm7 hs7 hbw hrecs
    go_wp2_with fail
    (with_reducible refine (open_r_yes HD7.out HL7.out HF7.out HFO.out.1 HBS7.out).mono ?_); rintro _ w8 ⟨rw_, rfl, hlg, hm8⟩
    have HLG := Lib.hid hlg
    have HM9 := Lib.hid (below_mod HM8.out hm8 (fun q hq => hlg.baseR q (by simp only [List.mem_cons, List.not_mem_nil, or_false] at hq ⊢; rcases hq with e | e <;> simp [e])))
    clear hlg hm8
    go_wp2_with fail
    have HAL := Lib.hid (show l.length ≤ 40 by
      have := HGR.out
      unfold greatB at this
      simp at this
      omega)
    go_loopw [9, 12, 71] (fun v9 v12 i wr => ∃ (k : Nat), i = .int .i64 k ∧ k ≤ l.length ∧ State wr w.heap.size bd bs bf rd rf v9 v12 ∧ Below w.heap.size w wr) (fun _ _ i _ => l.length - (intOf i).toNat)
    case atStart => exact ⟨0, rfl, Nat.zero_le _, .inl ⟨bw, rw_, _, _, rfl, rfl, HLG.out⟩, HM9.out⟩
    case round =>
      obtain ⟨k, rfl, hk, hst, hm⟩ := hrel
      have HM := Lib.hid hm
      clear hm
      by_cases hlt : k < l.length
      · rcases HA.out with e | ⟨b, o, rfl, hb, hc⟩
        · rw [e] at hlt; exact absurd hlt (Nat.not_lt_zero _)
        obtain ⟨act, hact⟩ : ∃ act, act = l[k] := ⟨_, rfl⟩
        obtain ⟨hfit, c0, c1, c2, c3⟩ := hc k hlt
        rw [← hact] at c0 c1 c2 c3 hfit
        have hmm : Mod [] w wr := Mod.of_below HM.out
        have q0 := hmm.cell c0 (by simp)
        have q1 := hmm.cell c1 (by simp)
        have q2 := hmm.cell c2 (by simp)
        have q3 := hmm.cell c3 (by simp)
        have HWK := Lib.hid (show wrap64 ((k : Int) + 1) = ((k + 1 : Nat) : Int) by have := HAL.out; rw [IntWalk.wrap64_in _ (by omega)]; omega)
        have HLT := Lib.hid hlt
        have HFIT := Lib.hid hfit
        clear hc hb c0 c1 c2 c3 hact hmm hfit
        have HMA := Lib.hid ((Mod.refl [] wr).alloc (.cells #[.int .i64 act.kind, .string act.text, .int .i64 act.n, .int .u64 act.keep] 38))
        have HBOX := Lib.hid (Blk.new wr [.int .i64 act.kind, .string act.text, .int .i64 act.n, .int .u64 act.keep] 38)
        have HM2 := Lib.hid (below_mod HM.out HMA.out (by simp))
        by_cases e1 : act.kind = 1
        · have g1 : (act.kind == 1) = true := by simp [e1]
          have g2 : (act.kind == 2) = false := by simp [e1]
          have g3 : (act.kind == 3) = false := by simp [e1]
          have g4 : (act.kind == 4) = false := by simp [e1]
          have g5 : (act.kind == 5) = false := by simp [e1]
          clear e1
          as_aux_lemma =>
            rcases hst with ⟨bw, rw_, d, lg, rfl, rfl, hlg⟩ | ⟨d, rfl, rfl, hdk⟩
            · have HLG0 := Lib.hid hlg
              clear hlg
              go_wp2_with fail
              -- the world with the act in a box: wa; the box: ba
              obtain ⟨wa, hwa⟩ : ∃ wa, wa = wr.alloc (.cells #[.int .i64 act.kind, .string act.text, .int .i64 act.n, .int .u64 act.keep] 38) := ⟨_, rfl⟩
              obtain ⟨ba, hba⟩ : ∃ ba, ba = wr.heap.size := ⟨_, rfl⟩
              rw [← hwa, ← hba]
              have HMAW := Lib.hid (show Mod [] wr wa by rw [hwa]; exact HMA.out)
              have HM3 := Lib.hid (show Below w.heap.size w wa by rw [hwa]; exact HM2.out)
              have hboxa : Blk wa ba [.int .i64 act.kind, .string act.text, .int .i64 act.n, .int .u64 act.keep] 38 := by rw [hwa, hba]; exact HBOX.out
              have HBA := Lib.hid hboxa
              have HNB := Lib.hid (show ∀ x, x < wr.heap.size → x ≠ ba from fun x hx => by omega)
              have b0 := hboxa.cell 0
              have b1 := hboxa.cell 1
              have b2 := hboxa.cell 2
              have b3 := hboxa.cell 3
              simp only [List.getElem?_cons_zero, List.getElem?_cons_succ] at b0 b1 b2 b3
              clear hwa hba hboxa q0 q1 q2 q3 g1
              have HLG1 := Lib.hid ((HLG0.out.same HMAW.out).same (Mod.refl [] wa).drew)
              have HM4 := Lib.hid (below_mod HM3.out (Mod.refl [] wa).drew (by simp))
              refine Ord.wp_region_ord (fun w' => w'.cell? ⟨ba, 1, none⟩ = some (.string act.text)) [([0, 1, 2, 3, 4, 5, 7, 8, 9], 6), ([], 10)] [11, 12] (by kernel_rfl) (by kernel_rfl) b1 ?_
              refine Ord.wpOrd_seg [_, _, _, _, _, _, _, _, _] _ rfl rfl ?_
              simp only [List.getElem_toArray, List.getElem_cons_zero, List.getElem_cons_succ]
              repeat first | go_big_quiet_skip | (go_big_quiet_want; go_big_quiet_op; first | go_big_quiet_on | (apply Exists.intro; refine ⟨fun _ => ?_, ?_⟩; (focus (intros; first | rfl | (simp only [*]; rfl) | (simp [*]; rfl))); go_big_quiet_on))
              refine wpQuiet_nil ?_
              go_wp2_with fail
              (with_reducible refine (app_i HLG1.out act.text).mono ?_); rintro _ w5 ⟨rfl, hlg5, hm5⟩
              have HLG5 := Lib.hid hlg5
              have HM5 := Lib.hid (below_mod HM4.out hm5 hlg5.baseL)
              have b5 := hm5.cell (a := ⟨ba, 1, none⟩) b1 (fun hx => HNB.out ba (by
                have h1 := HLG0.out.disks.ltR
                have h2 := HLG0.out.disks.lt
                simp only [List.mem_cons, List.not_mem_nil, or_false] at hx
                rcases hx with e | e | e | e
                · rw [e]; exact h1 _ (by simp)
                · rw [e]; exact h1 _ (by simp)
                · rw [e]; exact h1 _ (by simp)
                · rw [e]; exact h2 _ (by simp)) rfl)
              clear hlg5 hm5 b1
              go_wp2_with fail
              try (refine ⟨b5, ?_⟩)
              refine Ord.wpOrd_seg [] _ rfl rfl ?_
              simp only [List.getElem_toArray, List.getElem_cons_zero, List.getElem_cons_succ]
              refine wpQuiet_nil ?_
              go_wp2_with fail
              (with_reducible refine (app_r HLG5.out act.text).mono ?_); rintro _ w6 ⟨rfl, hlg6, hm6⟩
              have HT := Lib.hid hlg6
              have HMT := Lib.hid (below_mod HM5.out hm6 hlg6.baseR)
              have b6 := hm6.cell (a := ⟨ba, 1, none⟩) b5 (fun hx => HNB.out ba (by
                have h1 := HLG0.out.disks.ltI
                simp only [List.mem_cons, List.not_mem_nil, or_false] at hx
                rcases hx with e | e | e
                · rw [e]; exact h1 _ (by simp)
                · rw [e]; exact h1 _ (by simp)
                · rw [e]; exact h1 _ (by simp)) rfl)
              clear hlg6 hm6 b5
              go_wp2_with fail
              try (refine ⟨b6, ?_⟩)
              refine Ord.wpOrd_last [_, _] rfl ?_
              simp only [List.getElem_toArray, List.getElem_cons_zero, List.getElem_cons_succ]
              repeat first | go_big_quiet_skip | (go_big_quiet_want; go_big_quiet_op; first | go_big_quiet_on | (apply Exists.intro; refine ⟨fun _ => ?_, ?_⟩; (focus (intros; first | rfl | (simp only [*]; rfl) | (simp [*]; rfl))); go_big_quiet_on))
              refine wpQuiet_nil ?_
              obtain ⟨dt, hdt⟩ : ∃ dt, dt = appD d lg act.text := ⟨_, rfl⟩
              obtain ⟨lt, hlt2⟩ : ∃ lt, lt = appL d lg act.text := ⟨_, rfl⟩
              rw [← hdt, ← hlt2] at HT
              clear hdt hlt2 b6
              go_wp2_with fail
              as_aux_lemma =>
                -- HT : Logs wt .. dt dt lt lt in the world at hand; HMT : Below w.heap.size w wt
                obtain ⟨vt, hbt, hst⟩ := HT.out.lr
                have x2 := hbt.cells5.2.2.1
                have x4 := hbt.cells5.2.2.2.2.1
                have HT1 := Lib.hid (HT.out.same (Mod.refl [] _).drew)
                have HMT1 := Lib.hid (below_mod HMT.out (Mod.refl [] _).drew (by simp))
                clear hbt hst
                refine Ord.wp_region_ord (fun w' => w'.cell? ⟨rw_, 2, none⟩ = some (.int .i64 lt.gen) ∧ w'.cell? ⟨rw_, 4, none⟩ = some (.bool lt.broken)) [([0, 1, 2, 3, 5], 4), ([], 6), ([7, 8, 9, 11, 12, 13, 14], 10), ([15, 16, 17, 18, 20, 21, 22, 23], 19)] [24, 25, 26] (by kernel_rfl) (by kernel_rfl) ⟨x2, x4⟩ ?_
                refine Ord.wpOrd_seg [_, _, _, _, _] _ rfl rfl ?_
                simp only [List.getElem_toArray, List.getElem_cons_zero, List.getElem_cons_succ]
                repeat first | go_big_quiet_skip | (go_big_quiet_want; go_big_quiet_op; first | go_big_quiet_on | (apply Exists.intro; refine ⟨fun _ => ?_, ?_⟩; (focus (intros; first | rfl | (simp only [*]; rfl) | (simp [*]; rfl))); go_big_quiet_on))
                refine wpQuiet_nil ?_
                go_wp2_with fail
                (with_reducible refine (wroom_any bw bd bs bf dt _ lt _ HT1.out.li HT1.out.disks.di HT1.out.fi.recs).mono ?_); rintro _ wu ⟨rfl, hmu⟩
                have y2 := hmu.cell (a := ⟨rw_, 2, none⟩) x2 (by simp)
                have y4 := hmu.cell (a := ⟨rw_, 4, none⟩) x4 (by simp)
                have HT2 := Lib.hid (HT1.out.same hmu)
                have HMT2 := Lib.hid (below_mod HMT1.out hmu (by simp))
                clear hmu x2 x4
                go_wp2_with fail
                try (refine ⟨⟨y2, y4⟩, ?_⟩)
                refine Ord.wpOrd_seg [] _ rfl rfl ?_
                simp only [List.getElem_toArray, List.getElem_cons_zero, List.getElem_cons_succ]
                refine wpQuiet_nil ?_
                go_wp2_with fail
                (with_reducible refine (rwroom_any rw_ rd rf dt _ lt _ _ HT2.out.lr HT2.out.disks.dr HT2.out.fr.recs).mono ?_); rintro _ wv ⟨rfl, hmv⟩
                have z2 := hmv.cell (a := ⟨rw_, 2, none⟩) y2 (by simp)
                have z4 := hmv.cell (a := ⟨rw_, 4, none⟩) y4 (by simp)
                have HT3 := Lib.hid (HT2.out.same hmv)
                have HMT3 := Lib.hid (below_mod HMT2.out hmv (by simp))
                clear hmv y2 y4
                go_wp2_with fail
                try (refine ⟨⟨z2, z4⟩, ?_⟩)
                refine Ord.wpOrd_seg [_, _, _, _, _, _, _] _ rfl rfl ?_
                simp only [List.getElem_toArray, List.getElem_cons_zero, List.getElem_cons_succ]
                repeat first | go_big_quiet_skip | (go_big_quiet_want; go_big_quiet_op; first | go_big_quiet_on | (apply Exists.intro; refine ⟨fun _ => ?_, ?_⟩; (focus (intros; first | rfl | (simp only [*]; rfl) | (simp [*]; rfl))); go_big_quiet_on))
                refine wpQuiet_nil ?_
                go_wp2_with fail
                (with_reducible refine (gen_any bw bd lt _ HT3.out.li).mono ?_); rintro _ wz ⟨rfl, rfl⟩
                go_wp2_with fail
                try (refine ⟨⟨z2, z4⟩, ?_⟩)
                refine Ord.wpOrd_seg [_, _, _, _, _, _, _, _] _ rfl rfl ?_
                simp only [List.getElem_toArray, List.getElem_cons_zero, List.getElem_cons_succ]
                repeat first | go_big_quiet_skip | (go_big_quiet_want; go_big_quiet_op; first | go_big_quiet_on | (apply Exists.intro; refine ⟨fun _ => ?_, ?_⟩; (focus (intros; first | rfl | (simp only [*]; rfl) | (simp [*]; rfl))); go_big_quiet_on))
                refine wpQuiet_nil ?_
                go_wp2_with fail
                (with_reducible refine (broken_any bw bd lt _ HT3.out.li).mono ?_); rintro _ wz ⟨rfl, rfl⟩
                go_wp2_with fail
                try (refine ⟨⟨z2, z4⟩, ?_⟩)
                refine Ord.wpOrd_last [_, _, _] rfl ?_
                simp only [List.getElem_toArray, List.getElem_cons_zero, List.getElem_cons_succ]
                repeat first | go_big_quiet_skip | (go_big_quiet_want; go_big_quiet_op; first | go_big_quiet_on | (apply Exists.intro; refine ⟨fun _ => ?_, ?_⟩; (focus (intros; first | rfl | (simp only [*]; rfl) | (simp [*]; rfl))); go_big_quiet_on))
                refine wpQuiet_nil ?_
                clear z2 z4
                go_wp2
                go_roundw
                case rel => exact ⟨k + 1, by rw [HWK.out], HLT.out, .inl ⟨bw, rw_, _, _, rfl, rfl, HT3.out⟩, HMT3.out⟩
                case measure =>
                  show l.length - (intOf (.int .i64 (wrap64 ((k : Int) + 1)))).toNat < l.length - (intOf (.int .i64 (k : Int))).toNat
                  rw [HWK.out]
                  simp only [intOf, Int.toNat_natCast]
                  have := HLT.out
                  omega
            · have HDK0 := Lib.hid hdk
              clear hdk
              go_wp2_with fail
              -- the world with the act in a box: wa; the box: ba
              obtain ⟨wa, hwa⟩ : ∃ wa, wa = wr.alloc (.cells #[.int .i64 act.kind, .string act.text, .int .i64 act.n, .int .u64 act.keep] 38) := ⟨_, rfl⟩
              obtain ⟨ba, hba⟩ : ∃ ba, ba = wr.heap.size := ⟨_, rfl⟩
              rw [← hwa, ← hba]
              have HMAW := Lib.hid (show Mod [] wr wa by rw [hwa]; exact HMA.out)
              have HM3 := Lib.hid (show Below w.heap.size w wa by rw [hwa]; exact HM2.out)
              have hboxa : Blk wa ba [.int .i64 act.kind, .string act.text, .int .i64 act.n, .int .u64 act.keep] 38 := by rw [hwa, hba]; exact HBOX.out
              have HBA := Lib.hid hboxa
              have HNB := Lib.hid (show ∀ x, x < wr.heap.size → x ≠ ba from fun x hx => by omega)
              have b0 := hboxa.cell 0
              have b1 := hboxa.cell 1
              have b2 := hboxa.cell 2
              have b3 := hboxa.cell 3
              simp only [List.getElem?_cons_zero, List.getElem?_cons_succ] at b0 b1 b2 b3
              clear hwa hba hboxa q0 q1 q2 q3 g1
              have HTB := Lib.hid (HDK0.out.same HMAW.out)
              have HMB := HM3
              go_quiet (fail)
              go_wp2_with fail
              -- HTB : Disks wb .. [] dt dt in the world behind the last call; HMB : Below w.heap.size w wb
              go_quiet (fail)
              go_wp2
              go_roundw
              case rel => exact ⟨k + 1, by rw [HWK.out], HLT.out, .inr ⟨_, rfl, rfl, HTB.out.same ((Mod.refl [] _).drewN _)⟩, below_mod (S := []) HMB.out ((Mod.refl [] _).drewN _) (by simp)⟩
              case measure =>
                show l.length - (intOf (.int .i64 (wrap64 ((k : Int) + 1)))).toNat < l.length - (intOf (.int .i64 (k : Int))).toNat
                rw [HWK.out]
                simp only [intOf, Int.toNat_natCast]
                have := HLT.out
                omega
        · by_cases e2 : act.kind = 2
          · skip
            have g1 : (act.kind == 1) = false := by simp [e2]
            have g2 : (act.kind == 2) = true := by simp [e2]
            have g3 : (act.kind == 3) = false := by simp [e2]
            have g4 : (act.kind == 4) = false := by simp [e2]
            have g5 : (act.kind == 5) = false := by simp [e2]
            clear e1 e2
            as_aux_lemma =>
              rcases hst with ⟨bw, rw_, d, lg, rfl, rfl, hlg⟩ | ⟨d, rfl, rfl, hdk⟩
              · have HLG0 := Lib.hid hlg
                clear hlg
                go_wp2_with fail
                -- the world with the act in a box: wa; the box: ba
                obtain ⟨wa, hwa⟩ : ∃ wa, wa = wr.alloc (.cells #[.int .i64 act.kind, .string act.text, .int .i64 act.n, .int .u64 act.keep] 38) := ⟨_, rfl⟩
                obtain ⟨ba, hba⟩ : ∃ ba, ba = wr.heap.size := ⟨_, rfl⟩
                rw [← hwa, ← hba]
                have HMAW := Lib.hid (show Mod [] wr wa by rw [hwa]; exact HMA.out)
                have HM3 := Lib.hid (show Below w.heap.size w wa by rw [hwa]; exact HM2.out)
                have hboxa : Blk wa ba [.int .i64 act.kind, .string act.text, .int .i64 act.n, .int .u64 act.keep] 38 := by rw [hwa, hba]; exact HBOX.out
                have HBA := Lib.hid hboxa
                have HNB := Lib.hid (show ∀ x, x < wr.heap.size → x ≠ ba from fun x hx => by omega)
                have b0 := hboxa.cell 0
                have b1 := hboxa.cell 1
                have b2 := hboxa.cell 2
                have b3 := hboxa.cell 3
                simp only [List.getElem?_cons_zero, List.getElem?_cons_succ] at b0 b1 b2 b3
                clear hwa hba hboxa q0 q1 q2 q3 g1
                have HLG1 := Lib.hid ((HLG0.out.same HMAW.out).same (Mod.refl [] wa).drew)
                have HM4 := Lib.hid (below_mod HM3.out (Mod.refl [] wa).drew (by simp))
                refine Ord.wp_region_ord (fun w' => w'.cell? ⟨ba, 1, none⟩ = some (.string act.text)) [([0, 1, 2, 3, 4, 5, 7, 8, 9], 6), ([], 10)] [11, 12] (by kernel_rfl) (by kernel_rfl) b1 ?_
                refine Ord.wpOrd_seg [_, _, _, _, _, _, _, _, _] _ rfl rfl ?_
                simp only [List.getElem_toArray, List.getElem_cons_zero, List.getElem_cons_succ]
                repeat first | go_big_quiet_skip | (go_big_quiet_want; go_big_quiet_op; first | go_big_quiet_on | (apply Exists.intro; refine ⟨fun _ => ?_, ?_⟩; (focus (intros; first | rfl | (simp only [*]; rfl) | (simp [*]; rfl))); go_big_quiet_on))
                refine wpQuiet_nil ?_
                go_wp2_with fail
                (with_reducible refine (chk_i HLG1.out act.text).mono ?_); rintro _ w5 ⟨rfl, hlg5, hm5⟩
                have HLG5 := Lib.hid hlg5
                have HM5 := Lib.hid (below_mod HM4.out hm5 hlg5.baseL)
                have b5 := hm5.cell (a := ⟨ba, 1, none⟩) b1 (fun hx => HNB.out ba (by
                  have h1 := HLG0.out.disks.ltR
                  have h2 := HLG0.out.disks.lt
                  simp only [List.mem_cons, List.not_mem_nil, or_false] at hx
                  rcases hx with e | e | e | e
                  · rw [e]; exact h1 _ (by simp)
                  · rw [e]; exact h1 _ (by simp)
                  · rw [e]; exact h1 _ (by simp)
                  · rw [e]; exact h2 _ (by simp)) rfl)
                clear hlg5 hm5 b1
                go_wp2_with fail
                try (refine ⟨b5, ?_⟩)
                refine Ord.wpOrd_seg [] _ rfl rfl ?_
                simp only [List.getElem_toArray, List.getElem_cons_zero, List.getElem_cons_succ]
                refine wpQuiet_nil ?_
                go_wp2_with fail
                (with_reducible refine (chk_r HLG5.out act.text).mono ?_); rintro _ w6 ⟨rfl, hlg6, hm6⟩
                have HT := Lib.hid hlg6
                have HMT := Lib.hid (below_mod HM5.out hm6 hlg6.baseR)
                have b6 := hm6.cell (a := ⟨ba, 1, none⟩) b5 (fun hx => HNB.out ba (by
                  have h1 := HLG0.out.disks.ltI
                  simp only [List.mem_cons, List.not_mem_nil, or_false] at hx
                  rcases hx with e | e | e
                  · rw [e]; exact h1 _ (by simp)
                  · rw [e]; exact h1 _ (by simp)
                  · rw [e]; exact h1 _ (by simp)) rfl)
                clear hlg6 hm6 b5
                go_wp2_with fail
                try (refine ⟨b6, ?_⟩)
                refine Ord.wpOrd_last [_, _] rfl ?_
                simp only [List.getElem_toArray, List.getElem_cons_zero, List.getElem_cons_succ]
                repeat first | go_big_quiet_skip | (go_big_quiet_want; go_big_quiet_op; first | go_big_quiet_on | (apply Exists.intro; refine ⟨fun _ => ?_, ?_⟩; (focus (intros; first | rfl | (simp only [*]; rfl) | (simp [*]; rfl))); go_big_quiet_on))
                refine wpQuiet_nil ?_
                obtain ⟨dt, hdt⟩ : ∃ dt, dt = chkD d lg act.text := ⟨_, rfl⟩
                obtain ⟨lt, hlt2⟩ : ∃ lt, lt = chkL d lg act.text := ⟨_, rfl⟩
                rw [← hdt, ← hlt2] at HT
                clear hdt hlt2 b6
                go_wp2_with fail
                as_aux_lemma =>
                  -- HT : Logs wt .. dt dt lt lt in the world at hand; HMT : Below w.heap.size w wt
                  obtain ⟨vt, hbt, hst⟩ := HT.out.lr
                  have x2 := hbt.cells5.2.2.1
                  have x4 := hbt.cells5.2.2.2.2.1
                  have HT1 := Lib.hid (HT.out.same (Mod.refl [] _).drew)
                  have HMT1 := Lib.hid (below_mod HMT.out (Mod.refl [] _).drew (by simp))
                  clear hbt hst
                  refine Ord.wp_region_ord (fun w' => w'.cell? ⟨rw_, 2, none⟩ = some (.int .i64 lt.gen) ∧ w'.cell? ⟨rw_, 4, none⟩ = some (.bool lt.broken)) [([0, 1, 2, 3, 5], 4), ([], 6), ([7, 8, 9, 11, 12, 13, 14], 10), ([15, 16, 17, 18, 20, 21, 22, 23], 19)] [24, 25, 26] (by kernel_rfl) (by kernel_rfl) ⟨x2, x4⟩ ?_
                  refine Ord.wpOrd_seg [_, _, _, _, _] _ rfl rfl ?_
                  simp only [List.getElem_toArray, List.getElem_cons_zero, List.getElem_cons_succ]
                  repeat first | go_big_quiet_skip | (go_big_quiet_want; go_big_quiet_op; first | go_big_quiet_on | (apply Exists.intro; refine ⟨fun _ => ?_, ?_⟩; (focus (intros; first | rfl | (simp only [*]; rfl) | (simp [*]; rfl))); go_big_quiet_on))
                  refine wpQuiet_nil ?_
                  go_wp2_with fail
                  (with_reducible refine (wroom_any bw bd bs bf dt _ lt _ HT1.out.li HT1.out.disks.di HT1.out.fi.recs).mono ?_); rintro _ wu ⟨rfl, hmu⟩
                  have y2 := hmu.cell (a := ⟨rw_, 2, none⟩) x2 (by simp)
                  have y4 := hmu.cell (a := ⟨rw_, 4, none⟩) x4 (by simp)
                  have HT2 := Lib.hid (HT1.out.same hmu)
                  have HMT2 := Lib.hid (below_mod HMT1.out hmu (by simp))
                  clear hmu x2 x4
                  go_wp2_with fail
                  try (refine ⟨⟨y2, y4⟩, ?_⟩)
                  refine Ord.wpOrd_seg [] _ rfl rfl ?_
                  simp only [List.getElem_toArray, List.getElem_cons_zero, List.getElem_cons_succ]
                  refine wpQuiet_nil ?_
                  go_wp2_with fail
                  (with_reducible refine (rwroom_any rw_ rd rf dt _ lt _ _ HT2.out.lr HT2.out.disks.dr HT2.out.fr.recs).mono ?_); rintro _ wv ⟨rfl, hmv⟩
                  have z2 := hmv.cell (a := ⟨rw_, 2, none⟩) y2 (by simp)
                  have z4 := hmv.cell (a := ⟨rw_, 4, none⟩) y4 (by simp)
                  have HT3 := Lib.hid (HT2.out.same hmv)
                  have HMT3 := Lib.hid (below_mod HMT2.out hmv (by simp))
                  clear hmv y2 y4
                  go_wp2_with fail
                  try (refine ⟨⟨z2, z4⟩, ?_⟩)
                  refine Ord.wpOrd_seg [_, _, _, _, _, _, _] _ rfl rfl ?_
                  simp only [List.getElem_toArray, List.getElem_cons_zero, List.getElem_cons_succ]
                  repeat first | go_big_quiet_skip | (go_big_quiet_want; go_big_quiet_op; first | go_big_quiet_on | (apply Exists.intro; refine ⟨fun _ => ?_, ?_⟩; (focus (intros; first | rfl | (simp only [*]; rfl) | (simp [*]; rfl))); go_big_quiet_on))
                  refine wpQuiet_nil ?_
                  go_wp2_with fail
                  (with_reducible refine (gen_any bw bd lt _ HT3.out.li).mono ?_); rintro _ wz ⟨rfl, rfl⟩
                  go_wp2_with fail
                  try (refine ⟨⟨z2, z4⟩, ?_⟩)
                  refine Ord.wpOrd_seg [_, _, _, _, _, _, _, _] _ rfl rfl ?_
                  simp only [List.getElem_toArray, List.getElem_cons_zero, List.getElem_cons_succ]
                  repeat first | go_big_quiet_skip | (go_big_quiet_want; go_big_quiet_op; first | go_big_quiet_on | (apply Exists.intro; refine ⟨fun _ => ?_, ?_⟩; (focus (intros; first | rfl | (simp only [*]; rfl) | (simp [*]; rfl))); go_big_quiet_on))
                  refine wpQuiet_nil ?_
                  go_wp2_with fail
                  (with_reducible refine (broken_any bw bd lt _ HT3.out.li).mono ?_); rintro _ wz ⟨rfl, rfl⟩
                  go_wp2_with fail
                  try (refine ⟨⟨z2, z4⟩, ?_⟩)
                  refine Ord.wpOrd_last [_, _, _] rfl ?_
                  simp only [List.getElem_toArray, List.getElem_cons_zero, List.getElem_cons_succ]
                  repeat first | go_big_quiet_skip | (go_big_quiet_want; go_big_quiet_op; first | go_big_quiet_on | (apply Exists.intro; refine ⟨fun _ => ?_, ?_⟩; (focus (intros; first | rfl | (simp only [*]; rfl) | (simp [*]; rfl))); go_big_quiet_on))
                  refine wpQuiet_nil ?_
                  clear z2 z4
                  go_wp2
                  go_roundw
                  case rel => exact ⟨k + 1, by rw [HWK.out], HLT.out, .inl ⟨bw, rw_, _, _, rfl, rfl, HT3.out⟩, HMT3.out⟩
                  case measure =>
                    show l.length - (intOf (.int .i64 (wrap64 ((k : Int) + 1)))).toNat < l.length - (intOf (.int .i64 (k : Int))).toNat
                    rw [HWK.out]
                    simp only [intOf, Int.toNat_natCast]
                    have := HLT.out
                    omega
              · have HDK0 := Lib.hid hdk
                clear hdk
                go_wp2_with fail
                -- the world with the act in a box: wa; the box: ba
                obtain ⟨wa, hwa⟩ : ∃ wa, wa = wr.alloc (.cells #[.int .i64 act.kind, .string act.text, .int .i64 act.n, .int .u64 act.keep] 38) := ⟨_, rfl⟩
                obtain ⟨ba, hba⟩ : ∃ ba, ba = wr.heap.size := ⟨_, rfl⟩
                rw [← hwa, ← hba]
                have HMAW := Lib.hid (show Mod [] wr wa by rw [hwa]; exact HMA.out)
                have HM3 := Lib.hid (show Below w.heap.size w wa by rw [hwa]; exact HM2.out)
                have hboxa : Blk wa ba [.int .i64 act.kind, .string act.text, .int .i64 act.n, .int .u64 act.keep] 38 := by rw [hwa, hba]; exact HBOX.out
                have HBA := Lib.hid hboxa
                have HNB := Lib.hid (show ∀ x, x < wr.heap.size → x ≠ ba from fun x hx => by omega)
                have b0 := hboxa.cell 0
                have b1 := hboxa.cell 1
                have b2 := hboxa.cell 2
                have b3 := hboxa.cell 3
                simp only [List.getElem?_cons_zero, List.getElem?_cons_succ] at b0 b1 b2 b3
                clear hwa hba hboxa q0 q1 q2 q3 g1
                have HTB := Lib.hid (HDK0.out.same HMAW.out)
                have HMB := HM3
                go_quiet (fail)
                go_wp2_with fail
                -- HTB : Disks wb .. [] dt dt in the world behind the last call; HMB : Below w.heap.size w wb
                go_quiet (fail)
                go_wp2
                go_roundw
                case rel => exact ⟨k + 1, by rw [HWK.out], HLT.out, .inr ⟨_, rfl, rfl, HTB.out.same ((Mod.refl [] _).drewN _)⟩, below_mod (S := []) HMB.out ((Mod.refl [] _).drewN _) (by simp)⟩
                case measure =>
                  show l.length - (intOf (.int .i64 (wrap64 ((k : Int) + 1)))).toNat < l.length - (intOf (.int .i64 (k : Int))).toNat
                  rw [HWK.out]
                  simp only [intOf, Int.toNat_natCast]
                  have := HLT.out
                  omega
          · by_cases e3 : act.kind = 3
            · skip
              have g1 : (act.kind == 1) = false := by simp [e3]
              have g2 : (act.kind == 2) = false := by simp [e3]
              have g3 : (act.kind == 3) = true := by simp [e3]
              have g4 : (act.kind == 4) = false := by simp [e3]
              have g5 : (act.kind == 5) = false := by simp [e3]
              clear e1 e2 e3
              as_aux_lemma =>
                rcases hst with ⟨bw, rw_, d, lg, rfl, rfl, hlg⟩ | ⟨d, rfl, rfl, hdk⟩
                · have HLG0 := Lib.hid hlg
                  clear hlg
                  go_wp2_with fail
                  -- the world with the act in a box: wa; the box: ba
                  obtain ⟨wa, hwa⟩ : ∃ wa, wa = wr.alloc (.cells #[.int .i64 act.kind, .string act.text, .int .i64 act.n, .int .u64 act.keep] 38) := ⟨_, rfl⟩
                  obtain ⟨ba, hba⟩ : ∃ ba, ba = wr.heap.size := ⟨_, rfl⟩
                  rw [← hwa, ← hba]
                  have HMAW := Lib.hid (show Mod [] wr wa by rw [hwa]; exact HMA.out)
                  have HM3 := Lib.hid (show Below w.heap.size w wa by rw [hwa]; exact HM2.out)
                  have hboxa : Blk wa ba [.int .i64 act.kind, .string act.text, .int .i64 act.n, .int .u64 act.keep] 38 := by rw [hwa, hba]; exact HBOX.out
                  have HBA := Lib.hid hboxa
                  have HNB := Lib.hid (show ∀ x, x < wr.heap.size → x ≠ ba from fun x hx => by omega)
                  have b0 := hboxa.cell 0
                  have b1 := hboxa.cell 1
                  have b2 := hboxa.cell 2
                  have b3 := hboxa.cell 3
                  simp only [List.getElem?_cons_zero, List.getElem?_cons_succ] at b0 b1 b2 b3
                  clear hwa hba hboxa q0 q1 q2 q3 g1
                  have HLG1 := Lib.hid (HLG0.out.same HMAW.out)
                  have HNI := Lib.hid (show act.n ≤ 9223372036854775807 from HFIT.out.2.2.1)
                  (with_reducible refine (larm_i HLG1.out act.n HNI.out).mono ?_); rintro _ w5 ⟨rfl, hlg5, hm5⟩
                  have HLG5 := Lib.hid hlg5
                  have HM5 := Lib.hid (below_mod HM3.out hm5 (fun q hq => hlg5.baseL q (by simp at hq; simp [hq])))
                  have c2 := hm5.cell (a := ⟨ba, 2, none⟩) b2 (fun hx => HNB.out ba (by
                    have h1 := HLG0.out.disks.ltR
                    simp only [List.mem_cons, List.not_mem_nil, or_false] at hx
                    rw [hx]; exact h1 _ (by simp)) rfl)
                  clear hlg5 hm5 b0 b1 b2 b3
                  go_wp2_with fail
                  (with_reducible refine (larm_r HLG5.out act.n HNI.out).mono ?_); rintro _ w6 ⟨rfl, hlg6, hm6⟩
                  have HT := Lib.hid hlg6
                  have HMT := Lib.hid (below_mod HM5.out hm6 (fun q hq => hlg6.baseR q (by simp at hq; simp [hq])))
                  clear hlg6 hm6 c2
                  obtain ⟨dt, hdt⟩ : ∃ dt, dt = { d with fuse := d.fuse.arm act.n } := ⟨_, rfl⟩
                  obtain ⟨lt, hlt2⟩ : ∃ lt, lt = lg := ⟨_, rfl⟩
                  rw [← hdt, ← hlt2] at HT
                  clear hdt hlt2
                  go_wp2_with fail
                  as_aux_lemma =>
                    -- HT : Logs wt .. dt dt lt lt in the world at hand; HMT : Below w.heap.size w wt
                    obtain ⟨vt, hbt, hst⟩ := HT.out.lr
                    have x2 := hbt.cells5.2.2.1
                    have x4 := hbt.cells5.2.2.2.2.1
                    have HT1 := Lib.hid (HT.out.same (Mod.refl [] _).drew)
                    have HMT1 := Lib.hid (below_mod HMT.out (Mod.refl [] _).drew (by simp))
                    clear hbt hst
                    refine Ord.wp_region_ord (fun w' => w'.cell? ⟨rw_, 2, none⟩ = some (.int .i64 lt.gen) ∧ w'.cell? ⟨rw_, 4, none⟩ = some (.bool lt.broken)) [([0, 1, 2, 3, 5], 4), ([], 6), ([7, 8, 9, 11, 12, 13, 14], 10), ([15, 16, 17, 18, 20, 21, 22, 23], 19)] [24, 25, 26] (by kernel_rfl) (by kernel_rfl) ⟨x2, x4⟩ ?_
                    refine Ord.wpOrd_seg [_, _, _, _, _] _ rfl rfl ?_
                    simp only [List.getElem_toArray, List.getElem_cons_zero, List.getElem_cons_succ]
                    repeat first | go_big_quiet_skip | (go_big_quiet_want; go_big_quiet_op; first | go_big_quiet_on | (apply Exists.intro; refine ⟨fun _ => ?_, ?_⟩; (focus (intros; first | rfl | (simp only [*]; rfl) | (simp [*]; rfl))); go_big_quiet_on))
                    refine wpQuiet_nil ?_
                    go_wp2_with fail
                    (with_reducible refine (wroom_any bw bd bs bf dt _ lt _ HT1.out.li HT1.out.disks.di HT1.out.fi.recs).mono ?_); rintro _ wu ⟨rfl, hmu⟩
                    have y2 := hmu.cell (a := ⟨rw_, 2, none⟩) x2 (by simp)
                    have y4 := hmu.cell (a := ⟨rw_, 4, none⟩) x4 (by simp)
                    have HT2 := Lib.hid (HT1.out.same hmu)
                    have HMT2 := Lib.hid (below_mod HMT1.out hmu (by simp))
                    clear hmu x2 x4
                    go_wp2_with fail
                    try (refine ⟨⟨y2, y4⟩, ?_⟩)
                    refine Ord.wpOrd_seg [] _ rfl rfl ?_
                    simp only [List.getElem_toArray, List.getElem_cons_zero, List.getElem_cons_succ]
                    refine wpQuiet_nil ?_
                    go_wp2_with fail
                    (with_reducible refine (rwroom_any rw_ rd rf dt _ lt _ _ HT2.out.lr HT2.out.disks.dr HT2.out.fr.recs).mono ?_); rintro _ wv ⟨rfl, hmv⟩
                    have z2 := hmv.cell (a := ⟨rw_, 2, none⟩) y2 (by simp)
                    have z4 := hmv.cell (a := ⟨rw_, 4, none⟩) y4 (by simp)
                    have HT3 := Lib.hid (HT2.out.same hmv)
                    have HMT3 := Lib.hid (below_mod HMT2.out hmv (by simp))
                    clear hmv y2 y4
                    go_wp2_with fail
                    try (refine ⟨⟨z2, z4⟩, ?_⟩)
                    refine Ord.wpOrd_seg [_, _, _, _, _, _, _] _ rfl rfl ?_
                    simp only [List.getElem_toArray, List.getElem_cons_zero, List.getElem_cons_succ]
                    repeat first | go_big_quiet_skip | (go_big_quiet_want; go_big_quiet_op; first | go_big_quiet_on | (apply Exists.intro; refine ⟨fun _ => ?_, ?_⟩; (focus (intros; first | rfl | (simp only [*]; rfl) | (simp [*]; rfl))); go_big_quiet_on))
                    refine wpQuiet_nil ?_
                    go_wp2_with fail
                    (with_reducible refine (gen_any bw bd lt _ HT3.out.li).mono ?_); rintro _ wz ⟨rfl, rfl⟩
                    go_wp2_with fail
                    try (refine ⟨⟨z2, z4⟩, ?_⟩)
                    refine Ord.wpOrd_seg [_, _, _, _, _, _, _, _] _ rfl rfl ?_
                    simp only [List.getElem_toArray, List.getElem_cons_zero, List.getElem_cons_succ]
                    repeat first | go_big_quiet_skip | (go_big_quiet_want; go_big_quiet_op; first | go_big_quiet_on | (apply Exists.intro; refine ⟨fun _ => ?_, ?_⟩; (focus (intros; first | rfl | (simp only [*]; rfl) | (simp [*]; rfl))); go_big_quiet_on))
                    refine wpQuiet_nil ?_
                    go_wp2_with fail
                    (with_reducible refine (broken_any bw bd lt _ HT3.out.li).mono ?_); rintro _ wz ⟨rfl, rfl⟩
                    go_wp2_with fail
                    try (refine ⟨⟨z2, z4⟩, ?_⟩)
                    refine Ord.wpOrd_last [_, _, _] rfl ?_
                    simp only [List.getElem_toArray, List.getElem_cons_zero, List.getElem_cons_succ]
                    repeat first | go_big_quiet_skip | (go_big_quiet_want; go_big_quiet_op; first | go_big_quiet_on | (apply Exists.intro; refine ⟨fun _ => ?_, ?_⟩; (focus (intros; first | rfl | (simp only [*]; rfl) | (simp [*]; rfl))); go_big_quiet_on))
                    refine wpQuiet_nil ?_
                    clear z2 z4
                    go_wp2
                    go_roundw
                    case rel => exact ⟨k + 1, by rw [HWK.out], HLT.out, .inl ⟨bw, rw_, _, _, rfl, rfl, HT3.out⟩, HMT3.out⟩
                    case measure =>
                      show l.length - (intOf (.int .i64 (wrap64 ((k : Int) + 1)))).toNat < l.length - (intOf (.int .i64 (k : Int))).toNat
                      rw [HWK.out]
                      simp only [intOf, Int.toNat_natCast]
                      have := HLT.out
                      omega
                · have HDK0 := Lib.hid hdk
                  clear hdk
                  go_wp2_with fail
                  -- the world with the act in a box: wa; the box: ba
                  obtain ⟨wa, hwa⟩ : ∃ wa, wa = wr.alloc (.cells #[.int .i64 act.kind, .string act.text, .int .i64 act.n, .int .u64 act.keep] 38) := ⟨_, rfl⟩
                  obtain ⟨ba, hba⟩ : ∃ ba, ba = wr.heap.size := ⟨_, rfl⟩
                  rw [← hwa, ← hba]
                  have HMAW := Lib.hid (show Mod [] wr wa by rw [hwa]; exact HMA.out)
                  have HM3 := Lib.hid (show Below w.heap.size w wa by rw [hwa]; exact HM2.out)
                  have hboxa : Blk wa ba [.int .i64 act.kind, .string act.text, .int .i64 act.n, .int .u64 act.keep] 38 := by rw [hwa, hba]; exact HBOX.out
                  have HBA := Lib.hid hboxa
                  have HNB := Lib.hid (show ∀ x, x < wr.heap.size → x ≠ ba from fun x hx => by omega)
                  have b0 := hboxa.cell 0
                  have b1 := hboxa.cell 1
                  have b2 := hboxa.cell 2
                  have b3 := hboxa.cell 3
                  simp only [List.getElem?_cons_zero, List.getElem?_cons_succ] at b0 b1 b2 b3
                  clear hwa hba hboxa q0 q1 q2 q3 g1
                  have HDK1 := Lib.hid (HDK0.out.same HMAW.out)
                  have HNI := Lib.hid (show act.n ≤ 9223372036854775807 from HFIT.out.2.2.1)
                  (with_reducible refine (arm_i HDK1.out act.n HNI.out).mono ?_); rintro _ w5 ⟨rfl, hdk5, hm5⟩
                  have HDK5 := Lib.hid hdk5
                  have HM5 := Lib.hid (below_mod HM3.out hm5 (fun q hq => hdk5.base q (by simp at hq; simp [hq])))
                  have c2 := hm5.cell (a := ⟨ba, 2, none⟩) b2 (fun hx => HNB.out ba (by
                    have h1 := HDK0.out.ltR
                    simp only [List.mem_cons, List.not_mem_nil, or_false] at hx
                    rw [hx]; exact h1 _ (by simp)) rfl)
                  clear hdk5 hm5 b0 b1 b2 b3
                  go_wp2_with fail
                  (with_reducible refine (arm_r HDK5.out act.n HNI.out).mono ?_); rintro _ w6 ⟨rfl, hdk6, hm6⟩
                  have HTB := Lib.hid hdk6
                  have HMB := Lib.hid (below_mod HM5.out hm6 (fun q hq => hdk6.base q (by simp at hq; simp [hq])))
                  clear hdk6 hm6 c2
                  go_wp2_with fail
                  -- HTB : Disks wb .. [] dt dt in the world behind the last call; HMB : Below w.heap.size w wb
                  go_quiet (fail)
                  go_wp2
                  go_roundw
                  case rel => exact ⟨k + 1, by rw [HWK.out], HLT.out, .inr ⟨_, rfl, rfl, HTB.out.same ((Mod.refl [] _).drewN _)⟩, below_mod (S := []) HMB.out ((Mod.refl [] _).drewN _) (by simp)⟩
                  case measure =>
                    show l.length - (intOf (.int .i64 (wrap64 ((k : Int) + 1)))).toNat < l.length - (intOf (.int .i64 (k : Int))).toNat
                    rw [HWK.out]
                    simp only [intOf, Int.toNat_natCast]
                    have := HLT.out
                    omega
            · by_cases e4 : act.kind = 4
              · skip
                have g1 : (act.kind == 1) = false := by simp [e4]
                have g2 : (act.kind == 2) = false := by simp [e4]
                have g3 : (act.kind == 3) = false := by simp [e4]
                have g4 : (act.kind == 4) = true := by simp [e4]
                have g5 : (act.kind == 5) = false := by simp [e4]
                clear e1 e2 e3 e4
                as_aux_lemma =>
                  obtain ⟨A, do_, hdk⟩ : ∃ A do_, Disks wr w.heap.size bd bs bf rd rf A do_ do_ := by
                    rcases hst with ⟨bw, rw_, d, lg, _, _, hlg⟩ | ⟨d, _, _, hdk⟩
                    · exact ⟨_, _, hlg.disks⟩
                    · exact ⟨_, _, hdk⟩
                  have HDK0 := Lib.hid hdk
                  clear hdk hst
                  go_wp2_with fail
                  -- the world with the act in a box: wa; the box: ba
                  obtain ⟨wa, hwa⟩ : ∃ wa, wa = wr.alloc (.cells #[.int .i64 act.kind, .string act.text, .int .i64 act.n, .int .u64 act.keep] 38) := ⟨_, rfl⟩
                  obtain ⟨ba, hba⟩ : ∃ ba, ba = wr.heap.size := ⟨_, rfl⟩
                  rw [← hwa, ← hba]
                  have HMAW := Lib.hid (show Mod [] wr wa by rw [hwa]; exact HMA.out)
                  have HM3 := Lib.hid (show Below w.heap.size w wa by rw [hwa]; exact HM2.out)
                  have hboxa : Blk wa ba [.int .i64 act.kind, .string act.text, .int .i64 act.n, .int .u64 act.keep] 38 := by rw [hwa, hba]; exact HBOX.out
                  have HBA := Lib.hid hboxa
                  have HNB := Lib.hid (show ∀ x, x < wr.heap.size → x ≠ ba from fun x hx => by omega)
                  have b0 := hboxa.cell 0
                  have b1 := hboxa.cell 1
                  have b2 := hboxa.cell 2
                  have b3 := hboxa.cell 3
                  simp only [List.getElem?_cons_zero, List.getElem?_cons_succ] at b0 b1 b2 b3
                  clear hwa hba hboxa q0 q1 q2 q3 g1
                  have HDK1 := Lib.hid (HDK0.out.same HMAW.out)
                  have HKI := Lib.hid (show act.keep ≤ 18446744073709551615 from HFIT.out.2.2.2)
                  (with_reducible refine (crash_i HDK1.out act.keep act.n HKI.out).mono ?_); rintro _ w5 ⟨rfl, hdk5, hm5⟩
                  have HDK5 := Lib.hid hdk5
                  have HM5 := Lib.hid (below_mod HM3.out hm5 (fun q hq => hdk5.base q (by simp only [List.mem_cons, List.not_mem_nil, or_false] at hq; rcases hq with e | e | e <;> simp [e])))
                  have hbn : ba ∉ [bd, bs, bf] := fun hx => HNB.out ba (by
                    have h1 := HDK0.out.ltR
                    simp only [List.mem_cons, List.not_mem_nil, or_false] at hx
                    rcases hx with e | e | e
                    · rw [e]; exact h1 _ (by simp)
                    · rw [e]; exact h1 _ (by simp)
                    · rw [e]; exact h1 _ (by simp)) rfl
                  have c2 := hm5.cell (a := ⟨ba, 2, none⟩) b2 hbn
                  have c3 := hm5.cell (a := ⟨ba, 3, none⟩) b3 hbn
                  clear hdk5 hm5 b0 b1 b2 b3 hbn
                  go_wp2_with fail
                  (with_reducible refine (crash_r HDK5.out act.keep act.n).mono ?_); rintro _ wo ⟨rfl, hdk6, hm6⟩
                  have HDO0 := Lib.hid hdk6
                  have HMO := Lib.hid (below_mod HM5.out hm6 (fun q hq => hdk6.base q (by simp only [List.mem_cons, List.not_mem_nil, or_false] at hq; rcases hq with e | e <;> simp [e])))
                  clear hdk6 hm6 c2 c3
                  obtain ⟨dn, hdn⟩ : ∃ dn, dn = do_.crash act.keep act.n.toNat := ⟨_, rfl⟩
                  have hdo := HDO0.out
                  rw [← hdn] at hdo
                  clear hdn HDO0 HDK5 HDK1 HDK0
                  obtain ⟨do_, hdx⟩ : ∃ do_, do_ = dn := ⟨_, rfl⟩
                  rw [← hdx] at hdo
                  clear hdx
                  have HDO := Lib.hid hdo
                  clear hdo
                  -- wo : HDO : Disks wo .. A do do; HMO : Below w.heap.size w wo
                  have HBS := Lib.hid (show w.heap.size ≤ wo.heap.size from HMO.out.size)
                  go_wp2_with fail
                  (with_reducible refine (open_i HDO.out HBS.out).mono ?_); rintro _ w7 ⟨hm7, hcase⟩
                  have HM7 := Lib.hid (below_mod HMO.out hm7 (fun q hq => HDO.out.base q (by simp only [List.mem_cons, List.not_mem_nil, or_false] at hq; rcases hq with e | e | e <;> simp [e])))
                  have HBS7 := Lib.hid (show w.heap.size ≤ w7.heap.size from HM7.out.size)
                  clear hm7
                  rcases hcase with ⟨hyes, bw, v, rfl, hbw, hl7, hd7, hs7⟩ | ⟨hno, rfl, hd7⟩
                  · have HYES := Lib.hid hyes
                    obtain ⟨va, vc, hv⟩ := hs7.slc
                    obtain rfl := hv
                    have HS7 := Lib.hid hs7
                    have HL7 := Lib.hid hl7
                    have HD7 := Lib.hid hd7
                    have HF7 := Lib.hid (open_fits HDO.out.di.fits hyes)
                    clear hyes hbw hl7 hd7 hs7
                    go_wp2_with fail
                    (with_reducible refine (open_r_yes HD7.out HL7.out HF7.out HYES.out HBS7.out).mono ?_); rintro _ w8 ⟨rw_, rfl, hlg, hm8⟩
                    have HLG := Lib.hid hlg
                    have HM8 := Lib.hid (below_mod HM7.out hm8 (fun q hq => hlg.baseR q (by simp only [List.mem_cons, List.not_mem_nil, or_false] at hq; rcases hq with e | e <;> simp [e])))
                    have HS8 := Lib.hid (HS7.out.mod hm8 (by simp only [List.mem_cons, List.not_mem_nil, or_false]; rintro q (e | e) <;> simp [e]))
                    obtain ⟨vr, hbr, hsr⟩ := hlg.lr
                    obtain ⟨ra, rc, hv⟩ := hsr.slc
                    obtain rfl := hv
                    have k3 := hbr.cells5.2.2.2.1
                    have HSR := Lib.hid hsr
                    have HLEN := Lib.hid (show (openL do_).recs.length ≤ 100000 by have := hlg.fi.recs; have := half_two hlg.disks.di.fits; omega)
                    clear hlg hm8 hbr hsr
                    go_wp2_with fail
                    (with_reducible refine (same_any _ _ (openL do_).recs _ _ _ HS8.out HSR.out HLEN.out).mono ?_); rintro _ w9 ⟨rfl, hm9⟩
                    have HT := Lib.hid (HLG.out.same hm9)
                    have HMT := Lib.hid (below_mod HM8.out hm9 (by simp))
                    clear hm9 k3
                    obtain ⟨dt, hdt⟩ : ∃ dt, dt = openD do_ := ⟨_, rfl⟩
                    obtain ⟨lt, hlt2⟩ : ∃ lt, lt = openL do_ := ⟨_, rfl⟩
                    rw [← hdt, ← hlt2] at HT
                    clear hdt
                    go_wp2_with fail
                    clear hlt2
                    as_aux_lemma =>
                      -- HT : Logs wt .. dt dt lt lt in the world at hand; HMT : Below w.heap.size w wt
                      obtain ⟨vt, hbt, hst⟩ := HT.out.lr
                      have x2 := hbt.cells5.2.2.1
                      have x4 := hbt.cells5.2.2.2.2.1
                      have HT1 := Lib.hid (HT.out.same (Mod.refl [] _).drew)
                      have HMT1 := Lib.hid (below_mod HMT.out (Mod.refl [] _).drew (by simp))
                      clear hbt hst
                      refine Ord.wp_region_ord (fun w' => w'.cell? ⟨rw_, 2, none⟩ = some (.int .i64 lt.gen) ∧ w'.cell? ⟨rw_, 4, none⟩ = some (.bool lt.broken)) [([0, 1, 2, 3, 5], 4), ([], 6), ([7, 8, 9, 11, 12, 13, 14], 10), ([15, 16, 17, 18, 20, 21, 22, 23], 19)] [24, 25, 26] (by kernel_rfl) (by kernel_rfl) ⟨x2, x4⟩ ?_
                      refine Ord.wpOrd_seg [_, _, _, _, _] _ rfl rfl ?_
                      simp only [List.getElem_toArray, List.getElem_cons_zero, List.getElem_cons_succ]
                      repeat first | go_big_quiet_skip | (go_big_quiet_want; go_big_quiet_op; first | go_big_quiet_on | (apply Exists.intro; refine ⟨fun _ => ?_, ?_⟩; (focus (intros; first | rfl | (simp only [*]; rfl) | (simp [*]; rfl))); go_big_quiet_on))
                      refine wpQuiet_nil ?_
                      go_wp2_with fail
                      (with_reducible refine (wroom_any bw bd bs bf dt _ lt _ HT1.out.li HT1.out.disks.di HT1.out.fi.recs).mono ?_); rintro _ wu ⟨rfl, hmu⟩
                      have y2 := hmu.cell (a := ⟨rw_, 2, none⟩) x2 (by simp)
                      have y4 := hmu.cell (a := ⟨rw_, 4, none⟩) x4 (by simp)
                      have HT2 := Lib.hid (HT1.out.same hmu)
                      have HMT2 := Lib.hid (below_mod HMT1.out hmu (by simp))
                      clear hmu x2 x4
                      go_wp2_with fail
                      try (refine ⟨⟨y2, y4⟩, ?_⟩)
                      refine Ord.wpOrd_seg [] _ rfl rfl ?_
                      simp only [List.getElem_toArray, List.getElem_cons_zero, List.getElem_cons_succ]
                      refine wpQuiet_nil ?_
                      go_wp2_with fail
                      (with_reducible refine (rwroom_any rw_ rd rf dt _ lt _ _ HT2.out.lr HT2.out.disks.dr HT2.out.fr.recs).mono ?_); rintro _ wv ⟨rfl, hmv⟩
                      have z2 := hmv.cell (a := ⟨rw_, 2, none⟩) y2 (by simp)
                      have z4 := hmv.cell (a := ⟨rw_, 4, none⟩) y4 (by simp)
                      have HT3 := Lib.hid (HT2.out.same hmv)
                      have HMT3 := Lib.hid (below_mod HMT2.out hmv (by simp))
                      clear hmv y2 y4
                      go_wp2_with fail
                      try (refine ⟨⟨z2, z4⟩, ?_⟩)
                      refine Ord.wpOrd_seg [_, _, _, _, _, _, _] _ rfl rfl ?_
                      simp only [List.getElem_toArray, List.getElem_cons_zero, List.getElem_cons_succ]
                      repeat first | go_big_quiet_skip | (go_big_quiet_want; go_big_quiet_op; first | go_big_quiet_on | (apply Exists.intro; refine ⟨fun _ => ?_, ?_⟩; (focus (intros; first | rfl | (simp only [*]; rfl) | (simp [*]; rfl))); go_big_quiet_on))
                      refine wpQuiet_nil ?_
                      go_wp2_with fail
                      (with_reducible refine (gen_any bw bd lt _ HT3.out.li).mono ?_); rintro _ wz ⟨rfl, rfl⟩
                      go_wp2_with fail
                      try (refine ⟨⟨z2, z4⟩, ?_⟩)
                      refine Ord.wpOrd_seg [_, _, _, _, _, _, _, _] _ rfl rfl ?_
                      simp only [List.getElem_toArray, List.getElem_cons_zero, List.getElem_cons_succ]
                      repeat first | go_big_quiet_skip | (go_big_quiet_want; go_big_quiet_op; first | go_big_quiet_on | (apply Exists.intro; refine ⟨fun _ => ?_, ?_⟩; (focus (intros; first | rfl | (simp only [*]; rfl) | (simp [*]; rfl))); go_big_quiet_on))
                      refine wpQuiet_nil ?_
                      go_wp2_with fail
                      (with_reducible refine (broken_any bw bd lt _ HT3.out.li).mono ?_); rintro _ wz ⟨rfl, rfl⟩
                      go_wp2_with fail
                      try (refine ⟨⟨z2, z4⟩, ?_⟩)
                      refine Ord.wpOrd_last [_, _, _] rfl ?_
                      simp only [List.getElem_toArray, List.getElem_cons_zero, List.getElem_cons_succ]
                      repeat first | go_big_quiet_skip | (go_big_quiet_want; go_big_quiet_op; first | go_big_quiet_on | (apply Exists.intro; refine ⟨fun _ => ?_, ?_⟩; (focus (intros; first | rfl | (simp only [*]; rfl) | (simp [*]; rfl))); go_big_quiet_on))
                      refine wpQuiet_nil ?_
                      clear z2 z4
                      go_wp2
                      go_roundw
                      case rel => exact ⟨k + 1, by rw [HWK.out], HLT.out, .inl ⟨bw, rw_, _, _, rfl, rfl, HT3.out⟩, HMT3.out⟩
                      case measure =>
                        show l.length - (intOf (.int .i64 (wrap64 ((k : Int) + 1)))).toNat < l.length - (intOf (.int .i64 (k : Int))).toNat
                        rw [HWK.out]
                        simp only [intOf, Int.toNat_natCast]
                        have := HLT.out
                        omega
                  · have HNO := Lib.hid hno
                    have HD7 := Lib.hid hd7
                    clear hno hd7
                    go_wp2_with fail
                    (with_reducible refine (open_r_no HD7.out HNO.out).mono ?_); rintro _ w8 ⟨rfl, hd8, hm8⟩
                    have HTB := Lib.hid hd8
                    have HMB := Lib.hid (below_mod HM7.out hm8 (fun q hq => hd8.base q (by simp only [List.mem_cons, List.not_mem_nil, or_false] at hq; rcases hq with e | e <;> simp [e])))
                    clear hd8 hm8
                    go_wp2_with fail
                    -- HTB : Disks wb .. [] dt dt in the world behind the last call; HMB : Below w.heap.size w wb
                    go_quiet (fail)
                    go_wp2
                    go_roundw
                    case rel => exact ⟨k + 1, by rw [HWK.out], HLT.out, .inr ⟨_, rfl, rfl, HTB.out.same ((Mod.refl [] _).drewN _)⟩, below_mod (S := []) HMB.out ((Mod.refl [] _).drewN _) (by simp)⟩
                    case measure =>
                      show l.length - (intOf (.int .i64 (wrap64 ((k : Int) + 1)))).toNat < l.length - (intOf (.int .i64 (k : Int))).toNat
                      rw [HWK.out]
                      simp only [intOf, Int.toNat_natCast]
                      have := HLT.out
                      omega
              · by_cases e5 : act.kind = 5
                · skip
                  have g1 : (act.kind == 1) = false := by simp [e5]
                  have g2 : (act.kind == 2) = false := by simp [e5]
                  have g3 : (act.kind == 3) = false := by simp [e5]
                  have g4 : (act.kind == 4) = false := by simp [e5]
                  have g5 : (act.kind == 5) = true := by simp [e5]
                  clear e1 e2 e3 e4 e5
                  as_aux_lemma =>
                    obtain ⟨A, do_, hdk⟩ : ∃ A do_, Disks wr w.heap.size bd bs bf rd rf A do_ do_ := by
                      rcases hst with ⟨bw, rw_, d, lg, _, _, hlg⟩ | ⟨d, _, _, hdk⟩
                      · exact ⟨_, _, hlg.disks⟩
                      · exact ⟨_, _, hdk⟩
                    have HDK0 := Lib.hid hdk
                    clear hdk hst
                    go_wp2_with fail
                    -- the world with the act in a box: wa; the box: ba
                    obtain ⟨wa, hwa⟩ : ∃ wa, wa = wr.alloc (.cells #[.int .i64 act.kind, .string act.text, .int .i64 act.n, .int .u64 act.keep] 38) := ⟨_, rfl⟩
                    obtain ⟨ba, hba⟩ : ∃ ba, ba = wr.heap.size := ⟨_, rfl⟩
                    rw [← hwa, ← hba]
                    have HMAW := Lib.hid (show Mod [] wr wa by rw [hwa]; exact HMA.out)
                    have HM3 := Lib.hid (show Below w.heap.size w wa by rw [hwa]; exact HM2.out)
                    have hboxa : Blk wa ba [.int .i64 act.kind, .string act.text, .int .i64 act.n, .int .u64 act.keep] 38 := by rw [hwa, hba]; exact HBOX.out
                    have HBA := Lib.hid hboxa
                    have HNB := Lib.hid (show ∀ x, x < wr.heap.size → x ≠ ba from fun x hx => by omega)
                    have b0 := hboxa.cell 0
                    have b1 := hboxa.cell 1
                    have b2 := hboxa.cell 2
                    have b3 := hboxa.cell 3
                    simp only [List.getElem?_cons_zero, List.getElem?_cons_succ] at b0 b1 b2 b3
                    clear hwa hba hboxa q0 q1 q2 q3 g1
                    have HDK1 := Lib.hid (HDK0.out.same HMAW.out)
                    have HDO := HDK1
                    have HMO := HM3
                    obtain ⟨wo, hwo⟩ : ∃ wo, wo = wa := ⟨_, rfl⟩
                    rw [← hwo] at HDO HMO ⊢
                    clear hwo b0 b1 b2 b3
                    -- wo : HDO : Disks wo .. A do do; HMO : Below w.heap.size w wo
                    have HBS := Lib.hid (show w.heap.size ≤ wo.heap.size from HMO.out.size)
                    go_wp2_with fail
                    (with_reducible refine (open_i HDO.out HBS.out).mono ?_); rintro _ w7 ⟨hm7, hcase⟩
                    have HM7 := Lib.hid (below_mod HMO.out hm7 (fun q hq => HDO.out.base q (by simp only [List.mem_cons, List.not_mem_nil, or_false] at hq; rcases hq with e | e | e <;> simp [e])))
                    have HBS7 := Lib.hid (show w.heap.size ≤ w7.heap.size from HM7.out.size)
                    clear hm7
                    rcases hcase with ⟨hyes, bw, v, rfl, hbw, hl7, hd7, hs7⟩ | ⟨hno, rfl, hd7⟩
                    · have HYES := Lib.hid hyes
                      obtain ⟨va, vc, hv⟩ := hs7.slc
                      obtain rfl := hv
                      have HS7 := Lib.hid hs7
                      have HL7 := Lib.hid hl7
                      have HD7 := Lib.hid hd7
                      have HF7 := Lib.hid (open_fits HDO.out.di.fits hyes)
                      clear hyes hbw hl7 hd7 hs7
                      go_wp2_with fail
                      (with_reducible refine (open_r_yes HD7.out HL7.out HF7.out HYES.out HBS7.out).mono ?_); rintro _ w8 ⟨rw_, rfl, hlg, hm8⟩
                      have HLG := Lib.hid hlg
                      have HM8 := Lib.hid (below_mod HM7.out hm8 (fun q hq => hlg.baseR q (by simp only [List.mem_cons, List.not_mem_nil, or_false] at hq; rcases hq with e | e <;> simp [e])))
                      have HS8 := Lib.hid (HS7.out.mod hm8 (by simp only [List.mem_cons, List.not_mem_nil, or_false]; rintro q (e | e) <;> simp [e]))
                      obtain ⟨vr, hbr, hsr⟩ := hlg.lr
                      obtain ⟨ra, rc, hv⟩ := hsr.slc
                      obtain rfl := hv
                      have k3 := hbr.cells5.2.2.2.1
                      have HSR := Lib.hid hsr
                      have HLEN := Lib.hid (show (openL do_).recs.length ≤ 100000 by have := hlg.fi.recs; have := half_two hlg.disks.di.fits; omega)
                      clear hlg hm8 hbr hsr
                      go_wp2_with fail
                      (with_reducible refine (same_any _ _ (openL do_).recs _ _ _ HS8.out HSR.out HLEN.out).mono ?_); rintro _ w9 ⟨rfl, hm9⟩
                      have HT := Lib.hid (HLG.out.same hm9)
                      have HMT := Lib.hid (below_mod HM8.out hm9 (by simp))
                      clear hm9 k3
                      obtain ⟨dt, hdt⟩ : ∃ dt, dt = openD do_ := ⟨_, rfl⟩
                      obtain ⟨lt, hlt2⟩ : ∃ lt, lt = openL do_ := ⟨_, rfl⟩
                      rw [← hdt, ← hlt2] at HT
                      clear hdt
                      go_wp2_with fail
                      clear hlt2
                      as_aux_lemma =>
                        -- HT : Logs wt .. dt dt lt lt in the world at hand; HMT : Below w.heap.size w wt
                        obtain ⟨vt, hbt, hst⟩ := HT.out.lr
                        have x2 := hbt.cells5.2.2.1
                        have x4 := hbt.cells5.2.2.2.2.1
                        have HT1 := Lib.hid (HT.out.same (Mod.refl [] _).drew)
                        have HMT1 := Lib.hid (below_mod HMT.out (Mod.refl [] _).drew (by simp))
                        clear hbt hst
                        refine Ord.wp_region_ord (fun w' => w'.cell? ⟨rw_, 2, none⟩ = some (.int .i64 lt.gen) ∧ w'.cell? ⟨rw_, 4, none⟩ = some (.bool lt.broken)) [([0, 1, 2, 3, 5], 4), ([], 6), ([7, 8, 9, 11, 12, 13, 14], 10), ([15, 16, 17, 18, 20, 21, 22, 23], 19)] [24, 25, 26] (by kernel_rfl) (by kernel_rfl) ⟨x2, x4⟩ ?_
                        refine Ord.wpOrd_seg [_, _, _, _, _] _ rfl rfl ?_
                        simp only [List.getElem_toArray, List.getElem_cons_zero, List.getElem_cons_succ]
                        repeat first | go_big_quiet_skip | (go_big_quiet_want; go_big_quiet_op; first | go_big_quiet_on | (apply Exists.intro; refine ⟨fun _ => ?_, ?_⟩; (focus (intros; first | rfl | (simp only [*]; rfl) | (simp [*]; rfl))); go_big_quiet_on))
                        refine wpQuiet_nil ?_
                        go_wp2_with fail
                        (with_reducible refine (wroom_any bw bd bs bf dt _ lt _ HT1.out.li HT1.out.disks.di HT1.out.fi.recs).mono ?_); rintro _ wu ⟨rfl, hmu⟩
                        have y2 := hmu.cell (a := ⟨rw_, 2, none⟩) x2 (by simp)
                        have y4 := hmu.cell (a := ⟨rw_, 4, none⟩) x4 (by simp)
                        have HT2 := Lib.hid (HT1.out.same hmu)
                        have HMT2 := Lib.hid (below_mod HMT1.out hmu (by simp))
                        clear hmu x2 x4
                        go_wp2_with fail
                        try (refine ⟨⟨y2, y4⟩, ?_⟩)
                        refine Ord.wpOrd_seg [] _ rfl rfl ?_
                        simp only [List.getElem_toArray, List.getElem_cons_zero, List.getElem_cons_succ]
                        refine wpQuiet_nil ?_
                        go_wp2_with fail
                        (with_reducible refine (rwroom_any rw_ rd rf dt _ lt _ _ HT2.out.lr HT2.out.disks.dr HT2.out.fr.recs).mono ?_); rintro _ wv ⟨rfl, hmv⟩
                        have z2 := hmv.cell (a := ⟨rw_, 2, none⟩) y2 (by simp)
                        have z4 := hmv.cell (a := ⟨rw_, 4, none⟩) y4 (by simp)
                        have HT3 := Lib.hid (HT2.out.same hmv)
                        have HMT3 := Lib.hid (below_mod HMT2.out hmv (by simp))
                        clear hmv y2 y4
                        go_wp2_with fail
                        try (refine ⟨⟨z2, z4⟩, ?_⟩)
                        refine Ord.wpOrd_seg [_, _, _, _, _, _, _] _ rfl rfl ?_
                        simp only [List.getElem_toArray, List.getElem_cons_zero, List.getElem_cons_succ]
                        repeat first | go_big_quiet_skip | (go_big_quiet_want; go_big_quiet_op; first | go_big_quiet_on | (apply Exists.intro; refine ⟨fun _ => ?_, ?_⟩; (focus (intros; first | rfl | (simp only [*]; rfl) | (simp [*]; rfl))); go_big_quiet_on))
                        refine wpQuiet_nil ?_
                        go_wp2_with fail
                        (with_reducible refine (gen_any bw bd lt _ HT3.out.li).mono ?_); rintro _ wz ⟨rfl, rfl⟩
                        go_wp2_with fail
                        try (refine ⟨⟨z2, z4⟩, ?_⟩)
                        refine Ord.wpOrd_seg [_, _, _, _, _, _, _, _] _ rfl rfl ?_
                        simp only [List.getElem_toArray, List.getElem_cons_zero, List.getElem_cons_succ]
                        repeat first | go_big_quiet_skip | (go_big_quiet_want; go_big_quiet_op; first | go_big_quiet_on | (apply Exists.intro; refine ⟨fun _ => ?_, ?_⟩; (focus (intros; first | rfl | (simp only [*]; rfl) | (simp [*]; rfl))); go_big_quiet_on))
                        refine wpQuiet_nil ?_
                        go_wp2_with fail
                        (with_reducible refine (broken_any bw bd lt _ HT3.out.li).mono ?_); rintro _ wz ⟨rfl, rfl⟩
                        go_wp2_with fail
                        try (refine ⟨⟨z2, z4⟩, ?_⟩)
                        refine Ord.wpOrd_last [_, _, _] rfl ?_
                        simp only [List.getElem_toArray, List.getElem_cons_zero, List.getElem_cons_succ]
                        repeat first | go_big_quiet_skip | (go_big_quiet_want; go_big_quiet_op; first | go_big_quiet_on | (apply Exists.intro; refine ⟨fun _ => ?_, ?_⟩; (focus (intros; first | rfl | (simp only [*]; rfl) | (simp [*]; rfl))); go_big_quiet_on))
                        refine wpQuiet_nil ?_
                        clear z2 z4
                        go_wp2
                        go_roundw
                        case rel => exact ⟨k + 1, by rw [HWK.out], HLT.out, .inl ⟨bw, rw_, _, _, rfl, rfl, HT3.out⟩, HMT3.out⟩
                        case measure =>
                          show l.length - (intOf (.int .i64 (wrap64 ((k : Int) + 1)))).toNat < l.length - (intOf (.int .i64 (k : Int))).toNat
                          rw [HWK.out]
                          simp only [intOf, Int.toNat_natCast]
                          have := HLT.out
                          omega
                    · have HNO := Lib.hid hno
                      have HD7 := Lib.hid hd7
                      clear hno hd7
                      go_wp2_with fail
                      (with_reducible refine (open_r_no HD7.out HNO.out).mono ?_); rintro _ w8 ⟨rfl, hd8, hm8⟩
                      have HTB := Lib.hid hd8
                      have HMB := Lib.hid (below_mod HM7.out hm8 (fun q hq => hd8.base q (by simp only [List.mem_cons, List.not_mem_nil, or_false] at hq; rcases hq with e | e <;> simp [e])))
                      clear hd8 hm8
                      go_wp2_with fail
                      -- HTB : Disks wb .. [] dt dt in the world behind the last call; HMB : Below w.heap.size w wb
                      go_quiet (fail)
                      go_wp2
                      go_roundw
                      case rel => exact ⟨k + 1, by rw [HWK.out], HLT.out, .inr ⟨_, rfl, rfl, HTB.out.same ((Mod.refl [] _).drewN _)⟩, below_mod (S := []) HMB.out ((Mod.refl [] _).drewN _) (by simp)⟩
                      case measure =>
                        show l.length - (intOf (.int .i64 (wrap64 ((k : Int) + 1)))).toNat < l.length - (intOf (.int .i64 (k : Int))).toNat
                        rw [HWK.out]
                        simp only [intOf, Int.toNat_natCast]
                        have := HLT.out
                        omega
                · skip
                  have g1 : (act.kind == 1) = false := by simp [e1]
                  have g2 : (act.kind == 2) = false := by simp [e2]
                  have g3 : (act.kind == 3) = false := by simp [e3]
                  have g4 : (act.kind == 4) = false := by simp [e4]
                  have g5 : (act.kind == 5) = false := by simp [e5]
                  clear e1 e2 e3 e4 e5
                  as_aux_lemma =>
                    rcases hst with ⟨bw, rw_, d, lg, rfl, rfl, hlg⟩ | ⟨d, rfl, rfl, hdk⟩
                    · have HLG0 := Lib.hid hlg
                      clear hlg
                      go_wp2_with fail
                      -- the world with the act in a box: wa; the box: ba
                      obtain ⟨wa, hwa⟩ : ∃ wa, wa = wr.alloc (.cells #[.int .i64 act.kind, .string act.text, .int .i64 act.n, .int .u64 act.keep] 38) := ⟨_, rfl⟩
                      obtain ⟨ba, hba⟩ : ∃ ba, ba = wr.heap.size := ⟨_, rfl⟩
                      rw [← hwa, ← hba]
                      have HMAW := Lib.hid (show Mod [] wr wa by rw [hwa]; exact HMA.out)
                      have HM3 := Lib.hid (show Below w.heap.size w wa by rw [hwa]; exact HM2.out)
                      have hboxa : Blk wa ba [.int .i64 act.kind, .string act.text, .int .i64 act.n, .int .u64 act.keep] 38 := by rw [hwa, hba]; exact HBOX.out
                      have HBA := Lib.hid hboxa
                      have HNB := Lib.hid (show ∀ x, x < wr.heap.size → x ≠ ba from fun x hx => by omega)
                      have b0 := hboxa.cell 0
                      have b1 := hboxa.cell 1
                      have b2 := hboxa.cell 2
                      have b3 := hboxa.cell 3
                      simp only [List.getElem?_cons_zero, List.getElem?_cons_succ] at b0 b1 b2 b3
                      clear hwa hba hboxa q0 q1 q2 q3 g1
                      have HT := Lib.hid (HLG0.out.same HMAW.out)
                      have HMT := HM3
                      clear b0 b1 b2 b3
                      obtain ⟨dt, hdt⟩ : ∃ dt, dt = d := ⟨_, rfl⟩
                      obtain ⟨lt, hlt2⟩ : ∃ lt, lt = lg := ⟨_, rfl⟩
                      rw [← hdt, ← hlt2] at HT
                      clear hdt hlt2
                      as_aux_lemma =>
                        -- HT : Logs wt .. dt dt lt lt in the world at hand; HMT : Below w.heap.size w wt
                        obtain ⟨vt, hbt, hst⟩ := HT.out.lr
                        have x2 := hbt.cells5.2.2.1
                        have x4 := hbt.cells5.2.2.2.2.1
                        have HT1 := Lib.hid (HT.out.same (Mod.refl [] _).drew)
                        have HMT1 := Lib.hid (below_mod HMT.out (Mod.refl [] _).drew (by simp))
                        clear hbt hst
                        refine Ord.wp_region_ord (fun w' => w'.cell? ⟨rw_, 2, none⟩ = some (.int .i64 lt.gen) ∧ w'.cell? ⟨rw_, 4, none⟩ = some (.bool lt.broken)) [([0, 1, 2, 3, 5], 4), ([], 6), ([7, 8, 9, 11, 12, 13, 14], 10), ([15, 16, 17, 18, 20, 21, 22, 23], 19)] [24, 25, 26] (by kernel_rfl) (by kernel_rfl) ⟨x2, x4⟩ ?_
                        refine Ord.wpOrd_seg [_, _, _, _, _] _ rfl rfl ?_
                        simp only [List.getElem_toArray, List.getElem_cons_zero, List.getElem_cons_succ]
                        repeat first | go_big_quiet_skip | (go_big_quiet_want; go_big_quiet_op; first | go_big_quiet_on | (apply Exists.intro; refine ⟨fun _ => ?_, ?_⟩; (focus (intros; first | rfl | (simp only [*]; rfl) | (simp [*]; rfl))); go_big_quiet_on))
                        refine wpQuiet_nil ?_
                        go_wp2_with fail
                        (with_reducible refine (wroom_any bw bd bs bf dt _ lt _ HT1.out.li HT1.out.disks.di HT1.out.fi.recs).mono ?_); rintro _ wu ⟨rfl, hmu⟩
                        have y2 := hmu.cell (a := ⟨rw_, 2, none⟩) x2 (by simp)
                        have y4 := hmu.cell (a := ⟨rw_, 4, none⟩) x4 (by simp)
                        have HT2 := Lib.hid (HT1.out.same hmu)
                        have HMT2 := Lib.hid (below_mod HMT1.out hmu (by simp))
                        clear hmu x2 x4
                        go_wp2_with fail
                        try (refine ⟨⟨y2, y4⟩, ?_⟩)
                        refine Ord.wpOrd_seg [] _ rfl rfl ?_
                        simp only [List.getElem_toArray, List.getElem_cons_zero, List.getElem_cons_succ]
                        refine wpQuiet_nil ?_
                        go_wp2_with fail
                        (with_reducible refine (rwroom_any rw_ rd rf dt _ lt _ _ HT2.out.lr HT2.out.disks.dr HT2.out.fr.recs).mono ?_); rintro _ wv ⟨rfl, hmv⟩
                        have z2 := hmv.cell (a := ⟨rw_, 2, none⟩) y2 (by simp)
                        have z4 := hmv.cell (a := ⟨rw_, 4, none⟩) y4 (by simp)
                        have HT3 := Lib.hid (HT2.out.same hmv)
                        have HMT3 := Lib.hid (below_mod HMT2.out hmv (by simp))
                        clear hmv y2 y4
                        go_wp2_with fail
                        try (refine ⟨⟨z2, z4⟩, ?_⟩)
                        refine Ord.wpOrd_seg [_, _, _, _, _, _, _] _ rfl rfl ?_
                        simp only [List.getElem_toArray, List.getElem_cons_zero, List.getElem_cons_succ]
                        repeat first | go_big_quiet_skip | (go_big_quiet_want; go_big_quiet_op; first | go_big_quiet_on | (apply Exists.intro; refine ⟨fun _ => ?_, ?_⟩; (focus (intros; first | rfl | (simp only [*]; rfl) | (simp [*]; rfl))); go_big_quiet_on))
                        refine wpQuiet_nil ?_
                        go_wp2_with fail
                        (with_reducible refine (gen_any bw bd lt _ HT3.out.li).mono ?_); rintro _ wz ⟨rfl, rfl⟩
                        go_wp2_with fail
                        try (refine ⟨⟨z2, z4⟩, ?_⟩)
                        refine Ord.wpOrd_seg [_, _, _, _, _, _, _, _] _ rfl rfl ?_
                        simp only [List.getElem_toArray, List.getElem_cons_zero, List.getElem_cons_succ]
                        repeat first | go_big_quiet_skip | (go_big_quiet_want; go_big_quiet_op; first | go_big_quiet_on | (apply Exists.intro; refine ⟨fun _ => ?_, ?_⟩; (focus (intros; first | rfl | (simp only [*]; rfl) | (simp [*]; rfl))); go_big_quiet_on))
                        refine wpQuiet_nil ?_
                        go_wp2_with fail
                        (with_reducible refine (broken_any bw bd lt _ HT3.out.li).mono ?_); rintro _ wz ⟨rfl, rfl⟩
                        go_wp2_with fail
                        try (refine ⟨⟨z2, z4⟩, ?_⟩)
                        refine Ord.wpOrd_last [_, _, _] rfl ?_
                        simp only [List.getElem_toArray, List.getElem_cons_zero, List.getElem_cons_succ]
                        repeat first | go_big_quiet_skip | (go_big_quiet_want; go_big_quiet_op; first | go_big_quiet_on | (apply Exists.intro; refine ⟨fun _ => ?_, ?_⟩; (focus (intros; first | rfl | (simp only [*]; rfl) | (simp [*]; rfl))); go_big_quiet_on))
                        refine wpQuiet_nil ?_
                        clear z2 z4
                        go_wp2
                        go_roundw
                        case rel => exact ⟨k + 1, by rw [HWK.out], HLT.out, .inl ⟨bw, rw_, _, _, rfl, rfl, HT3.out⟩, HMT3.out⟩
                        case measure =>
                          show l.length - (intOf (.int .i64 (wrap64 ((k : Int) + 1)))).toNat < l.length - (intOf (.int .i64 (k : Int))).toNat
                          rw [HWK.out]
                          simp only [intOf, Int.toNat_natCast]
                          have := HLT.out
                          omega
                    · have HDK0 := Lib.hid hdk
                      clear hdk
                      go_wp2_with fail
                      -- the world with the act in a box: wa; the box: ba
                      obtain ⟨wa, hwa⟩ : ∃ wa, wa = wr.alloc (.cells #[.int .i64 act.kind, .string act.text, .int .i64 act.n, .int .u64 act.keep] 38) := ⟨_, rfl⟩
                      obtain ⟨ba, hba⟩ : ∃ ba, ba = wr.heap.size := ⟨_, rfl⟩
                      rw [← hwa, ← hba]
                      have HMAW := Lib.hid (show Mod [] wr wa by rw [hwa]; exact HMA.out)
                      have HM3 := Lib.hid (show Below w.heap.size w wa by rw [hwa]; exact HM2.out)
                      have hboxa : Blk wa ba [.int .i64 act.kind, .string act.text, .int .i64 act.n, .int .u64 act.keep] 38 := by rw [hwa, hba]; exact HBOX.out
                      have HBA := Lib.hid hboxa
                      have HNB := Lib.hid (show ∀ x, x < wr.heap.size → x ≠ ba from fun x hx => by omega)
                      have b0 := hboxa.cell 0
                      have b1 := hboxa.cell 1
                      have b2 := hboxa.cell 2
                      have b3 := hboxa.cell 3
                      simp only [List.getElem?_cons_zero, List.getElem?_cons_succ] at b0 b1 b2 b3
                      clear hwa hba hboxa q0 q1 q2 q3 g1
                      have HTB := Lib.hid (HDK0.out.same HMAW.out)
                      have HMB := HM3
                      clear b0 b1 b2 b3
                      -- HTB : Disks wb .. [] dt dt in the world behind the last call; HMB : Below w.heap.size w wb
                      go_quiet (fail)
                      go_wp2
                      go_roundw
                      case rel => exact ⟨k + 1, by rw [HWK.out], HLT.out, .inr ⟨_, rfl, rfl, HTB.out.same ((Mod.refl [] _).drewN _)⟩, below_mod (S := []) HMB.out ((Mod.refl [] _).drewN _) (by simp)⟩
                      case measure =>
                        show l.length - (intOf (.int .i64 (wrap64 ((k : Int) + 1)))).toNat < l.length - (intOf (.int .i64 (k : Int))).toNat
                        rw [HWK.out]
                        simp only [intOf, Int.toNat_natCast]
                        have := HLT.out
                        omega
      · have hle : (l.length : Int) ≤ (k : Int) := by omega
        clear hlt hst
        go_wp2
        go_ret
        exact ⟨rfl, HM.out⟩

set_option maxRecDepth 100000 in
theorem plays_walk (v0 v1 : Value) (W : World) (t0 t1 : TypeId) (H : Type) (enc : TypeId × Value → H) (d0 d1 : DataW H) (p0 p1 : List MemPlace) (base : Nat)
    (ht0 : t0 = 22) (ht1 : t1 = 23) (h0 : DataW.Trod enc Try.prog W 0 (fun _ => true) true t0 v0 d0 p0) (hval0 : Value.okWide Try.prog W .any base t0 v0)
    (h1 : DataW.Trod enc Try.prog W 0 (fun _ => true) true t1 v1 d1 p1) (hval1 : Value.okWide Try.prog W .any base t1 v1) :
    Calls Try.prog 7 #[v0, v1] W fun e w' => e = .returned (.bool true) ∧ Below W.heap.size W w' := by
  subst ht0 ht1
  obtain ⟨x, y, rfl, _, _⟩ := arr2_ints Try.underlying22 Try.underlying3 (by kernel_rfl) (by kernel_rfl) hval0 h0
  obtain ⟨a, l, cap, rfl, ha⟩ := open_argacts v1 W H enc d1 p1 base h1 hval1
  exact plays_calls x y a cap l W ha


open Go.ChangeShapes Go.WideShapes Go.ChangeAt
open Go.ChangeMaps (open_string shut_string)
theorem walPlays_own : ownKnob Try.prog.godebug = none := by kernel_rfl
theorem walPlays_laidOut : laidOutB Try.prog = true := by kernel_rfl
set_option maxRecDepth 100000 in
theorem walPlays_lifted (os : Os) (started : os.Started) (H : Type) (enc : TypeId × Value → H) :
    ReturnsInHanded {} Try.checked os 7 .any (Rows.walPlaysSpec.pre6 enc Try.prog Try.f7 Rows.walPlaysRow.domain false) (Rows.walPlaysSpec.post enc Try.prog Try.f7 false true false false) := by
  refine returnsInHanded_of_change (C := Try.checked) walPlays_own started (by kernel_rfl) Try.func7
    (ChangeSpec.witness6 (enc := enc) (C := Try.checked) false ⟨#[], #[.agg #[.int .i64 0, .int .i64 0], .slice none 0 0], []⟩ 8 (by kernel_rfl) (by kernel_rfl) (by kernel_rfl) (by kernel_rfl)) ?_
  intro W base args ds gs before hval0 hW hcnd _
  have hval : ∀ (j : Nat) t v, Try.f7.params[j]? = some t → args[j]? = some v → Value.okWide Try.prog W .any base t v := hval0
  have hW' := hW
  obtain ⟨p, q, hA0, hV, rfl, hfz, hnd⟩ := hW
  have hA : DataW.TrodAll enc Try.prog W 0 (fun _ => true) true Try.f7.params.toList args.toList ds p := hA0
  rw [Try.params7] at hA hval
  obtain ⟨v0, vs0, d0, ds0, p0, q0, hargs, rfl, rfl, h0, r0⟩ := trodAll_cons hA
  obtain ⟨v1, vs1, d1, ds1, p1, q1, rfl, rfl, rfl, h1, r1⟩ := trodAll_cons r0
  obtain ⟨rfl, rfl, rfl⟩ := trodAll_nil r1
  obtain rfl : args = #[v0, v1] := by cases args; simp_all
  obtain ⟨rfl, rfl⟩ := trodVars_none hV
  have k0 := h0
  have lt0 : ∀ x ∈ p0, x.block < W.heap.size := by obtain ⟨m, hm⟩ := k0; exact DataW.trod_lt m _ _ _ hm
  have vl0 := hval 0 22 v0 rfl rfl
  have h0m := h0
  have k1 := h1
  have lt1 : ∀ x ∈ p1, x.block < W.heap.size := by obtain ⟨m, hm⟩ := k1; exact DataW.trod_lt m _ _ _ hm
  have vl1 := hval 1 23 v1 rfl rfl
  have h1m := h1
  clear hA0 hval0
  refine (plays_walk v0 v1 W _ _ H enc _ _ _ _ base rfl rfl h0 vl0 h1 vl1).mono fun e W' ⟨he, bel⟩ => ?_
  subst he
  exact ⟨_, rfl, _, _, _, [], _, [], hW', trodAll_mk1 (shut_bool Try.underlying4 _), (trodAll_cons_mk (Below.trod walPlays_laidOut (by kernel_rfl) (of_decide_eq_true (by kernel_rfl)) k0 bel lt0) (trodAll_cons_mk (Below.trod walPlays_laidOut (by kernel_rfl) (of_decide_eq_true (by kernel_rfl)) k1 bel lt1) trodAll_mk0)), rfl, bel.frame _, fun h => by cases h⟩

theorem walPlays_holds : Rows.WalPlaysSaid :=
  OpenClaim.holds_of_wide 7 Try.f7 rfl rfl rfl rfl rfl rfl rfl ⟨rfl, rfl, rfl, rfl, rfl⟩ rfl rfl rfl rfl rfl (by kernel_rfl) Try.func7 (by kernel_rfl)
    (of_decide_eq_true (by kernel_rfl)) (by unfold Func.isWrapper; first | (rw [if_pos (by decide +kernel)]; kernel_rfl) | (rw [if_neg (by decide +kernel)]; exact ⟨rfl, rfl⟩))
    (fun os started H enc _ => walPlays_lifted os started H enc)
#print axioms walPlays_holds
end Go.Proofs.Yteidhbjfmmodhaa
