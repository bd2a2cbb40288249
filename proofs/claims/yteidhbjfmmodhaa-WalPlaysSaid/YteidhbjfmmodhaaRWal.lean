/- The walks over the reference's log: it is the same plain machine. -/
import Derived.Test.YteidhbjfmmodhaaRDisk2
import Derived.Test.YteidhbjfmmodhaaFrRefGet
import Derived.Test.YteidhbjfmmodhaaOrd2
namespace Go.Proofs.Yteidhbjfmmodhaa
open Go.RowKit Crc Fr

/-- The disk's sectors as they are read, in memory. -/
theorem DiskR.now_at {w : World} {rd rf : Nat} {d : D} {av : List Nat} (h : DiskR w rd rf d av) : ∃ g c, w.cell? ⟨rd, 2, none⟩ = some (.slice (some ⟨g, 0, none⟩) d.last.length c) ∧ (∀ i, i < d.last.length → w.cell? ⟨g, i, none⟩ = some (.string (sect d.now i))) := by
  obtain ⟨⟨vl, vn, vi, vb, h1, h2, h3, h4⟩, h5, h6, h7, h8⟩ := h
  have hl := D.now_length d
  rcases h3 with ⟨_, e⟩ | ⟨g, c, rfl, hc, _⟩
  · rw [e] at hl; have := h8.n1; simp at hl; omega
  · rw [hl] at h1
    refine ⟨g, c, h1.cells6.2.2.1, fun i hi => ?_⟩
    rw [hc i (by omega)]; unfold sect; simp [List.getD, show i < d.now.length by omega]

set_option maxRecDepth 100000 in
set_option maxHeartbeats 2000000 in
theorem rhead_any (rd rf : Nat) (d : D) (av : List Nat) (area : Nat) (w : World) (h : DiskR w rd rf d av) (ha : area ≤ 1) :
    Calls Try.prog 41 #[ptr rd, .int .i64 area] w fun e w' => e = .returned (.int .i64 (headN d area)) ∧ Mod [] w w' := by
  have H := Lib.hid h
  have hat : area * d.half < d.last.length := at_lt (seq := 0) h.fits ha (by have := half_two h.fits; omega)
  obtain ⟨g, c, c2, hc⟩ := h.now_at
  have c3 := hc _ hat
  obtain ⟨x, hx⟩ : ∃ x, x = sect d.now (area * d.half) := ⟨_, rfl⟩
  rw [← hx] at c3
  have hhead : headN d area = if okB x && (seqOf x == 0 && decide (payOf x = headS)) then genOf x else 0 := by rw [hx]; rfl
  obtain ⟨n, hn⟩ : ∃ n, n = headN d area := ⟨_, rfl⟩
  have HG := Lib.hid (hn.trans hhead)
  rw [← hn]
  obtain ⟨pos, hpos⟩ : ∃ pos, pos = area * d.half := ⟨_, rfl⟩
  rw [← hpos] at c3 hat
  have hw1 : wrap64 ((area : Int) * wrap64 ((d.last.length : Int) / 2)) = (pos : Int) := by
    have := h.fits.n2
    rw [IntWalk.wrap64_in ((d.last.length : Int) / 2) (by omega)]
    rw [show ((d.last.length : Int) / 2) = (d.half : Int) by unfold D.half; omega, hpos, ← Int.natCast_mul, ← hpos]
    rw [IntWalk.wrap64_in _ (by omega)]
  have hpl : (pos : Int) < (d.last.length : Int) := by omega
  clear hhead hn hc hx hpos h ha
  go_enter Try.func41, Try.ntmps41
  go_wp2_with fail
  refine Ord.wp_region_ord (fun w' => w'.cell? ⟨rd, 2, none⟩ = some (.slice (some ⟨g, 0, none⟩) d.last.length c) ∧ w'.cell? ⟨g, pos, none⟩ = some (.string x)) [([0, 1, 2, 3, 4, 5, 6, 7, 8, 9, 10, 11, 12, 13], 14)] [15, 16, 17, 18, 19, 20, 21, 22, 23] (by kernel_rfl) (by kernel_rfl) ⟨c2, c3⟩ ?_
  refine Ord.wpOrd_seg [_, _, _, _, _, _, _, _, _, _, _, _, _, _] _ rfl rfl ?_
  simp only [List.getElem_toArray, List.getElem_cons_zero, List.getElem_cons_succ]
  repeat first | go_big_quiet_skip | (go_big_quiet_want; go_big_quiet_op; first | go_big_quiet_on | (apply Exists.intro; refine ⟨fun _ => ?_, ?_⟩; (focus (intros; first | rfl | (simp only [*]; rfl) | (simp [*]; rfl))); go_big_quiet_on))
  refine wpQuiet_nil ?_
  go_wp2_with fail
  (with_reducible refine (rget_any x _).mono ?_); rintro _ w2 ⟨rfl, hb2⟩
  have hm2 := (((Mod.refl [] w).drew).then hb2)
  have k2 := hm2.cell c2 (by simp)
  have k3 := hm2.cell c3 (by simp)
  have HM2 := Lib.hid hm2
  clear hm2 hb2 c2 c3
  cases hok : okB x
  · have HK := Lib.hid hok
    simp only [genI, seqI, payB, hok]
    clear hok
    go_wp2_with fail
    try (refine ⟨⟨k2, k3⟩, ?_⟩)
    refine Ord.wpOrd_last [_, _, _, _, _, _, _, _, _] rfl ?_
    simp only [List.getElem_toArray, List.getElem_cons_zero, List.getElem_cons_succ]
    repeat first | go_big_quiet_skip | (go_big_quiet_want; go_big_quiet_op; first | go_big_quiet_on | (apply Exists.intro; refine ⟨fun _ => ?_, ?_⟩; (focus (intros; first | rfl | (simp only [*]; rfl) | (simp [*]; rfl))); go_big_quiet_on))
    refine wpQuiet_nil ?_
    go_wp2
    go_ret
    exact ⟨by rw [HG.out, HK.out]; rfl, HM2.out⟩
  · have HK := Lib.hid hok
    simp only [genI, seqI, payB, hok]
    clear hok
    go_wp2_with fail
    try (refine ⟨⟨k2, k3⟩, ?_⟩)
    refine Ord.wpOrd_last [_, _, _, _, _, _, _, _, _] rfl ?_
    simp only [List.getElem_toArray, List.getElem_cons_zero, List.getElem_cons_succ]
    repeat first | go_big_quiet_skip | (go_big_quiet_want; go_big_quiet_op; first | go_big_quiet_on | (apply Exists.intro; refine ⟨fun _ => ?_, ?_⟩; (focus (intros; first | rfl | (simp only [*]; rfl) | (simp [*]; rfl))); go_big_quiet_on))
    refine wpQuiet_nil ?_
    go_wp2
    all_goals
      go_ret
      refine ⟨?_, HM2.out⟩
      rw [HG.out, HK.out, head_eq]
      clear HG HK
      simp_all

set_option maxRecDepth 100000 in
set_option maxHeartbeats 4000000 in
theorem rlay_any (rw rd rf : Nat) (d : D) (av : List Nat) (area gen seq : Nat) (c1 c2 c3 : Value) (s : ByteArray) (w : World) (h : DiskR w rd rf d av) (hav : ∀ x ∈ av, x < w.heap.size)
    (hb : Blk w rw [ptr rd, c1, c2, c3, .bool false] 56) (hrw : rw ∈ av) (hop : d.opn = none) (ha : area ≤ 1) (hg : gen ≤ 4294967295) (hs : seq < d.half) (hp : (s.size : Int) ≤ (d.size : Int) - 14) :
    Calls Try.prog 42 #[ptr rw, .int .i64 area, .int .i64 gen, .int .i64 seq, .string s] w fun e w' =>
      e = .returned (.bool (layOk d area gen seq s)) ∧ DiskR w' rd rf (lay d area gen seq s) av ∧
      Blk w' rw [ptr rd, c1, c2, c3, .bool (!layOk d area gen seq s)] 56 ∧ Mod [rd, rf, rw] w w' := by
  obtain ⟨k0, k1, k2, k3, k4, kz⟩ := hb.cells5
  have H := Lib.hid h
  have HB := Lib.hid hb
  have HAV := Lib.hid hav
  have HRW := Lib.hid hrw
  have HOP := Lib.hid hop
  have HH := Lib.hid (half_two h.fits)
  have HS := Lib.hid (And.intro ha (And.intro hg (And.intro hs hp)))
  have hlt := at_lt h.fits ha hs
  have HLT := Lib.hid hlt
  have hsz := secB_size gen seq s d.size (by have := h.fits.s1; omega)
  have HSZ := Lib.hid hsz
  have d0 : w.cell? ⟨rd, 0, none⟩ = some (.int .i64 d.size) := by obtain ⟨⟨vl, vn, vi, vb, h1, _⟩, _⟩ := h; exact h1.cells6.1
  have hwr : wrap64 (wrap64 ((area : Int) * wrap64 ((d.last.length : Int) / 2)) + (seq : Int)) = ((area * d.half + seq : Nat) : Int) := by
    have := h.fits.n2
    rw [IntWalk.wrap64_in ((d.last.length : Int) / 2) (by omega)]
    rw [show ((d.last.length : Int) / 2) = (d.half : Int) by unfold D.half; omega]
    rw [IntWalk.wrap64_in ((area : Int) * (d.half : Int)) (by rw [← Int.natCast_mul]; omega), IntWalk.wrap64_in _ (by rw [← Int.natCast_mul]; omega)]
    rw [Int.natCast_add, Int.natCast_mul]
  have HWR := Lib.hid hwr
  clear h hb hav hrw hop ha hg hs hp hwr hlt hsz k1 k2 k3 k4 kz
  go_enter Try.func42, Try.ntmps42
  go_wp2_with fail
  (with_reducible refine (rput_yes gen seq d.size s _ (by have := H.out.fits.s1; omega) (by have := H.out.fits.s2; omega) (by omega) (by have := HS.out.2.1; omega) (by omega) (by have := HS.out.2.2.1; have := HH.out; omega) HS.out.2.2.2).mono ?_); rintro _ w1 ⟨rfl, hb1⟩
  simp only [Int.toNat_natCast]
  have hm1 : Mod [] w w1 := Mod.of_below hb1
  have h1 := H.out.same hm1
  have hblk1 := HB.out.mod hm1 (by simp)
  obtain ⟨g, c, n2, _⟩ := h1.now_at
  have k0' := hblk1.cells5.1
  have H1 := Lib.hid h1
  have HB1 := Lib.hid hblk1
  have HM1 := Lib.hid hm1
  have HAV1 := Lib.hid (show ∀ x ∈ av, x < w1.drew.heap.size from fun x hx => Nat.lt_of_lt_of_le (HAV.out x hx) hm1.size)
  clear hb1 hm1 h1 hblk1 k0 d0
  go_wp2_with fail
  refine Ord.wp_region_late (fun w' => w'.cell? ⟨rw, 0, none⟩ = some (ptr rd) ∧ w'.cell? ⟨rd, 2, none⟩ = some (.slice (some ⟨g, 0, none⟩) d.last.length c)) [18, 19] [([0, 1, 2, 3, 4, 5, 6, 7, 8, 9, 10, 11, 12, 13, 14, 15, 16, 17], 18), ([], 19)] (by kernel_rfl) (by kernel_rfl) ⟨k0', n2⟩ ?_
  refine Ord.wpOrdL_seg [_, _, _, _, _, _, _, _, _, _, _, _, _, _, _, _, _, _] _ _ rfl rfl rfl ?_
  simp only [List.getElem_toArray, List.getElem_cons_zero, List.getElem_cons_succ]
  repeat first | go_big_quiet_skip | (go_big_quiet_want; go_big_quiet_op; first | go_big_quiet_on | (apply Exists.intro; refine ⟨fun _ => ?_, ?_⟩; (focus (intros; first | rfl | (simp only [*]; rfl) | (simp [*]; rfl))); go_big_quiet_on))
  refine wpQuiet_nil ?_
  go_wp2_with fail
  rw [HWR.out]
  (with_reducible refine (rwrite_any rd rf d av _ (secB gen seq s d.size) _ (H1.out.same (Mod.refl [] _).drew) HAV1.out HOP.out HLT.out HSZ.out).mono ?_); rintro _ w2 ⟨rfl, hd2, hm2⟩
  have hne : rw ≠ rd ∧ rw ≠ rf := ⟨fun e => H1.out.out.1 (e ▸ HRW.out), fun e => H1.out.out.2 (e ▸ HRW.out)⟩
  have hblk2 := (HB1.out.drew).mod hm2 (by simp; exact hne)
  have k2 := hblk2.cells5.1
  have kz2 := hblk2.free 4
  have k24 := hblk2.cells5.2.2.2.2.1
  have hd2' : DiskR w2 rd rf (lay1 d area gen seq s) av := hd2
  have HD2 := Lib.hid hd2'
  have HM2 := Lib.hid hm2
  have HB2 := Lib.hid hblk2
  have HNE := Lib.hid hne
  clear hd2 hd2' hm2 hblk2 hne k0' n2
  cases hst : d.fuse.stop
  · have HST := Lib.hid hst
    clear hst
    go_wp2_with fail
    refine ⟨Ord.Need.no, ?_⟩
    refine Ord.wpOrdL_seg [] _ _ rfl rfl rfl ?_
    simp only [List.getElem_toArray, List.getElem_cons_zero, List.getElem_cons_succ]
    refine wpQuiet_nil ?_
    go_wp2_with fail
    refine ⟨Ord.Need.no, ?_⟩
    refine Ord.wpOrdL_nil ?_
    go_wp2_with fail
    (with_reducible refine (rflush_any rd rf _ av _ HD2.out).mono ?_); rintro _ w3 ⟨rfl, hd3, hm3⟩
    have hblk3 := HB2.out.mod hm3 (by simp; exact HNE.out)
    have k3 := hblk3.cells5.1
    have kz3 := hblk3.free 4
    have k34 := hblk3.cells5.2.2.2.2.1
    have hm03 : Mod [rd, rf, rw] w w3 := ((HM1.out.drew).mono (by simp)).trans ((HM2.out.mono (by simp)).trans (hm3.mono (by simp)))
    have HD3 := Lib.hid hd3
    have HB3 := Lib.hid hblk3
    have HM3 := Lib.hid hm03
    clear hd3 hblk3 hm3 hm03 k2 k24 kz2
    cases hst2 : (lay1 d area gen seq s).fuse.stop
    · have HOK := Lib.hid (show layOk d area gen seq s = true by unfold layOk; rw [HST.out, hst2]; rfl)
      have HL := Lib.hid (show lay d area gen seq s = (lay1 d area gen seq s).flush by unfold lay; rw [HST.out]; rfl)
      clear hst2
      go_wp2
      go_ret
      rw [HOK.out, HL.out]
      exact ⟨rfl, HD3.out, HB3.out, HM3.out⟩
    · have HOK := Lib.hid (show layOk d area gen seq s = false by unfold layOk; rw [HST.out, hst2]; rfl)
      have HL := Lib.hid (show lay d area gen seq s = (lay1 d area gen seq s).flush by unfold lay; rw [HST.out]; rfl)
      clear hst2
      go_wp2
      go_ret
      rw [HOK.out, HL.out]
      exact ⟨rfl, HD3.out.mod ((Mod.refl [rw] _).setCell (by simp) _) (by simp; exact HRW.out), HB3.out.set 4 _, HM3.out.setCell (by simp) _⟩
  · have HST := Lib.hid hst
    clear hst
    go_wp2_with fail
    refine ⟨Ord.Need.no, ?_⟩
    refine Ord.wpOrdL_seg [] _ _ rfl rfl rfl ?_
    simp only [List.getElem_toArray, List.getElem_cons_zero, List.getElem_cons_succ]
    refine wpQuiet_nil ?_
    go_wp2_with fail
    refine ⟨Ord.Need.no, ?_⟩
    refine Ord.wpOrdL_nil ?_
    go_wp2
    go_ret
    have HOK : layOk d area gen seq s = false := by unfold layOk; rw [HST.out]; rfl
    have HL : lay d area gen seq s = lay1 d area gen seq s := by unfold lay; rw [HST.out]; rfl
    rw [HOK, HL]
    exact ⟨rfl, HD2.out.mod ((Mod.refl [rw] _).setCell (by simp) _) (by simp; exact HRW.out), HB2.out.set 4 _, (((HM1.out.drew).mono (by simp)).trans (HM2.out.mono (by simp))).setCell (by simp) _⟩
end Go.Proofs.Yteidhbjfmmodhaa
