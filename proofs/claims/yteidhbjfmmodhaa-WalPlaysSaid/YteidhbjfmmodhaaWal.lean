/- The walks over the log. -/
import Derived.Test.YteidhbjfmmodhaaDisk2
import Derived.Test.YteidhbjfmmodhaaFrGet
import Derived.Test.YteidhbjfmmodhaaWalPure
namespace Go.Proofs.Yteidhbjfmmodhaa
open Go.RowKit Crc Fr

set_option maxHeartbeats 1000000 in
theorem half_any (bd bs bf : Nat) (d : D) (av : List Nat) (w : World) (h : DiskI w bd bs bf d av) :
    Calls Try.prog 35 #[ptr bd] w fun e w' => e = .returned (.int .i64 d.half) ∧ w' = w := by
  have H := Lib.hid h
  have hh : wrap64 ((d.last.length : Int) / 2) = (d.half : Int) := by
    have := h.fits.n2
    rw [IntWalk.wrap64_in _ (by omega)]
    unfold D.half
    omega
  have HH := Lib.hid hh
  clear h hh
  go_enter Try.func35, Try.ntmps35
  go_wp2_with fail
  (with_reducible refine (len_any bd bs bf d av _ H.out).mono ?_); rintro _ w' ⟨rfl, rfl⟩
  go_wp2
  rw [HH.out]
  go_ret
  exact ⟨rfl, rfl⟩

theorem head_eq (p : ByteArray) : decide (p = headS) = (p.toList == [104, 101, 97, 100]) := by
  have h := strEq p headS
  rw [show headS.toList = [104, 101, 97, 100] by rw [ByteArray.toList_eq]; rfl] at h
  rw [h]

set_option maxHeartbeats 1000000 in
theorem generation_any (bd bs bf : Nat) (d : D) (av : List Nat) (area : Nat) (w : World) (h : DiskI w bd bs bf d av) (ha : area ≤ 1) :
    Calls Try.prog 33 #[ptr bd, .int .i64 area] w fun e w' => e = .returned (.int .i64 (headN d area)) ∧ Mod [] w w' := by
  have H := Lib.hid h
  have hat : area * d.half < d.last.length := at_lt (seq := 0) h.fits ha (by have := half_two h.fits; omega)
  have hsz : (sect d.now (area * d.half)).size ≤ 100000 := by
    have := h.fits.now _ (sect_mem (i := area * d.half) (l := d.now) (by rw [D.now_length]; exact hat))
    have := h.fits.s2
    omega
  have HAT := Lib.hid hat
  have HSZ := Lib.hid hsz
  have hwr : wrap64 ((area : Int) * (d.half : Int)) = ((area * d.half : Nat) : Int) := by
    have := h.fits.n2
    rw [Int.natCast_mul, IntWalk.wrap64_in _ (by omega)]
  have HWR := Lib.hid hwr
  clear h hat hsz hwr ha
  obtain ⟨x, hx⟩ : ∃ x, x = sect d.now (area * d.half) := ⟨_, rfl⟩
  have HX := Lib.hid hx
  have hhead : headN d area = if okB x && (seqOf x == 0 && decide (payOf x = headS)) then genOf x else 0 := by rw [hx]; rfl
  obtain ⟨g, hg⟩ : ∃ g, g = headN d area := ⟨_, rfl⟩
  have HG := Lib.hid (hg.trans hhead)
  rw [← hg]
  clear hhead hx hg
  go_enter Try.func33, Try.ntmps33
  go_wp2_with fail
  (with_reducible refine (half_any bd bs bf d av _ H.out).mono ?_); rintro _ w' ⟨rfl, rfl⟩
  go_wp2_with fail
  rw [HWR.out]
  go_wp2_with fail
  (with_reducible refine (read_any bd bs bf d av _ _ H.out HAT.out).mono ?_); rintro _ w1 ⟨rfl, rfl⟩
  rw [← HX.out]
  go_wp2_with fail
  (with_reducible refine (get_any x _ (by rw [HX.out]; exact HSZ.out)).mono ?_); rintro _ w2 ⟨rfl, hb2⟩
  have hm2 : Mod [] w1 w2 := Mod.of_below hb2
  have HM2 := Lib.hid hm2
  clear hm2 hb2
  cases hok : okB x
  · have HK := Lib.hid hok
    simp only [genI, seqI, payB, hok]
    clear hok
    go_wp2
    go_ret
    exact ⟨by rw [HG.out, HK.out]; rfl, HM2.out⟩
  · have HK := Lib.hid hok
    simp only [genI, seqI, payB, hok]
    clear hok
    go_wp2
    all_goals
      go_ret
      refine ⟨?_, HM2.out⟩
      rw [HG.out, HK.out, head_eq]
      clear HG HWR HX HK
      simp_all

set_option maxHeartbeats 2000000 in
theorem lay_any (bw bd bs bf : Nat) (d : D) (av : List Nat) (area gen seq : Nat) (c1 c2 c3 : Value) (s : ByteArray) (w : World) (h : DiskI w bd bs bf d av) (hav : ∀ x ∈ av, x < w.heap.size)
    (hb : Blk w bw [ptr bd, c1, c2, c3, .bool false] 66) (hbw : bw ∈ av) (hop : d.opn = none) (ha : area ≤ 1) (hg : gen ≤ 4294967295) (hs : seq < d.half) (hp : (s.size : Int) ≤ (d.size : Int) - 14) :
    Calls Try.prog 34 #[ptr bw, .int .i64 area, .int .i64 gen, .int .i64 seq, .string s] w fun e w' =>
      e = .returned (.int .i64 (layE d area gen seq s)) ∧ DiskI w' bd bs bf (lay d area gen seq s) av ∧
      Blk w' bw [ptr bd, c1, c2, c3, .bool (!layOk d area gen seq s)] 66 ∧ Mod [bd, bs, bf, bw] w w' := by
  obtain ⟨k0, k1, k2, k3, k4, kz⟩ := hb.cells5
  have H := Lib.hid h
  have HB := Lib.hid hb
  have HAV := Lib.hid hav
  have HBW := Lib.hid hbw
  have HOP := Lib.hid hop
  have HH := Lib.hid (half_two h.fits)
  have HP := Lib.hid (show (1 : Int) ≤ 2 from by omega)
  have HS := Lib.hid (And.intro ha (And.intro hg (And.intro hs hp)))
  have hwr : wrap64 (wrap64 ((area : Int) * (d.half : Int)) + (seq : Int)) = ((area * d.half + seq : Nat) : Int) := by
    have := at_lt h.fits ha hs
    have := h.fits.n2
    rw [IntWalk.wrap64_in ((area : Int) * (d.half : Int)) (by rw [← Int.natCast_mul]; omega), IntWalk.wrap64_in _ (by rw [← Int.natCast_mul]; omega)]
    rw [Int.natCast_add, Int.natCast_mul]
  have HWR := Lib.hid hwr
  have hlt := at_lt h.fits ha hs
  have HLT := Lib.hid hlt
  have hsz := secB_size gen seq s d.size (by have := h.fits.s1; omega)
  have HSZ := Lib.hid hsz
  clear h hb hav hbw hop ha hg hs hp hwr hlt hsz k1 k2 k3 k4 kz
  go_enter Try.func34, Try.ntmps34
  go_wp2_with fail
  (with_reducible refine (size_any bd bs bf d av _ H.out).mono ?_); rintro _ w' ⟨rfl, rfl⟩
  go_wp2_with fail
  (with_reducible refine (put_yes gen seq d.size s _ (by have := H.out.fits.s1; omega) (by have := H.out.fits.s2; omega) (by omega) (by have := HS.out.2.1; omega) (by omega) (by have := HS.out.2.2.1; have := HH.out; omega) HS.out.2.2.2).mono ?_); rintro _ w1 ⟨rfl, hb1⟩
  simp only [Int.toNat_natCast]
  have hm1 : Mod [] w' w1 := Mod.of_below hb1
  have h1 := H.out.same hm1
  have hblk1 := HB.out.mod hm1 (by simp)
  have k0' := hblk1.cells5.1
  have H1 := Lib.hid h1
  have HB1 := Lib.hid hblk1
  have HM1 := Lib.hid hm1
  have HAV1 := Lib.hid (show ∀ x ∈ av, x < w1.drew.heap.size from fun x hx => Nat.lt_of_lt_of_le (HAV.out x hx) hm1.size)
  clear hb1 hm1 h1 hblk1 k0
  go_wp2_with fail
  refine Ord.wp_region_ord (fun w' => w'.cell? ⟨bw, 0, none⟩ = some (ptr bd)) [([0, 1, 2, 3, 4, 5, 6, 7, 8, 11, 13], 9), ([10, 12], 14), ([15, 16, 17, 18, 19, 20], 21)] [22, 23] (by kernel_rfl) (by kernel_rfl) k0' ?_
  refine Ord.wpOrd_seg [_, _, _, _, _, _, _, _, _, _, _] _ rfl rfl ?_
  simp only [List.getElem_toArray, List.getElem_cons_zero, List.getElem_cons_succ]
  repeat first | go_big_quiet_skip | (go_big_quiet_want; go_big_quiet_op; first | go_big_quiet_on | (apply Exists.intro; refine ⟨fun _ => ?_, ?_⟩; (focus (intros; first | rfl | (simp only [*]; rfl) | (simp [*]; rfl))); go_big_quiet_on))
  refine wpQuiet_nil ?_
  go_wp2_with fail
  (with_reducible refine (half_any bd bs bf d av _ (H1.out.same (Mod.refl [] _).drew)).mono ?_); rintro _ w2 ⟨rfl, rfl⟩
  go_wp2
  refine ⟨k0', ?_⟩
  refine Ord.wpOrd_seg [_, _] _ rfl rfl ?_
  simp only [List.getElem_toArray, List.getElem_cons_zero, List.getElem_cons_succ]
  repeat first | go_big_quiet_skip | (go_big_quiet_want; go_big_quiet_op; first | go_big_quiet_on | (apply Exists.intro; refine ⟨fun _ => ?_, ?_⟩; (focus (intros; first | rfl | (simp only [*]; rfl) | (simp [*]; rfl))); go_big_quiet_on))
  refine wpQuiet_nil ?_
  go_wp2_with fail
  rw [HWR.out]
  (with_reducible refine (write_any bd bs bf d av _ (secB gen seq s d.size) _ (H1.out.same (Mod.refl [] _).drew) HAV1.out HOP.out HLT.out HSZ.out).mono ?_); rintro _ w2 ⟨rfl, hd2, hm2⟩
  have hne : bw ≠ bd ∧ bw ≠ bf ∧ bw ≠ bs := ⟨fun e => H1.out.out.1 (e ▸ HBW.out), fun e => H1.out.out.2.2 (e ▸ HBW.out), fun e => H1.out.out.2.1 (e ▸ HBW.out)⟩
  have hblk2 := (HB1.out.drew).mod hm2 (by simp; exact ⟨hne.1, hne.2.1⟩)
  have k2 := hblk2.cells5.1
  have hd2' : DiskI w2 bd bs bf (lay1 d area gen seq s) av := hd2
  have HD2 := Lib.hid hd2'
  have HM2 := Lib.hid hm2
  have HB2 := Lib.hid hblk2
  have HNE := Lib.hid hne
  clear hd2 hd2' hm2 hblk2 hne k0'
  cases hst : d.fuse.stop
  · have HST := Lib.hid hst
    clear hst
    go_wp2
    refine ⟨k2, ?_⟩
    refine Ord.wpOrd_seg [_, _, _, _, _, _] _ rfl rfl ?_
    simp only [List.getElem_toArray, List.getElem_cons_zero, List.getElem_cons_succ]
    repeat first | go_big_quiet_skip | (go_big_quiet_want; go_big_quiet_op; first | go_big_quiet_on | (apply Exists.intro; refine ⟨fun _ => ?_, ?_⟩; (focus (intros; first | rfl | (simp only [*]; rfl) | (simp [*]; rfl))); go_big_quiet_on))
    refine wpQuiet_nil ?_
    go_wp2_with fail
    (with_reducible refine (flush_any bd bs bf _ av _ HD2.out).mono ?_); rintro _ w3 ⟨rfl, hd3, hm3⟩
    have hblk3 := HB2.out.mod hm3 (by simp; exact ⟨HNE.out.1, HNE.out.2.2, HNE.out.2.1⟩)
    have k3 := hblk3.cells5.1
    have kz3 := hblk3.free 4
    have k34 := hblk3.cells5.2.2.2.2.1
    have hm03 : Mod [bd, bs, bf, bw] w' w3 := ((HM1.out.drew).mono (by simp)).trans ((HM2.out.mono (by simp)).trans (hm3.mono (by simp)))
    have HD3 := Lib.hid hd3
    have HB3 := Lib.hid hblk3
    have HM3 := Lib.hid hm03
    clear hd3 hblk3 hm3 hm03 k2
    cases hst2 : (lay1 d area gen seq s).fuse.stop
    · have HOK := Lib.hid (show layOk d area gen seq s = true by unfold layOk; rw [HST.out, hst2]; rfl)
      have HL := Lib.hid (show lay d area gen seq s = (lay1 d area gen seq s).flush by unfold lay; rw [HST.out]; rfl)
      clear hst2
      go_wp2
      refine ⟨k3, ?_⟩
      refine Ord.wpOrd_last [_, _] rfl ?_
      simp only [List.getElem_toArray, List.getElem_cons_zero, List.getElem_cons_succ]
      repeat first | go_big_quiet_skip | (go_big_quiet_want; go_big_quiet_op; first | go_big_quiet_on | (apply Exists.intro; refine ⟨fun _ => ?_, ?_⟩; (focus (intros; first | rfl | (simp only [*]; rfl) | (simp [*]; rfl))); go_big_quiet_on))
      refine wpQuiet_nil ?_
      go_wp2
      go_ret
      unfold layE
      rw [HOK.out, HL.out]
      exact ⟨rfl, HD3.out, HB3.out, HM3.out⟩
    · have HOK := Lib.hid (show layOk d area gen seq s = false by unfold layOk; rw [HST.out, hst2]; rfl)
      have HL := Lib.hid (show lay d area gen seq s = (lay1 d area gen seq s).flush by unfold lay; rw [HST.out]; rfl)
      clear hst2
      go_wp2
      refine ⟨k3, ?_⟩
      refine Ord.wpOrd_last [_, _] rfl ?_
      simp only [List.getElem_toArray, List.getElem_cons_zero, List.getElem_cons_succ]
      repeat first | go_big_quiet_skip | (go_big_quiet_want; go_big_quiet_op; first | go_big_quiet_on | (apply Exists.intro; refine ⟨fun _ => ?_, ?_⟩; (focus (intros; first | rfl | (simp only [*]; rfl) | (simp [*]; rfl))); go_big_quiet_on))
      refine wpQuiet_nil ?_
      go_wp2
      go_ret
      unfold layE
      rw [HOK.out, HL.out]
      exact ⟨rfl, HD3.out.mod ((Mod.refl [bw] _).setCell (by simp) _) (by simp; exact HBW.out), HB3.out.set 4 _, HM3.out.setCell (by simp) _⟩
  · have HST := Lib.hid hst
    clear hst
    have hm03 : Mod [bd, bs, bf, bw] w' w2 := ((HM1.out.drew).mono (by simp)).trans (HM2.out.mono (by simp))
    have HM3 := Lib.hid hm03
    have kz3 := HB2.out.free 4
    have k34 := HB2.out.cells5.2.2.2.2.1
    have HOK := Lib.hid (show layOk d area gen seq s = false by unfold layOk; rw [HST.out]; rfl)
    have HL := Lib.hid (show lay d area gen seq s = lay1 d area gen seq s by unfold lay; rw [HST.out]; rfl)
    clear hm03
    go_wp2
    refine ⟨k2, ?_⟩
    refine Ord.wpOrd_seg [_, _, _, _, _, _] _ rfl rfl ?_
    simp only [List.getElem_toArray, List.getElem_cons_zero, List.getElem_cons_succ]
    repeat first | go_big_quiet_skip | (go_big_quiet_want; go_big_quiet_op; first | go_big_quiet_on | (apply Exists.intro; refine ⟨fun _ => ?_, ?_⟩; (focus (intros; first | rfl | (simp only [*]; rfl) | (simp [*]; rfl))); go_big_quiet_on))
    refine wpQuiet_nil ?_
    go_wp2
    refine ⟨k2, ?_⟩
    refine Ord.wpOrd_last [_, _] rfl ?_
    simp only [List.getElem_toArray, List.getElem_cons_zero, List.getElem_cons_succ]
    repeat first | go_big_quiet_skip | (go_big_quiet_want; go_big_quiet_op; first | go_big_quiet_on | (apply Exists.intro; refine ⟨fun _ => ?_, ?_⟩; (focus (intros; first | rfl | (simp only [*]; rfl) | (simp [*]; rfl))); go_big_quiet_on))
    refine wpQuiet_nil ?_
    go_wp2
    go_ret
    unfold layE
    rw [HOK.out, HL.out]
    exact ⟨rfl, HD2.out.mod ((Mod.refl [bw] _).setCell (by simp) _) (by simp; exact HBW.out), HB2.out.set 4 _, HM3.out.setCell (by simp) _⟩
end Go.Proofs.Yteidhbjfmmodhaa
