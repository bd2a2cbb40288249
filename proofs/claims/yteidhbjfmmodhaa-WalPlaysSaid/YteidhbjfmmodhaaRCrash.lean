/- The walk over a crash of the reference's disk. -/
import Derived.Test.YteidhbjfmmodhaaRDisk2
import Derived.Test.YteidhbjfmmodhaaOrd2
namespace Go.Proofs.Yteidhbjfmmodhaa
open Go.RowKit Crc Fr



set_option maxRecDepth 100000 in
set_option maxHeartbeats 4000000 in
theorem rcrash_any (rd rf : Nat) (d : D) (av : List Nat) (keep : Nat) (torn : Int) (w : World) (h : DiskR w rd rf d av) (hav : ∀ x ∈ av, x < w.heap.size) :
    Calls Try.prog 28 #[ptr rd, .int .u64 keep, .int .i64 torn] w fun e w' => e = .returned (.tuple #[]) ∧ DiskR w' rd rf (d.crash keep torn.toNat) av ∧ Mod [rd, rf] w w' := by
  obtain ⟨vl, vn, vi, vb, hb, hl, hn, ho⟩ := h.blk
  obtain ⟨la, ln, lc, hvl⟩ := hl.sl
  obtain rfl := hvl
  have H := Lib.hid h
  have HAV := Lib.hid hav
  have HS := Lib.hid (And.intro hl hn)
  have HFIT := Lib.hid (h.fits.crash keep torn.toNat)
  clear hav
  cases hop : d.opn with
  | none =>
    rw [hop] at ho
    obtain ⟨rfl, rfl⟩ := ho
    have HOP := Lib.hid hop
    have HBR := Lib.hid hb
    have HFR := Lib.hid h.fuse
    obtain ⟨c0, c1, c2, c3, c4, c5, fz⟩ := hb.cells6
    clear h hop hb hl hn
    go_enter Try.func28, Try.ntmps28
    go_wp2
    go_loopw [8] (fun i wr => i = .int .i64 0 ∧ wr = w) (fun _ _ => 0)
    case atStart => exact ⟨rfl, rfl⟩
    case round =>
      obtain ⟨rfl, rfl⟩ := hrel
      go_wp2
      go_loopw [9] (fun i w2 => i = .int .i64 0 ∧ wr = w2) (fun _ _ => 0)
      case atStart => exact ⟨rfl, rfl⟩
      case round =>
        obtain ⟨rfl, rfl⟩ := hrel
        have HSL := Lib.hid HS.out.1
        have HD := Lib.hid (show d.crash keep torn.toNat = { size := d.size, last := d.last, opn := none, fuse := d.fuse.reset } by unfold D.crash; rw [HOP.out])
        have HMR := Lib.hid (Mod.refl [rd, rf] wr)
        clear c0 c1 c2 c3 c4 c5 fz
        -- wr: a disk in which 'last' is done: HBR : Blk wr rd [size, .slice la ln lc, vn, vi, vb, ptr rf], HFR : FuseR wr rf d.fuse
        obtain ⟨k0, k1, k2, k3, k4, k5, kz⟩ := HBR.out.cells6
        go_wp2_with fail
        have m2 : Mod [rd] wr (((wr.setCell ⟨rd, 2, none⟩ (.slice la ln lc)).setCell ⟨rd, 3, none⟩ (.slice none 0 0)).setCell ⟨rd, 4, none⟩ (.slice none 0 0)) := (((Mod.refl [rd] wr).setCell (p := ⟨rd, 2, none⟩) (by simp) _).setCell (p := ⟨rd, 3, none⟩) (by simp) _).setCell (p := ⟨rd, 4, none⟩) (by simp) _
        have M2 := Lib.hid m2
        have HB9 := Lib.hid (((HBR.out.set 2 (.slice la ln lc)).set 3 (.slice none 0 0)).set 4 (.slice none 0 0))
        have HFX := Lib.hid (HFR.out.mod m2 (by simp; exact fun e => H.out.ne e.symm))
        (with_reducible refine (rreset_any rf d.fuse _ HFX.out).mono ?_); rintro _ w9 ⟨rfl, hf9, hm9⟩
        have HF9 := Lib.hid hf9
        have HM9 := Lib.hid hm9
        clear m2 hf9 hm9 k0 k1 k2 k3 k4 k5 kz
        go_wp2
        go_end0
        have mm : Mod [rd, rf] wr w9 := (M2.out.mono (by simp)).trans (HM9.out.mono (by simp))
        have hs9 := HSL.out.mod mm (by intro x hx; left; simp at hx ⊢; rcases hx with e | e <;> simp [e])
        have hb9 := HB9.out.mod HM9.out (by simp; exact H.out.ne)
        refine ⟨rfl, ?_, HMR.out.trans mm⟩
        rw [HD.out]
        refine ⟨⟨.slice la ln lc, .slice la ln lc, .slice none 0 0, .slice none 0 0, hb9, hs9, hs9, rfl, rfl⟩, HF9.out, H.out.ne, H.out.out, ?_⟩
        rw [← HD.out]
        exact HFIT.out
  | some p =>
    obtain ⟨i, b⟩ := p
    rw [hop] at ho
    obtain ⟨g1, e1, g2, e2, rfl, rfl, q1, q2, n1, n2⟩ := ho
    have HOP := Lib.hid hop
    have HQ := Lib.hid (And.intro q1 (And.intro q2 (And.intro n1 n2)))
    have HFO := Lib.hid (h.fits.opn i b hop)
    obtain ⟨c0, c1, c2, c3, c4, c5, fz⟩ := hb.cells6
    have HB := Lib.hid hb
    have HFR := Lib.hid h.fuse
    clear h hop hb hl hn n1 n2
    by_cases hodd : keep % 2 = 1
    · obtain ⟨gl, rfl, rfl, hlc⟩ : ∃ gl, la = some ⟨gl, 0, none⟩ ∧ ln = d.last.length ∧ w.cell? ⟨gl, i, none⟩ = some (.string (sect d.last i)) := by
        rcases HS.out.1 with ⟨_, e⟩ | ⟨gl, cl, e, hc, _⟩
        · have := HFO.out.1; rw [e] at this; exact absurd this (Nat.not_lt_zero _)
        · cases e
          refine ⟨gl, rfl, rfl, ?_⟩
          rw [hc i HFO.out.1]; unfold sect; simp [List.getD, HFO.out.1]
      have hbit : ((keep : Int) % 2 == 1) = true := by simp; omega
      have HODD := Lib.hid hodd
      clear hodd
      obtain ⟨ct, hct⟩ : ∃ ct : Nat, ct = min torn.toNat d.size := ⟨_, rfl⟩
      obtain ⟨old, hold⟩ : ∃ old, old = sect d.last i := ⟨_, rfl⟩
      have hs1 := H.out.fits.s1
      have hctd : min (max torn 0) (d.size : Int) = (ct : Int) := by omega
      rw [← hold] at hlc
      have hos : old.size = d.size := by rw [hold]; exact H.out.fits.each _ (sect_mem HFO.out.1)
      have hcb : ct ≤ b.size := by rw [HFO.out.2]; omega
      have hco : ct ≤ old.size := by omega
      have hsz := H.out.fits.s2
      have HCT := Lib.hid (And.intro hct (And.intro hctd (And.intro hold (And.intro hos (And.intro hcb (And.intro hco (And.intro hs1 hsz)))))))
      clear hct hold hs1 hctd hos hcb hco hsz
      go_enter Try.func28, Try.ntmps28
      go_wp2
      go_loopw [6, 7, 8] (fun v k y wr => wr = w ∧ ((y = .int .i64 0 ∧ v = .int .i64 (-1) ∧ k = .int .u64 keep) ∨ (y = .int .i64 1 ∧ v = .int .i64 0))) (fun _ _ y _ => 1 - (intOf y).toNat)
      case atStart => exact ⟨rfl, .inl ⟨rfl, rfl, rfl⟩⟩
      case round =>
        obtain ⟨rfl, hrel⟩ := hrel
        rcases hrel with ⟨rfl, rfl, rfl⟩ | ⟨rfl, rfl⟩
        · go_wp2
          go_roundw
          case rel => exact ⟨trivial, .inr ⟨rfl, rfl⟩⟩
          case measure => simp [intOf]
        · go_wp2
          go_loopw [7, 9] (fun k y w2 => (y = .int .i64 0 ∧ k = .int .u64 keep ∧ wr = w2) ∨ (y = .int .i64 1 ∧ ∃ la ln lc, Blk w2 rd [.int .i64 d.size, .slice la ln lc, vn, .slice (some ⟨g1, 0, none⟩) 1 e1, .slice (some ⟨g2, 0, none⟩) 1 e2, ptr rf] 76 ∧ StrsAt w2 (.slice la ln lc) (d.last.set i (D.mix d.size torn.toNat b (sect d.last i))) ([rd, rf] ++ av) ∧ Mod [rd] wr w2)) (fun _ y _ => 1 - (intOf y).toNat)
          case atStart => exact .inl ⟨rfl, rfl, rfl⟩
          case round =>
            rcases hrel with ⟨rfl, rfl, rfl⟩ | ⟨rfl, la2, ln2, lc2, hb2, hs2, hm2⟩
            · skip
              go_wp2_with fail
              (with_reducible refine (clamp_any torn 0 _ _ (by omega)).mono ?_); rintro _ w3 ⟨rfl, rfl⟩
              rw [HCT.out.2.1]
              have hcb : ct ≤ b.size := HCT.out.2.2.2.2.1
              have hco : ct ≤ old.size := HCT.out.2.2.2.2.2.1
              have hli : (i : Int) < (d.last.length : Int) := by have := HFO.out.1; omega
              have hbs : b.size ≤ 1024 := by rw [HFO.out.2]; exact HCT.out.2.2.2.2.2.2.2
              have hos2 : old.size ≤ 1024 := by rw [HCT.out.2.2.2.1]; exact HCT.out.2.2.2.2.2.2.2
              have hz1 : (b.extract 0 ct).size = ct := by rw [ByteArray.size_extract]; omega
              have hz2 : (old.extract ct old.size).size = old.size - ct := by rw [ByteArray.size_extract]; omega
              go_wp2_with fail
              refine Ord.wp_region_ord (fun w' => w'.cell? ⟨rd, 1, none⟩ = some (.slice (some ⟨gl, 0, none⟩) d.last.length lc) ∧ w'.cell? ⟨rd, 3, none⟩ = some (.slice (some ⟨g1, 0, none⟩) 1 e1) ∧ w'.cell? ⟨g1, 0, none⟩ = some (.int .i64 i) ∧ w'.cell? ⟨gl, i, none⟩ = some (.string old)) [] [0, 1, 2, 3, 4, 5, 6, 7, 8, 9, 10, 11, 12, 13, 14, 15, 16, 17, 18, 19] (by kernel_rfl) (by kernel_rfl) ⟨c1, c3, q1, hlc⟩ ?_
              refine Ord.wpOrd_last [_, _, _, _, _, _, _, _, _, _, _, _, _, _, _, _, _, _, _, _] rfl ?_
              simp only [List.getElem_toArray, List.getElem_cons_zero, List.getElem_cons_succ]
              repeat first | go_big_quiet_skip | (go_big_quiet_want; go_big_quiet_op; first | go_big_quiet_on | (apply Exists.intro; refine ⟨fun _ => ?_, ?_⟩; (focus (intros; first | rfl | (simp only [*]; rfl) | (simp [*]; rfl))); go_big_quiet_on))
              refine wpQuiet_nil ?_
              have HLS := Lib.hid (show StrsAt w3.drew.drew (.slice (some ⟨gl, 0, none⟩) d.last.length lc) d.last ([rd, rf] ++ av) from HS.out.1.mod ((Mod.refl [] w3).drew.drew) (by simp))
              have HII := Lib.hid (show i < d.last.length ∧ d.last.length ≤ 100000 from ⟨HFO.out.1, by have := H.out.fits.n2; omega⟩)
              go_wp2_with fail
              refine Ord.wp_region_late (fun w' => w'.cell? ⟨rd, 1, none⟩ = some (.slice (some ⟨gl, 0, none⟩) d.last.length lc) ∧ w'.cell? ⟨rd, 3, none⟩ = some (.slice (some ⟨g1, 0, none⟩) 1 e1) ∧ w'.cell? ⟨g1, 0, none⟩ = some (.int .i64 i)) [16] [([0, 1, 2, 3, 4, 5, 6, 7, 8, 9, 10, 11, 12], 13), ([14, 15], 16)] (by kernel_rfl) (by kernel_rfl) ⟨c1, c3, q1⟩ ?_
              refine Ord.wpOrdL_seg [_, _, _, _, _, _, _, _, _, _, _, _, _] _ _ rfl rfl rfl ?_
              simp only [List.getElem_toArray, List.getElem_cons_zero, List.getElem_cons_succ]
              repeat first | go_big_quiet_skip | (go_big_quiet_want; go_big_quiet_op; first | go_big_quiet_on | (apply Exists.intro; refine ⟨fun _ => ?_, ?_⟩; (focus (intros; first | rfl | (simp only [*]; rfl) | (simp [*]; rfl))); go_big_quiet_on))
              refine wpQuiet_nil ?_
              go_wp2_with fail
              (with_reducible refine (rset_str _ d.last _ i _ _ HLS.out HII.out.1 HII.out.2).mono ?_); rintro _ w4 ⟨v4, rfl, hm4, hv4⟩
              have hs4 := hv4 ([rd, rf] ++ av) (by
                have h1 := H.out.lts
                intro x hx
                simp only [List.cons_append, List.nil_append, List.mem_cons] at hx
                show x < w3.heap.size
                rcases hx with e | e | e
                · rw [e]; exact h1.1
                · rw [e]; exact h1.2
                · exact HAV.out x e)
              obtain ⟨ya, yn, yc, rfl⟩ := hs4.sl
              have x1 := hm4.cell (a := ⟨rd, 1, none⟩) c1 (by simp)
              have x3 := hm4.cell (a := ⟨rd, 3, none⟩) c3 (by simp)
              have y1 := hm4.cell (a := ⟨g1, 0, none⟩) q1 (by simp)
              have hb4 := HB.out.mod ((Mod.refl [] w3).drew.drew.trans hm4) (by simp)
              have z4 := hb4.free 1
              have HB4 := Lib.hid hb4
              have HS4 := Lib.hid hs4
              have HM4 := Lib.hid ((Mod.refl [] w3).drew.drew.trans hm4)
              clear hv4 hb4 hs4 hm4
              go_wp2_with fail
              refine ⟨Ord.Need.yes ⟨x1, x3, y1⟩, ?_⟩
              clear c0 c1 c2 c3 c4 c5 fz q1 q2
              refine Ord.wpOrdL_seg [_, _] _ _ rfl rfl rfl ?_
              simp only [List.getElem_toArray, List.getElem_cons_zero, List.getElem_cons_succ]
              repeat first | go_big_quiet_skip | (go_big_quiet_want; go_big_quiet_op; first | go_big_quiet_on | (apply Exists.intro; refine ⟨fun _ => ?_, ?_⟩; (focus (intros; first | rfl | (simp only [*]; rfl) | (simp [*]; rfl))); go_big_quiet_on))
              refine wpQuiet_nil ?_
              go_wp2_with fail
              refine ⟨Ord.Need.no, ?_⟩
              refine Ord.wpOrdL_nil ?_
              have hmixed : (b.extract 0 ct ++ old.extract ct old.size) = D.mix d.size torn.toNat b (sect d.last i) := by unfold D.mix; rw [← HCT.out.1, ← HCT.out.2.2.1]
              have HMX := Lib.hid hmixed
              clear hmixed hcb hco hli hbs hos2 hz1 hz2
              go_wp2
              go_roundw
              case rel =>
                refine .inr ⟨rfl, ya, yn, yc, HB4.out.set 1 _, ?_, (HM4.out.mono (by simp)).setCell (by simp) _⟩
                rw [← HMX.out]
                exact HS4.out.mod ((Mod.refl [rd] w4).setCell (by simp) _) (by intro x hx; left; simp at hx ⊢; simp [hx])
              case measure => simp [intOf]
            · clear c0 c1 c2 c3 c4 c5 fz q1 q2 HB
              have HM2 := Lib.hid hm2
              have HSL := Lib.hid hs2
              have HBR := Lib.hid hb2
              have hfr := HFR.out.mod hm2 (by simp; exact fun e => H.out.ne e.symm)
              have HFR2 := Lib.hid hfr
              have HD := Lib.hid (show d.crash keep torn.toNat = { size := d.size, last := d.last.set i (D.mix d.size torn.toNat b (sect d.last i)), opn := none, fuse := d.fuse.reset } by
                unfold D.crash; rw [HOP.out]
                simp only
                rw [if_pos HODD.out])
              have HMR := Lib.hid (hm2.mono (S' := [rd, rf]) (by simp))
              clear hb2 hs2 hm2 hfr
              -- wr: a disk in which 'last' is done: HBR : Blk wr rd [size, .slice la2 ln2 lc2, vn, vi, vb, ptr rf], HFR : FuseR wr rf d.fuse
              obtain ⟨k0, k1, k2, k3, k4, k5, kz⟩ := HBR.out.cells6
              go_wp2_with fail
              have m2 : Mod [rd] wr (((wr.setCell ⟨rd, 2, none⟩ (.slice la2 ln2 lc2)).setCell ⟨rd, 3, none⟩ (.slice none 0 0)).setCell ⟨rd, 4, none⟩ (.slice none 0 0)) := (((Mod.refl [rd] wr).setCell (p := ⟨rd, 2, none⟩) (by simp) _).setCell (p := ⟨rd, 3, none⟩) (by simp) _).setCell (p := ⟨rd, 4, none⟩) (by simp) _
              have M2 := Lib.hid m2
              have HB9 := Lib.hid (((HBR.out.set 2 (.slice la2 ln2 lc2)).set 3 (.slice none 0 0)).set 4 (.slice none 0 0))
              have HFX := Lib.hid (HFR2.out.mod m2 (by simp; exact fun e => H.out.ne e.symm))
              (with_reducible refine (rreset_any rf d.fuse _ HFX.out).mono ?_); rintro _ w9 ⟨rfl, hf9, hm9⟩
              have HF9 := Lib.hid hf9
              have HM9 := Lib.hid hm9
              clear m2 hf9 hm9 k0 k1 k2 k3 k4 k5 kz
              go_wp2
              go_end0
              have mm : Mod [rd, rf] wr w9 := (M2.out.mono (by simp)).trans (HM9.out.mono (by simp))
              have hs9 := HSL.out.mod mm (by intro x hx; left; simp at hx ⊢; rcases hx with e | e <;> simp [e])
              have hb9 := HB9.out.mod HM9.out (by simp; exact H.out.ne)
              refine ⟨rfl, ?_, HMR.out.trans mm⟩
              rw [HD.out]
              refine ⟨⟨.slice la2 ln2 lc2, .slice la2 ln2 lc2, .slice none 0 0, .slice none 0 0, hb9, hs9, hs9, rfl, rfl⟩, HF9.out, H.out.ne, H.out.out, ?_⟩
              rw [← HD.out]
              exact HFIT.out
    · have hbit : ((keep : Int) % 2 == 1) = false := by simp; omega
      have HODD := Lib.hid hodd
      clear hodd q1 q2
      go_enter Try.func28, Try.ntmps28
      go_wp2
      go_loopw [6, 7, 8] (fun v k y wr => wr = w ∧ v = .int .i64 (-1) ∧ ((y = .int .i64 0 ∧ k = .int .u64 keep) ∨ y = .int .i64 1)) (fun _ _ y _ => 1 - (intOf y).toNat)
      case atStart => exact ⟨rfl, rfl, .inl ⟨rfl, rfl⟩⟩
      case round =>
        obtain ⟨rfl, rfl, hrel⟩ := hrel
        rcases hrel with ⟨rfl, rfl⟩ | rfl
        · go_wp2
          go_roundw
          case rel => exact ⟨trivial, rfl, .inr rfl⟩
          case measure => simp [intOf]
        · go_wp2
          go_loopw [7, 9] (fun k y w2 => wr = w2 ∧ ((y = .int .i64 0 ∧ k = .int .u64 keep) ∨ y = .int .i64 1)) (fun _ y _ => 1 - (intOf y).toNat)
          case atStart => exact ⟨rfl, .inl ⟨rfl, rfl⟩⟩
          case round =>
            obtain ⟨rfl, hrel⟩ := hrel
            rcases hrel with ⟨rfl, rfl⟩ | rfl
            · go_wp2
              go_roundw
              case rel => exact ⟨trivial, .inr rfl⟩
              case measure => simp [intOf]
            · have HSL := Lib.hid HS.out.1
              have HD := Lib.hid (show d.crash keep torn.toNat = { size := d.size, last := d.last, opn := none, fuse := d.fuse.reset } by
                unfold D.crash; rw [HOP.out]
                simp only
                rw [if_neg HODD.out])
              have HMR := Lib.hid (Mod.refl [rd, rf] wr)
              have HBR := HB
              clear c0 c1 c2 c3 c4 c5 fz
              -- wr: a disk in which 'last' is done: HBR : Blk wr rd [size, .slice la ln lc, vn, vi, vb, ptr rf], HFR : FuseR wr rf d.fuse
              obtain ⟨k0, k1, k2, k3, k4, k5, kz⟩ := HBR.out.cells6
              go_wp2_with fail
              have m2 : Mod [rd] wr (((wr.setCell ⟨rd, 2, none⟩ (.slice la ln lc)).setCell ⟨rd, 3, none⟩ (.slice none 0 0)).setCell ⟨rd, 4, none⟩ (.slice none 0 0)) := (((Mod.refl [rd] wr).setCell (p := ⟨rd, 2, none⟩) (by simp) _).setCell (p := ⟨rd, 3, none⟩) (by simp) _).setCell (p := ⟨rd, 4, none⟩) (by simp) _
              have M2 := Lib.hid m2
              have HB9 := Lib.hid (((HBR.out.set 2 (.slice la ln lc)).set 3 (.slice none 0 0)).set 4 (.slice none 0 0))
              have HFX := Lib.hid (HFR.out.mod m2 (by simp; exact fun e => H.out.ne e.symm))
              (with_reducible refine (rreset_any rf d.fuse _ HFX.out).mono ?_); rintro _ w9 ⟨rfl, hf9, hm9⟩
              have HF9 := Lib.hid hf9
              have HM9 := Lib.hid hm9
              clear m2 hf9 hm9 k0 k1 k2 k3 k4 k5 kz
              go_wp2
              go_end0
              have mm : Mod [rd, rf] wr w9 := (M2.out.mono (by simp)).trans (HM9.out.mono (by simp))
              have hs9 := HSL.out.mod mm (by intro x hx; left; simp at hx ⊢; rcases hx with e | e <;> simp [e])
              have hb9 := HB9.out.mod HM9.out (by simp; exact H.out.ne)
              refine ⟨rfl, ?_, HMR.out.trans mm⟩
              rw [HD.out]
              refine ⟨⟨.slice la ln lc, .slice la ln lc, .slice none 0 0, .slice none 0 0, hb9, hs9, hs9, rfl, rfl⟩, HF9.out, H.out.ne, H.out.out, ?_⟩
              rw [← HD.out]
              exact HFIT.out
end Go.Proofs.Yteidhbjfmmodhaa
