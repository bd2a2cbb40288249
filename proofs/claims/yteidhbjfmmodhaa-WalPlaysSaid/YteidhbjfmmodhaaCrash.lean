/- The walk over a crash of the disk. -/
import Derived.Test.YteidhbjfmmodhaaWal4
import Derived.Laws.Bits64b
namespace Go.Proofs.Yteidhbjfmmodhaa
open Go.RowKit Crc Fr

theorem DiskI.fused {w w1 : World} {bd bs bf : Nat} {d : D} {av : List Nat} {f : F} (h : DiskI w bd bs bf d av) (hf : FuseI w1 bf f) (hm : Mod [bf] w w1) : DiskI w1 bd bs bf { d with fuse := f } av := by
  obtain ⟨⟨os, h1, h2⟩, h3, h4, h5, h6, h7⟩ := h
  exact ⟨⟨os, h1.mod hm (by simp; exact h5.2.1), h2.mod hm (by simp)⟩, h3.mod hm (by simp; exact h5.2.2), hf, h5, h6, ⟨h7.s1, h7.s2, h7.n1, h7.n2, h7.each, h7.opn⟩⟩
theorem keep_bit (keep : Nat) (hk : keep ≤ 18446744073709551615) : bits .and .u64 (keep : Int) 1 = ((keep % 2 : Nat) : Int) := by
  have := bits_and_u64_nat keep 1 (by omega) (by omega)
  rw [Nat.and_one_is_mod] at this
  exact this

theorem two_new_at (w : World) (x y : Value) (e : TypeId) (n : Nat) (hn : w.heap.size = n) : ∀ (j : Nat) (u : Value), [x, y][j]? = some u → (w.alloc (.cells #[x, y] e)).cell? ((⟨n, 0, none⟩ : Addr).add j) = some u := by
  subst hn; exact two_new w x y e


set_option maxRecDepth 100000 in
set_option maxHeartbeats 4000000 in
theorem crash_any (bd bs bf : Nat) (d : D) (av : List Nat) (keep : Nat) (torn : Int) (w : World) (h : DiskI w bd bs bf d av) (hav : ∀ x ∈ av, x < w.heap.size) (hk : keep ≤ 18446744073709551615) :
    Calls Try.prog 27 #[ptr bd, .int .u64 keep, .int .i64 torn] w fun e w' => e = .returned (.tuple #[]) ∧ DiskI w' bd bs bf (d.crash keep torn.toNat) av ∧ Mod [bd, bs, bf] w w' := by
  obtain ⟨os, c0, c1, c2, c3, fz, ho⟩ := h.cells
  have HI := Lib.hid h
  have HAV := Lib.hid hav
  have HBIT := Lib.hid (keep_bit keep hk)
  clear hav hk
  cases hop : d.opn with
  | none =>
    rw [hop] at ho
    obtain rfl := ho
    have HOP := Lib.hid hop
    have HWR := Lib.hid (show WritesAt w (.slice none 0 0) none from ⟨none, 0, rfl⟩)
    clear h hop
    go_enter Try.func27, Try.ntmps27
    go_wp2
    go_loop [6, 17] (fun v i => i = .int .i64 0 ∧ v = .slice none 0 0) (fun _ _ => 0)
    case atStart => exact ⟨rfl, rfl⟩
    case round =>
      obtain ⟨rfl, rfl⟩ := hrel
      go_wp2_with fail
      (with_reducible refine (last_any bd bs bf d av _ none _ HI.out HWR.out (by intro i b e; cases e)).mono ?_); rintro _ w1 ⟨rfl, hd1, hm1⟩
      clear c0 c1 c2 c3 fz
      have HD1 := Lib.hid hd1
      have HM1 := Lib.hid hm1
      obtain ⟨os1, k0, k1, k2, k3, kz, ho1⟩ := hd1.cells
      clear hd1 hm1 k0 k1 k2 ho1
      go_wp2_with fail
      (with_reducible refine (reset_any bf _ _ HD1.out.fuse).mono ?_); rintro _ w9 ⟨rfl, hf9, hm9⟩
      have HD9 := Lib.hid (HD1.out.fused hf9 hm9)
      have HM9 := Lib.hid hm9
      clear hf9 hm9
      go_wp2
      go_end0
      refine ⟨rfl, ?_, (HM1.out.mono (by simp)).trans (HM9.out.mono (by simp))⟩
      have : d.crash keep torn.toNat = { d with last := d.last, opn := none, fuse := d.fuse.reset } := by unfold D.crash; rw [HOP.out]
      rw [this]
      exact HD9.out
  | some p =>
    obtain ⟨i, b⟩ := p
    rw [hop] at ho
    obtain ⟨bo, cap, rfl, hcap, q0, q1, hbo⟩ := ho
    have HOP := Lib.hid hop
    have HBO := Lib.hid (And.intro hcap (And.intro q0 (And.intro q1 hbo)))
    have HFO := Lib.hid (h.fits.opn i b hop)
    clear h hop hbo
    by_cases hodd : keep % 2 = 1
    · have HODD := Lib.hid hodd
      have hbit : (bits .and .u64 (keep : Int) 1 == 1) = true := by rw [HBIT.out, hodd]; rfl
      clear hodd
      obtain ⟨i0, hinf, hz0, hz1, hz2⟩ := info_parts info_write
      have HN := Lib.hid (And.intro hinf (And.intro hz0 (And.intro hz1 hz2)))
      clear hinf hz0 hz1 hz2
      go_enter Try.func27, Try.ntmps27
      go_wp2
      go_loopw [6, 17] (fun v y wr => (y = .int .i64 0 ∧ v = .slice none 0 0 ∧ wr = w) ∨ (y = .int .i64 1 ∧ ∃ g c, v = .slice (some ⟨g, 0, none⟩) 1 c ∧ 1 ≤ c ∧ w.heap.size ≤ g ∧ wr.cell? ⟨g, 0, none⟩ = some (.int .i64 i) ∧ wr.cell? ⟨g, 1, none⟩ = some (.string b) ∧ Mod [] w wr)) (fun _ y _ => 1 - (intOf y).toNat)
      case atStart => exact .inl ⟨rfl, rfl, rfl⟩
      case round =>
        rcases hrel with ⟨rfl, rfl, rfl⟩ | ⟨rfl, g, cg, rfl, hcg, hg, q2, q3, hm⟩
        · go_wp2_with (at_builtin; refine wpList_append_own _ rfl (.tmp 28) (.tmp 30) 59 rfl wr.heap.size 82 i0 (.agg #[.int .i64 0, .string ⟨#[]⟩]) 2 24 Try.underlying59 HN.out.1 HN.out.2.1 HN.out.2.2.1 HN.out.2.2.2 rfl (by decide) _ 0 [] rfl ⟨rfl, .inl ⟨rfl, rfl⟩⟩ ⟨wr.heap.size + 1, 0, none⟩ 1 1 [.int .i64 i, .string b] rfl rfl (two_new_at _ _ _ _ _ (by simp)) (by intro u hu; simp at hu; rcases hu with rfl | rfl <;> rfl) (by simp [maxLen]) (by omega) (by simp; omega) ?_)
          intro v' w2 hown hg2 _
          obtain ⟨g, cg, rfl, hcg, hg, q2, q3⟩ := open_of_own hown
          have HM2 := Lib.hid (show Mod [] wr w2 from (((Mod.refl [] wr).alloc _).alloc _).grown hg2 (by intro k hk; cases hk))
          have HQ := Lib.hid (And.intro hcg (And.intro hg (And.intro q2 q3)))
          clear hown hg2 hcg hg q2 q3
          go_wp2
          go_roundw
          case rel => exact .inr ⟨rfl, g, cg, rfl, HQ.out.1, HQ.out.2.1, HQ.out.2.2.1, HQ.out.2.2.2, HM2.out⟩
          case measure => simp [intOf]
        · have HD2 := Lib.hid ((HI.out.same hm).same ((Mod.refl [] wr).alloc (.cells #[.int .i64 i, .string b] 82)))
          have HMR := Lib.hid hm
          have HWR := Lib.hid (show WritesAt (wr.alloc (.cells #[.int .i64 i, .string b] 82)) (.slice (some ⟨g, 0, none⟩) 0 cg) none from ⟨some ⟨g, 0, none⟩, cg, rfl⟩)
          have HBOX := Lib.hid (Blk.new wr [.int .i64 i, .string b] 82)
          have HNB := Lib.hid (show wr.heap.size ∉ [bd, bs] from fun hx => by
            have h1 := HI.out.lts
            have h2 := hm.size
            simp at hx
            omega)
          clear hm c0 c1 c2 c3 fz q0 q1
          go_wp2_with fail
          (with_reducible refine (last_any bd bs bf d av _ none _ HD2.out HWR.out (by intro i b e; cases e)).mono ?_); rintro _ w2 ⟨rfl, hd2, hm2⟩
          obtain ⟨os2, k0, k1, k2, k3, kz, ho2⟩ := hd2.cells
          have hbx := HBOX.out.mod hm2 HNB.out
          have x0 := hbx.cell 0
          have x1 := hbx.cell 1
          simp only [List.getElem?_cons_zero, List.getElem?_cons_succ] at x0 x1
          have hs2 := secs_cell hd2.secs i HFO.out.1
          obtain ⟨bx, hbx0⟩ : ∃ bx, bx = wr.heap.size := ⟨_, rfl⟩
          rw [← hbx0] at x0 x1 ⊢
          have HBX0 := Lib.hid hbx0
          clear hbx0
          obtain ⟨ct, hct⟩ : ∃ ct : Nat, ct = min torn.toNat d.size := ⟨_, rfl⟩
          have hctd : min (max torn 0) (d.size : Int) = (ct : Int) := by omega
          obtain ⟨old, hold⟩ : ∃ old, old = sect d.last i := ⟨_, rfl⟩
          have hos : old.size = d.size := by rw [hold]; exact HI.out.fits.each _ (sect_mem HFO.out.1)
          have hs3 : w2.cell? ⟨bs, i, none⟩ = some (.string old) := by rw [hold]; exact hs2
          have hcb : ct ≤ b.size := by rw [HFO.out.2]; omega
          have hco : ct ≤ old.size := by omega
          have hil : i < d.last.length := HFO.out.1
          have HD3 := Lib.hid hd2
          have HM3 := Lib.hid hm2
          have HX := Lib.hid (And.intro x0 x1)
          have HSX := Lib.hid hs3
          have HCT := Lib.hid (And.intro hct (And.intro hctd (And.intro hold (And.intro hos (And.intro hcb hco)))))
          have k1' : w2.cell? ⟨bd, 1, none⟩ = some (.slice (some ⟨bs, 0, none⟩) d.last.length d.last.length) := k1
          have K1 := Lib.hid k1'
          clear hd2 hm2 ho2 hbx hs2 k2 k3 kz x0 x1 hct hctd hold hos hcb hco k1 k1' hs3
          go_wp2_with fail
          rw [HCT.out.2.1]
          have x0 := HX.out.1
          have x1 := HX.out.2
          have y1 := K1.out
          have z1 := HSX.out
          have hcb : ct ≤ b.size := HCT.out.2.2.2.2.1
          have hco : ct ≤ old.size := HCT.out.2.2.2.2.2
          have hli : (i : Int) < (d.last.length : Int) := by omega
          have hbs : b.size ≤ 1024 := by rw [HFO.out.2]; exact HI.out.fits.s2
          have hos2 : old.size ≤ 1024 := by rw [HCT.out.2.2.2.1]; exact HI.out.fits.s2
          have hz1 : (b.extract 0 ct).size = ct := by rw [ByteArray.size_extract]; omega
          have hz2 : (old.extract ct old.size).size = old.size - ct := by rw [ByteArray.size_extract]; omega
          refine Ord.wp_region_ord (fun w' => w'.cell? ⟨bx, 0, none⟩ = some (.int .i64 i) ∧ w'.cell? ⟨bx, 1, none⟩ = some (.string b) ∧ w'.cell? ⟨bd, 1, none⟩ = some (.slice (some ⟨bs, 0, none⟩) d.last.length d.last.length) ∧ w'.cell? ⟨bs, i, none⟩ = some (.string old)) [([0, 1, 2, 3, 4, 5, 6, 7, 8, 9, 10, 11, 12, 13, 14, 15, 16, 17], 18)] [19] (by kernel_rfl) (by kernel_rfl) ⟨x0, x1, y1, z1⟩ ?_
          refine Ord.wpOrd_seg [_, _, _, _, _, _, _, _, _, _, _, _, _, _, _, _, _, _] _ rfl rfl ?_
          simp only [List.getElem_toArray, List.getElem_cons_zero, List.getElem_cons_succ]
          repeat first | go_big_quiet_skip | (go_big_quiet_want; go_big_quiet_op; first | go_big_quiet_on | (apply Exists.intro; refine ⟨fun _ => ?_, ?_⟩; (focus (intros; first | rfl | (simp only [*]; rfl) | (simp [*]; rfl))); go_big_quiet_on))
          refine wpQuiet_nil ?_
          go_wp2_with fail
          have mx : Mod [] w2 (w2.alloc (.cells #[.int .i64 i, .string (b.extract 0 ct ++ old.extract ct old.size)] 82)).drew := ((Mod.refl [] w2).alloc _).drew
          have MX := Lib.hid mx
          refine ⟨⟨mx.cell x0 (by simp), mx.cell x1 (by simp), mx.cell y1 (by simp), mx.cell z1 (by simp)⟩, ?_⟩
          clear mx
          refine Ord.wpOrd_last [_] rfl ?_
          simp only [List.getElem_toArray, List.getElem_cons_zero, List.getElem_cons_succ]
          repeat first | go_big_quiet_skip | (go_big_quiet_want; go_big_quiet_op; first | go_big_quiet_on | (apply Exists.intro; refine ⟨fun _ => ?_, ?_⟩; (focus (intros; first | rfl | (simp only [*]; rfl) | (simp [*]; rfl))); go_big_quiet_on))
          refine wpQuiet_nil ?_
          have hmix : (b.extract 0 ct ++ old.extract ct old.size) = D.mix d.size torn.toNat b old := by unfold D.mix; rw [HCT.out.1]
          have HMIX := Lib.hid hmix
          have hwr2 : WritesAt (w2.alloc (.cells #[.int .i64 i, .string (b.extract 0 ct ++ old.extract ct old.size)] 82)).drew (.slice (some ⟨w2.heap.size, 0, none⟩) 1 1) (some (i, b.extract 0 ct ++ old.extract ct old.size)) :=
            ⟨w2.heap.size, 1, rfl, two_new w2 (.int .i64 i) (.string (b.extract 0 ct ++ old.extract ct old.size)) 82 0 _ rfl, two_new w2 (.int .i64 i) (.string (b.extract 0 ct ++ old.extract ct old.size)) 82 1 _ rfl⟩
          have HWR2 := Lib.hid hwr2
          have HFIT := Lib.hid (show ∀ j c, (some (i, b.extract 0 ct ++ old.extract ct old.size) : Option (Nat × ByteArray)) = some (j, c) → j < ({ d with last := ap d.last none, opn := none } : D).last.length ∧ c.size = ({ d with last := ap d.last none, opn := none } : D).size from by
            intro j c e
            cases e
            refine ⟨HFO.out.1, ?_⟩
            show (b.extract 0 ct ++ old.extract ct old.size).size = d.size
            rw [hmix]
            exact D.mix_size _ _ _ _ HFO.out.2 HCT.out.2.2.2.1)
          have HD4 := Lib.hid (HD3.out.same MX.out)
          clear x0 x1 y1 z1 hcb hco hli hbs hos2 hz1 hz2 hmix hwr2
          go_wp2_with fail
          (with_reducible refine (last_any bd bs bf _ av _ (some (i, b.extract 0 ct ++ old.extract ct old.size)) _ HD4.out HWR2.out HFIT.out).mono ?_); rintro _ w3 ⟨rfl, hd1, hm1⟩
          have HD1 := Lib.hid hd1
          have HM1 := Lib.hid hm1
          obtain ⟨os1, k0, k1, k2, k3, kz, ho1⟩ := hd1.cells
          clear hd1 hm1 k0 k1 k2 ho1
          go_wp2_with fail
          (with_reducible refine (reset_any bf _ _ HD1.out.fuse).mono ?_); rintro _ w9 ⟨rfl, hf9, hm9⟩
          have HD9 := Lib.hid (HD1.out.fused hf9 hm9)
          have HM9 := Lib.hid hm9
          clear hf9 hm9
          go_wp2
          go_end0
          have ma : Mod [bd, bs, bf] w w2 := (HMR.out.mono (by simp)).trans (((Mod.refl [] wr).alloc _).mono (by simp) |>.trans (HM3.out.mono (by simp)))
          refine ⟨rfl, ?_, ma.trans ((MX.out.mono (by simp)).trans ((HM1.out.mono (by simp)).trans (HM9.out.mono (by simp))))⟩
          have : d.crash keep torn.toNat = { size := d.size, last := d.last.set i (b.extract 0 ct ++ old.extract ct old.size), opn := none, fuse := d.fuse.reset } := by
            unfold D.crash; rw [HOP.out]
            simp only
            rw [if_pos HODD.out, HMIX.out, HCT.out.2.2.1]
          rw [this]
          exact HD9.out
    · have HODD := Lib.hid hodd
      have hbit : (bits .and .u64 (keep : Int) 1 == 1) = false := by rw [HBIT.out]; simp; omega
      clear hodd
      go_enter Try.func27, Try.ntmps27
      go_wp2
      go_loopw [6, 17] (fun v y wr => v = .slice none 0 0 ∧ ((y = .int .i64 0 ∧ wr = w) ∨ (y = .int .i64 1 ∧ Mod [] w wr))) (fun _ y _ => 1 - (intOf y).toNat)
      case atStart => exact ⟨rfl, .inl ⟨rfl, rfl⟩⟩
      case round =>
        obtain ⟨rfl, hrel⟩ := hrel
        rcases hrel with ⟨rfl, rfl⟩ | ⟨rfl, hm⟩
        · go_wp2
          go_roundw
          case rel => exact ⟨rfl, .inr ⟨rfl, (Mod.refl [] _).alloc _⟩⟩
          case measure => simp [intOf]
        · have HD2 := Lib.hid (HI.out.same hm)
          have HMR := Lib.hid hm
          have HWR := Lib.hid (show WritesAt wr (.slice none 0 0) none from ⟨none, 0, rfl⟩)
          clear hm c0 c1 c2 c3 fz q0 q1
          go_wp2_with fail
          (with_reducible refine (last_any bd bs bf d av _ none _ HD2.out HWR.out (by intro i b e; cases e)).mono ?_); rintro _ w1 ⟨rfl, hd1, hm1⟩
          have HD1 := Lib.hid hd1
          have HM1 := Lib.hid hm1
          obtain ⟨os1, k0, k1, k2, k3, kz, ho1⟩ := hd1.cells
          clear hd1 hm1 k0 k1 k2 ho1
          go_wp2_with fail
          (with_reducible refine (reset_any bf _ _ HD1.out.fuse).mono ?_); rintro _ w9 ⟨rfl, hf9, hm9⟩
          have HD9 := Lib.hid (HD1.out.fused hf9 hm9)
          have HM9 := Lib.hid hm9
          clear hf9 hm9
          go_wp2
          go_end0
          refine ⟨rfl, ?_, (HMR.out.mono (by simp)).trans ((HM1.out.mono (by simp)).trans (HM9.out.mono (by simp)))⟩
          have : d.crash keep torn.toNat = { d with last := d.last, opn := none, fuse := d.fuse.reset } := by
            unfold D.crash; rw [HOP.out]
            simp only
            rw [if_neg HODD.out]
          rw [this]
          exact HD9.out
end Go.Proofs.Yteidhbjfmmodhaa
