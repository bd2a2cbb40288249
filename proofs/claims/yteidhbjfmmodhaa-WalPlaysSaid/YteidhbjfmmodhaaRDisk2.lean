/- The walks over the reference's disk: a new one, and a crash. -/
import Derived.Test.YteidhbjfmmodhaaRDisk
namespace Go.Proofs.Yteidhbjfmmodhaa
open Go.RowKit Crc Fr

/-- Two rows in two blocks. -/
def DJ (a b : Value) : Prop := ∀ g, a.ownBlock = some g → b.ownBlock ≠ some g
theorem DJ.kept {a b : Value} (h : DJ a b) : b.ownBlock = none ∨ b.ownBlock ≠ a.ownBlock := by
  cases hb : b.ownBlock with
  | none => exact .inl rfl
  | some g => exact .inr (fun e => h g e.symm hb)
theorem DJ.symm {a b : Value} (h : DJ a b) : DJ b a := fun g h1 h2 => h g h2 h1

set_option maxRecDepth 100000 in
set_option maxHeartbeats 4000000 in
theorem rdnew_any (size n : Int) (rf : Nat) (f : F) (av : List Nat) (w : World) (hf : FuseR w rf f) (hav : ∀ x ∈ av, x < w.heap.size) (hrfa : rf ∉ av) :
    Calls Try.prog 21 #[.int .i64 size, .int .i64 n, ptr rf] w fun e w' => ∃ rd, e = .returned (ptr rd) ∧ w.heap.size ≤ rd ∧ DiskR w' rd rf (dNew size n f) av ∧ Mod [] w w' := by
  have HAV := Lib.hid (And.intro hav hrfa)
  clear hav hrfa
  have hfit := dNew_fits size n f
  have HFT := Lib.hid hfit
  have HF := Lib.hid hf
  clear hf hfit
  obtain ⟨s, hs⟩ : ∃ s : Nat, s = sizeOfI size := ⟨_, rfl⟩
  obtain ⟨k, hk⟩ : ∃ k : Nat, k = lenOfI n := ⟨_, rfl⟩
  have HS := Lib.hid (show min (max size 128) 1024 = (s : Int) by rw [hs]; unfold sizeOfI; omega)
  have HK := Lib.hid (show min (max n 4) 1024 = (k : Int) by rw [hk]; unfold lenOfI; omega)
  have HS2 := Lib.hid (show s ≤ 1024 by rw [hs]; unfold sizeOfI; omega)
  have hk1 : k ≤ 1024 := by rw [hk]; unfold lenOfI; omega
  have HE := Lib.hid (And.intro hs hk)
  have hmk := Lib.hid (fun W : World => run_make_row' (P := Try.prog) 77 5 (.int .u8 0) 1 Try.underlying77 info_u8 rfl .i64 .i64 s (by have := HS2.out; omega) (by have := HS2.out; omega) W)
  have HK2 := Lib.hid hk1
  clear hs hk hk1
  go_enter Try.func21, Try.ntmps21
  go_wp2_with fail
  (with_reducible refine (clamp_any size 128 1024 _ (by omega)).mono ?_); rintro _ w' ⟨rfl, rfl⟩
  rw [HS.out]
  go_wp2_with fail
  obtain ⟨rd, hrd⟩ : ∃ rd, rd = w'.heap.size := ⟨_, rfl⟩
  have hb1 := Blk.new w' [.int .i64 s, .slice none 0 0, .slice none 0 0, .slice none 0 0, .slice none 0 0, ptr rf] 76
  have hm1 : Mod [] w' (w'.alloc (.cells #[.int .i64 s, .slice none 0 0, .slice none 0 0, .slice none 0 0, .slice none 0 0, ptr rf] 76)) := (Mod.refl [] w').alloc _
  obtain ⟨w1, hw1⟩ : ∃ w1, w1 = w'.alloc (.cells #[.int .i64 s, .slice none 0 0, .slice none 0 0, .slice none 0 0, .slice none 0 0, ptr rf] 76) := ⟨_, rfl⟩
  rw [← hw1] at hm1 ⊢
  have hb1 : Blk w1 rd [.int .i64 s, .slice none 0 0, .slice none 0 0, .slice none 0 0, .slice none 0 0, ptr rf] 76 := by rw [hw1, hrd]; exact hb1
  rw [← hrd]
  have hz1 : w1.heap.size = rd + 1 := by rw [hw1, hrd]; simp
  have HB1 := Lib.hid hb1
  have HM1 := Lib.hid hm1
  have HRD := Lib.hid hrd
  have HZ1 := Lib.hid hz1
  clear hb1 hm1 hrd hw1 hz1
  rw [hmk.out]
  go_wp2_with fail
  rw [made_string]
  obtain ⟨w2, hw2⟩ : ∃ w2, w2 = w1.alloc (.cells (madeCells #[.int .u8 0] s) 5) := ⟨_, rfl⟩
  rw [← hw2]
  have hm2 : Mod [] w1 w2 := by rw [hw2]; exact (Mod.refl [] w1).alloc _
  have HM2 := Lib.hid hm2
  have HB2 := Lib.hid (HB1.out.mod hm2 (by simp))
  have HZ2 := Lib.hid (show rd + 1 ≤ w2.heap.size by rw [← HZ1.out]; exact hm2.size)
  clear hw2 hm2 hmk
  go_wp2_with fail
  have hw2s := HM1.out.trans HM2.out
  have HW2 := Lib.hid hw2s
  clear hw2s
  go_loopw [9] (fun i wr => ∃ (j : Nat) (vl vn : Value), i = .int .i64 j ∧ j ≤ k ∧ Blk wr rd [.int .i64 s, vl, vn, .slice none 0 0, .slice none 0 0, ptr rf] 76 ∧
    wr.ownsRow (rd + 1) 9 1 vl j (List.replicate j (.string (zB s))) ∧ wr.ownsRow (rd + 1) 9 1 vn j (List.replicate j (.string (zB s))) ∧ DJ vl vn ∧ Mod [] w' wr) (fun i _ => k - (intOf i).toNat)
  case atStart => exact ⟨0, .slice none 0 0, .slice none 0 0, rfl, Nat.zero_le _, HB2.out, World.ownsRow_nil _ _ _ _, World.ownsRow_nil _ _ _ _, fun g h => by simp [Value.ownBlock] at h, HW2.out⟩
  case round =>
    obtain ⟨j, vl, vn, rfl, hj, hb, hvl, hvn, hdj, hm⟩ := hrel
    go_wp2_with fail
    (with_reducible refine (clamp_any n 4 1024 _ (by omega)).mono ?_); rintro _ w3 ⟨rfl, rfl⟩
    rw [HK.out]
    obtain ⟨a1, c1, hv1⟩ := own_slice hvl
    obtain ⟨a2, c2, hv2⟩ := own_slice hvn
    obtain rfl := hv1
    obtain rfl := hv2
    obtain ⟨k0, k1, k2, k3, k4, k5, kz⟩ := hb.cells6
    have HB := Lib.hid hb
    have HVL := Lib.hid hvl
    have HVN := Lib.hid hvn
    have HDJ := Lib.hid hdj
    have HM := Lib.hid hm
    by_cases hlt : j < k
    · have hltb : rd < w3.heap.size := hb.lt
      have HLTB := Lib.hid hltb
      have HLT := Lib.hid hlt
      have HML := Lib.hid (show j + 1 ≤ maxLen by have := HK2.out; unfold maxLen; omega)
      have HCL := Lib.hid (show (j + 1) * 16 ≤ 140737488355328 by have := HK2.out; omega)
      have HWK := Lib.hid (show wrap64 ((j : Int) + 1) = ((j + 1 : Nat) : Int) by have := HK2.out; rw [IntWalk.wrap64_in _ (by omega)]; omega)
      obtain ⟨s0, sinf, sz0, sz1, sz2⟩ := info_parts info_str
      have HI0 := Lib.hid (And.intro sinf (And.intro sz0 (And.intro sz1 sz2)))
      clear hb hvl hvn hdj hm sinf sz0 sz1 sz2 k0 k3 k4 k5
      go_wp2_with (at_builtin; refine wpList_append_own_at _ rfl (.tmp 31) (.tmp 33) 31 rfl (rd + 1) 9 s0 (.string ⟨#[]⟩) 1 16 Try.underlying31 HI0.out.1 HI0.out.2.1 HI0.out.2.2.1 HI0.out.2.2.2 rfl (by decide) _ j (List.replicate j (.string (zB s))) rfl (HVL.out.alloc _) ⟨w3.heap.size, 0, none⟩ 1 1 [.string (zB s)] rfl rfl (one_new _ _ _) (by intro u hu; simp at hu; subst hu; rfl) HML.out HCL.out (by simp; omega) ?_)
      intro v3 w4 hown3 hg3 _ hblk3
      rw [show List.replicate j (Value.string (zB s)) ++ [Value.string (zB s)] = List.replicate (j + 1) (.string (zB s)) from (List.replicate_succ' ..).symm] at hown3
      have hm4 : Mod [] w' w4 := (HM.out.alloc _).grown hg3 (fun q hq => by have := (HVL.out.lt q hq).1; have := HRD.out; omega)
      have hb4 : Blk w4 rd [.int .i64 s, .slice a1 j c1, .slice a2 j c2, .slice none 0 0, .slice none 0 0, ptr rf] 76 := by
        have hbb := HB.out.alloc (.cells #[.string (zB s)] 9)
        refine (show w4.heap[rd]? = _ from ?_)
        rw [hg3.block rd (by simp; have := HLTB.out; omega) (fun e => by have := (HVL.out.lt rd e.symm).1; omega)]
        exact hbb
      have hvn4 : w4.ownsRow (rd + 1) 9 1 (.slice a2 j c2) j (List.replicate j (.string (zB s))) := (HVN.out.alloc _).kept hg3 HDJ.out.kept
      have hdj4 : DJ v3 (.slice a2 j c2) := by
        intro g h1 h2
        rcases hblk3 with e | e
        · exact HDJ.out g (e ▸ h1) h2
        · rw [e] at h1
          have := (HVN.out.lt g h2).2
          simp at h1
          omega
      obtain ⟨a3, c3, hv3⟩ := own_slice hown3
      obtain rfl := hv3
      obtain ⟨k0, k1, k2, k3, k4, k5, kz4⟩ := hb4.cells6
      have hlt4 : rd < w4.heap.size := hb4.lt
      have HB4 := Lib.hid hb4
      have HV3 := Lib.hid hown3
      have HVN4 := Lib.hid hvn4
      have HDJ4 := Lib.hid hdj4
      have HM4 := Lib.hid hm4
      have HLT4 := Lib.hid hlt4
      clear hown3 hg3 hblk3 hm4 hb4 hvn4 hdj4 k0 k3 k4 k5 kz
      go_wp2_with (at_builtin; refine wpList_append_own_at _ rfl (.tmp 41) (.tmp 43) 31 rfl (rd + 1) 9 s0 (.string ⟨#[]⟩) 1 16 Try.underlying31 HI0.out.1 HI0.out.2.1 HI0.out.2.2.1 HI0.out.2.2.2 rfl (by decide) _ j (List.replicate j (.string (zB s))) rfl ((ownsRow_setCell_below HVN4.out (by simp) _).alloc _) ⟨w4.heap.size, 0, none⟩ 1 1 [.string (zB s)] rfl rfl (one_new_at _ _ _ _ (by simp)) (by intro u hu; simp at hu; subst hu; rfl) HML.out HCL.out (by simp; have := HLT4.out; omega) ?_)
      intro v5 w5 hown5 hg5 _ hblk5
      rw [show List.replicate j (Value.string (zB s)) ++ [Value.string (zB s)] = List.replicate (j + 1) (.string (zB s)) from (List.replicate_succ' ..).symm] at hown5
      have hmb : Mod [] w' (w4.setCell ⟨rd, 1, none⟩ (.slice a3 (j + 1) c3)) := HM4.out.setNew (p := ⟨rd, 1, none⟩) (by have := HRD.out; simp; omega) _
      have hm5 : Mod [] w' w5 := (hmb.alloc _).grown hg5 (fun q hq => by have := (HVN4.out.lt q hq).1; have := HRD.out; omega)
      have hb5 : Blk w5 rd [.int .i64 s, .slice a3 (j + 1) c3, .slice a2 j c2, .slice none 0 0, .slice none 0 0, ptr rf] 76 := by
        have hbb := (HB4.out.set 1 (.slice a3 (j + 1) c3)).alloc (.cells #[.string (zB s)] 9)
        refine (show w5.heap[rd]? = _ from ?_)
        rw [hg5.block rd (by simp; have := HLT4.out; omega) (fun e => by have := (HVN4.out.lt rd e.symm).1; omega)]
        exact hbb
      have hv5 : w5.ownsRow (rd + 1) 9 1 (.slice a3 (j + 1) c3) (j + 1) (List.replicate (j + 1) (.string (zB s))) := ((ownsRow_setCell_below HV3.out (by simp) _).alloc _).kept hg5 HDJ4.out.symm.kept
      have hdj5 : DJ (.slice a3 (j + 1) c3) v5 := by
        intro g h1 h2
        rcases hblk5 with e | e
        · exact HDJ4.out g h1 (e ▸ h2)
        · rw [e] at h2
          have := (HV3.out.lt g h1).2
          simp at h2
          omega
      obtain ⟨a5, c5, hv6⟩ := own_slice hown5
      obtain rfl := hv6
      obtain ⟨k0, k1, k2, k3, k4, k5, kz⟩ := hb5.cells6
      have HB5 := Lib.hid hb5
      have HV5 := Lib.hid hv5
      have HVN5 := Lib.hid hown5
      have HDJ5 := Lib.hid hdj5
      have HM5 := Lib.hid hm5
      clear hown5 hg5 hblk5 hm5 hb5 hv5 hdj5 k0 k1 k3 k4 k5 hmb kz4
      go_wp2
      go_roundw
      case rel =>
        refine ⟨j + 1, .slice a3 (j + 1) c3, .slice a5 (j + 1) c5, by rw [HWK.out], HLT.out, HB5.out.set 2 _, ownsRow_setCell_below HV5.out (by simp) _, ownsRow_setCell_below HVN5.out (by simp) _, HDJ5.out, HM5.out.setNew (p := ⟨rd, 2, none⟩) (by have := HRD.out; simp; omega) _⟩
      case measure =>
        show k - (intOf (.int .i64 (wrap64 ((j : Int) + 1)))).toNat < k - (intOf (.int .i64 (j : Int))).toNat
        rw [HWK.out]
        simp only [intOf, Int.toNat_natCast]
        exact Nat.sub_lt_sub_left HLT.out (Nat.lt_succ_self j)
    · obtain rfl : j = k := by omega
      clear hb hvl hvn hdj hm hlt k0 k1 k2 k3 k4 k5
      go_wp2
      go_ret
      obtain ⟨e1, e2⟩ := HE.out
      have hrf := HF.out
      have hrfl : rf < w'.heap.size := by obtain ⟨⟨l, hb, _⟩, _⟩ := hrf; exact hb.lt
      have hr0 := HRD.out
      have hstr : ∀ (v : Value), w3.ownsRow (rd + 1) 9 1 v j (List.replicate j (.string (zB s))) → StrsAt w3 v (List.replicate j (zB s)) ([rd, rf] ++ av) := by
        intro v hv
        refine own_strs (base := rd + 1) (e := 9) ?_ ?_
        · simpa using hv
        · intro x hx
          rcases List.mem_append.1 hx with hx | hx
          · simp at hx; omega
          · have := HAV.out.1 x hx; omega
      refine ⟨rd, rfl, by omega, ⟨⟨.slice a1 j c1, .slice a2 j c2, .slice none 0 0, .slice none 0 0, ?_, ?_, ?_, ⟨rfl, rfl⟩⟩, ?_, by omega, ⟨fun hx => by have := HAV.out.1 _ hx; omega, HAV.out.2⟩, HFT.out⟩, HM.out⟩
      · have := HB.out
        simp only [dNew]
        rw [← e1]
        exact this
      · have := hstr _ HVL.out
        simp only [dNew]
        rw [← e1, ← e2]
        exact this
      · have := hstr _ HVN.out
        show StrsAt w3 _ (dNew size n f).last _
        simp only [dNew]
        rw [← e1, ← e2]
        exact this
      · exact hrf.mod HM.out (by simp)
end Go.Proofs.Yteidhbjfmmodhaa
