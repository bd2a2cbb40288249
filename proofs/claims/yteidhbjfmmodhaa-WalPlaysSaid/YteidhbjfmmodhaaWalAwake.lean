/- The walk over the statements' own first function, and over the comparison of lists. -/
import Derived.Test.YteidhbjfmmodhaaWalObj
namespace Go.Proofs.Yteidhbjfmmodhaa
open Go.RowKit Crc Fr

set_option maxHeartbeats 2000000 in
theorem same_any (v1 v2 : Value) (l : List ByteArray) (o1 o2 : List Nat) (w : World) (h1 : StrsAt w v1 l o1) (h2 : StrsAt w v2 l o2) (hl : l.length ≤ 100000) :
    Calls Try.prog 18 #[v1, v2] w fun e w' => e = .returned (.bool true) ∧ Mod [] w w' := by
  have H1 := Lib.hid h1
  have H2 := Lib.hid h2
  obtain ⟨a1, c1, rfl⟩ := h1.slice
  obtain ⟨a2, c2, rfl⟩ := h2.slice
  have HL := Lib.hid hl
  clear h1 h2 hl
  go_enter Try.func18, Try.ntmps18
  go_wp2
  go_loopw [5] (fun i wr => ∃ k : Nat, k ≤ l.length ∧ i = .int .i64 k ∧ Mod [] w wr) (fun i _ => l.length - (intOf i).toNat)
  case atStart => exact ⟨0, Nat.zero_le _, rfl, Mod.refl _ _⟩
  case round =>
    obtain ⟨k, hk, rfl, hm⟩ := hrel
    have HM := Lib.hid hm
    by_cases hlt : k < l.length
    · have h1 := H1.out.mod hm (by simp)
      have h2 := H2.out.mod hm (by simp)
      rcases h1 with ⟨_, e⟩ | ⟨g1, cap1, e1, k1, _⟩
      · rw [e] at hlt; exact absurd hlt (Nat.not_lt_zero _)
      rcases h2 with ⟨_, e⟩ | ⟨g2, cap2, e2, k2, _⟩
      · rw [e] at hlt; exact absurd hlt (Nat.not_lt_zero _)
      have q1 := k1 k hlt
      have q2 := k2 k hlt
      obtain ⟨rfl, rfl⟩ : a1 = some ⟨g1, 0, none⟩ ∧ c1 = cap1 := by simpa using e1
      obtain ⟨rfl, rfl⟩ : a2 = some ⟨g2, 0, none⟩ ∧ c2 = cap2 := by simpa using e2
      obtain ⟨b, hb⟩ : ∃ b, b = l[k] := ⟨_, rfl⟩
      rw [← hb] at q1 q2
      have HWK := Lib.hid (show wrap64 ((k : Int) + 1) = ((k + 1 : Nat) : Int) by have := HL.out; rw [IntWalk.wrap64_in _ (by omega)]; omega)
      have HLT := Lib.hid hlt
      clear k1 k2 hb hm e1 e2
      go_wp2
      refine Ord.wp_region_ord (fun w' => w'.cell? ⟨g1, k, none⟩ = some (.string b) ∧ w'.cell? ⟨g2, k, none⟩ = some (.string b)) [] [0, 1, 2, 3, 4, 5, 6, 7, 8] (by kernel_rfl) (by kernel_rfl) ⟨q1, q2⟩ ?_
      refine Ord.wpOrd_last [_, _, _, _, _, _, _, _, _] rfl ?_
      simp only [List.getElem_toArray, List.getElem_cons_zero, List.getElem_cons_succ]
      repeat first | go_big_quiet_skip | (go_big_quiet_want; go_big_quiet_op; first | go_big_quiet_on | (apply Exists.intro; refine ⟨fun _ => ?_, ?_⟩; (focus (intros; first | rfl | (simp only [*]; rfl) | (simp [*]; rfl))); go_big_quiet_on))
      refine wpQuiet_nil ?_
      go_wp2
      go_roundw
      case rel => exact ⟨k + 1, HLT.out, by rw [HWK.out], HM.out.drew⟩
      case measure =>
        show l.length - (intOf (.int .i64 (wrap64 ((k : Int) + 1)))).toNat < l.length - (intOf (.int .i64 (k : Int))).toNat
        rw [HWK.out]
        simp only [intOf, Int.toNat_natCast]
        exact Nat.sub_lt_sub_left HLT.out (Nat.lt_succ_self k)
    · have hle : (l.length : Int) ≤ (k : Int) := by omega
      clear hlt hm
      go_wp2
      go_ret
      exact ⟨rfl, HM.out⟩

/-- A list of two strings that was just laid. -/
theorem two_strs (w : World) (x y : ByteArray) : StrsAt (w.alloc (.cells #[.string x, .string y] 9)) (.slice (some ⟨w.heap.size, 0, none⟩) 2 2) [x, y] [] := by
  refine .inr ⟨w.heap.size, 2, rfl, fun i hi => ?_, by simp, by simp⟩
  match i, hi with
  | 0, _ => simp [go_sem]
  | 1, _ => simp [go_sem]
  | i + 2, hi => exact absurd hi (by show ¬ i + 2 < 2; omega)

set_option maxRecDepth 100000 in
set_option maxHeartbeats 4000000 in
theorem wawake_any (w : World) : Calls Try.prog 9 #[] w fun e w' => e = .returned (.bool true) ∧ Below w.heap.size w w' := by
  go_enter Try.func9, Try.ntmps9
  go_wp2_with fail
  (with_reducible refine (fnew_any _).mono ?_); rintro _ w1 ⟨bf, rfl, hb1, hf1, hm1⟩
  go_wp2_with fail
  (with_reducible refine (dnew_any 128 8 bf F.new _ hf1).mono ?_); rintro _ w2 ⟨bd, bs, rfl, hbd, hbs, hd2, hm2⟩
  go_wp2_with fail
  (with_reducible refine (open_new bd bs bf 128 8 F.new ⟨rfl, rfl⟩ [] _ hd2 (by simp)).mono ?_); rintro _ w3 ⟨bw, a, c, d0, l0, rfl, hbw, ho, hst, hm3⟩
  have hst : St d0 l0 4 128 [] 1 := hst
  have HS0 := Lib.hid hst
  have HO0 := Lib.hid ho
  have hlts := hd2.lts
  have hbase : ∀ x ∈ [bd, bs, bf, bw], w.heap.size ≤ x := by
    have := hm1.size
    have := hm2.size
    intro x hx
    simp at hx
    omega
  have HB := Lib.hid hbase
  have HM0 := Lib.hid (below_mod (below_mod hm1.below (hm2.mono (S' := []) (by simp)) (by simp)) hm3 (fun x hx => hbase x (by simp at hx ⊢; omega)))
  clear hbase hst ho hm1 hm2 hm3 hf1 hd2 hlts hb1 hbd hbs hbw
  go_wp2_with fail
  (with_reducible refine (append_yes HO0.out HS0.out (s := ⟨#[97]⟩) (by decide) (by decide)).mono ?_); rintro _ w4 ⟨rfl, d1, l1, ho, hst, hm⟩
  have HO1 := Lib.hid ho
  have HS1 := Lib.hid hst
  have HM1 := Lib.hid (below_mod HM0.out hm HB.out)
  clear ho hst hm
  go_wp2_with fail
  (with_reducible refine (append_yes HO1.out HS1.out (s := ⟨#[98]⟩) (by decide) (by decide)).mono ?_); rintro _ w5 ⟨rfl, d2, l2, ho, hst, hm⟩
  have HO2 := Lib.hid ho
  have HS2 := Lib.hid hst
  have HM2 := Lib.hid (below_mod HM1.out hm HB.out)
  clear ho hst hm
  go_wp2_with fail
  (with_reducible refine (room_st HO2.out HS2.out 1 (by decide)).mono ?_); rintro _ w6 ⟨rfl, hm⟩
  have HO2b := Lib.hid (HO2.out.same hm)
  have HM3 := Lib.hid (below_mod HM2.out hm (by simp))
  clear hm
  go_wp2_with fail
  (with_reducible refine (append_yes HO2b.out HS2.out (s := ⟨#[99]⟩) (by decide) (by decide)).mono ?_); rintro _ w7 ⟨rfl, d3, l3, ho, hst, hm⟩
  have HO3 := Lib.hid ho
  have HS3 := Lib.hid hst
  have HM4 := Lib.hid (below_mod HM3.out hm HB.out)
  clear ho hst hm
  go_wp2_with fail
  (with_reducible refine (append_full HO3.out HS3.out (s := ⟨#[100]⟩) (by decide) (by decide)).mono ?_); rintro _ w8 ⟨rfl, ho, hm⟩
  have HO4 := Lib.hid ho
  have HM5 := Lib.hid (below_mod HM4.out hm HB.out)
  clear ho hm
  go_wp2_with fail
  (with_reducible refine (check_yes HO4.out HS3.out (s := ⟨#[97, 98, 99]⟩) (by decide) (by decide)).mono ?_); rintro _ w9 ⟨rfl, d5, l5, ho, hst, hm⟩
  have HO5 := Lib.hid ho
  have HS5 := Lib.hid hst
  have HM6 := Lib.hid (below_mod HM5.out hm HB.out)
  clear ho hst hm
  go_wp2_with fail
  (with_reducible refine (append_yes HO5.out HS5.out (s := ⟨#[100]⟩) (by decide) (by decide)).mono ?_); rintro _ w10 ⟨rfl, d6, l6, ho, hst, hm⟩
  have hst : St d6 l6 4 128 [⟨#[97, 98, 99]⟩, ⟨#[100]⟩] 2 := hst
  have HO6 := Lib.hid ho
  have HS6 := Lib.hid hst
  have HM7 := Lib.hid (below_mod HM6.out hm HB.out)
  clear ho hst hm
  go_wp2_with fail
  (with_reducible refine (open_o bd bs bf d6 l6 _ _ HO6.out.disk HO6.out.snd HO6.out.lt).mono ?_); rintro _ w11 ⟨bw2, v, rfl, hbw2, ho7, hs7, hm7⟩
  rw [HS6.out.recs] at hs7
  have HS7 := Lib.hid hs7
  have hl7 := HO6.out.log_after hm7
  have HL7 := Lib.hid hl7
  have HM8 := Lib.hid (below_mod HM7.out hm7 (fun x hx => HB.out x (by simp at hx ⊢; omega)))
  clear hs7 hl7 hm7 ho7 hbw2
  obtain ⟨sa, sc, rfl⟩ := HS7.out.slice
  go_wp2_with fail
  have h7 : StrsAt (w11.alloc (.cells #[.string ⟨#[97, 98, 99]⟩, .string ⟨#[100]⟩] 9)) (.slice sa 2 sc) [⟨#[97, 98, 99]⟩, ⟨#[100]⟩] _ := HS7.out.mod ((Mod.refl [] _).alloc _) (by simp)
  have h8 := two_strs w11 ⟨#[97, 98, 99]⟩ ⟨#[100]⟩
  have H7 := Lib.hid (And.intro h7 h8)
  clear h7 h8
  (with_reducible refine (same_any _ _ _ _ _ _ H7.out.1 H7.out.2 (by decide)).mono ?_); rintro _ w12 ⟨rfl, hm12⟩
  have hm11 := ((Mod.refl [] w11).alloc (.cells #[.string ⟨#[97, 98, 99]⟩, .string ⟨#[100]⟩] 9)).trans hm12
  have HL8 := Lib.hid (HL7.out.mod hm11 (by simp))
  have HM9 := Lib.hid (below_mod HM8.out hm11 (by simp))
  have HBR := Lib.hid HO6.out.snd.broken
  clear hm11 hm12
  go_wp2_with fail
  (with_reducible refine (gen_any bw bd l6 _ HL8.out).mono ?_); rintro _ w13 ⟨rfl, rfl⟩
  rw [HS6.out.gen]
  go_wp2_with fail
  (with_reducible refine (broken_any bw bd l6 _ HL8.out).mono ?_); rintro _ w13 ⟨rfl, rfl⟩
  rw [HBR.out]
  go_wp2
  go_ret
  exact ⟨rfl, HM9.out⟩
end Go.Proofs.Yteidhbjfmmodhaa
