/-
  What is too long, or has no room, changes nothing: the law WalFull returns true for every number and every string. No condition.
-/
import Derived.Test.YteidhbjfmmodhaaWalAwake
import Derived.Test.YteidhbjfmmodhaaRows
import Derived.ProofKit
import Derived.OpenShut
import Derived.ShutString
import Derived.ChangeOld
namespace Go.Proofs.Yteidhbjfmmodhaa
open Go.RowKit Crc Fr



set_option maxRecDepth 100000 in
set_option maxHeartbeats 4000000 in
theorem full_calls (n : Int) (s : ByteArray) (w : World) :
    Calls Try.prog 6 #[.int .i64 n, .string s] w fun e w' => e = .returned (.bool true) ∧ Below w.heap.size w w' := by
  by_cases h1 : n < 0
  · skip
    go_enter Try.func6, Try.ntmps6
    go_wp2_with fail
    (with_reducible refine (fnew_any _).mono ?_); rintro _ w1 ⟨bf, rfl, hb1, hf1, hm1⟩
    have h1 := hm1.below
    clear hm1 hf1
    go_wp2_with fail
    (with_reducible refine (wawake_any _).mono ?_); rintro _ w2 ⟨rfl, hb2⟩
    go_wp2_with fail
    (with_reducible refine (wawake_any _).mono ?_); rintro _ w3 ⟨rfl, hb3⟩
    go_wp2
    go_ret
    exact ⟨rfl, bthen (bthen h1 hb2) hb3⟩
  by_cases h2 : 30 < n
  · have h3 : 0 ≤ n := by omega
    clear h1
    go_enter Try.func6, Try.ntmps6
    go_wp2_with fail
    (with_reducible refine (fnew_any _).mono ?_); rintro _ w1 ⟨bf, rfl, hb1, hf1, hm1⟩
    have h1 := hm1.below
    clear hm1 hf1
    go_wp2_with fail
    (with_reducible refine (wawake_any _).mono ?_); rintro _ w2 ⟨rfl, hb2⟩
    go_wp2_with fail
    (with_reducible refine (wawake_any _).mono ?_); rintro _ w3 ⟨rfl, hb3⟩
    go_wp2
    go_ret
    exact ⟨rfl, bthen (bthen h1 hb2) hb3⟩
  by_cases h4 : s.size < 115
  · have h3 : 0 ≤ n := by omega
    have h5 : n ≤ 30 := by omega
    clear h1 h2
    go_enter Try.func6, Try.ntmps6
    go_wp2_with fail
    (with_reducible refine (fnew_any _).mono ?_); rintro _ w1 ⟨bf, rfl, hb1, hf1, hm1⟩
    have h1 := hm1.below
    clear hm1 hf1
    go_wp2_with fail
    (with_reducible refine (wawake_any _).mono ?_); rintro _ w2 ⟨rfl, hb2⟩
    go_wp2_with fail
    (with_reducible refine (wawake_any _).mono ?_); rintro _ w3 ⟨rfl, hb3⟩
    go_wp2
    go_ret
    exact ⟨rfl, bthen (bthen h1 hb2) hb3⟩
  by_cases h6 : 1000 < s.size
  · have h3 : 0 ≤ n := by omega
    have h5 : n ≤ 30 := by omega
    have h7 : 115 ≤ s.size := by omega
    clear h1 h2 h4
    go_enter Try.func6, Try.ntmps6
    go_wp2_with fail
    (with_reducible refine (fnew_any _).mono ?_); rintro _ w1 ⟨bf, rfl, hb1, hf1, hm1⟩
    have h1 := hm1.below
    clear hm1 hf1
    go_wp2_with fail
    (with_reducible refine (wawake_any _).mono ?_); rintro _ w2 ⟨rfl, hb2⟩
    go_wp2_with fail
    (with_reducible refine (wawake_any _).mono ?_); rintro _ w3 ⟨rfl, hb3⟩
    go_wp2
    go_ret
    exact ⟨rfl, bthen (bthen h1 hb2) hb3⟩
  have g1 : decide (n < 0) = false := decide_eq_false (by omega)
  have g2 : decide (30 < n) = false := decide_eq_false (by omega)
  have g3 : decide ((s.size : Int) < 115) = false := decide_eq_false (by omega)
  have g4 : decide (1000 < (s.size : Int)) = false := decide_eq_false (by omega)
  have HN := Lib.hid (show 0 ≤ n ∧ n ≤ 30 ∧ 115 ≤ s.size from ⟨by omega, by omega, by omega⟩)
  clear h1 h2 h4 h6
  go_enter Try.func6, Try.ntmps6
  go_wp2_with fail
  (with_reducible refine (fnew_any _).mono ?_); rintro _ w1 ⟨bf, rfl, hb1, hf1, hm1⟩
  go_wp2_with fail
  (with_reducible refine (wawake_any _).mono ?_); rintro _ w2 ⟨rfl, hb2⟩
  have hf2 := hf1.mod (Mod.of_below hb2 : Mod [] w1 w2) (by simp)
  have hm12 : Mod [] w w2 := hm1.then hb2
  clear hf1 hm1 hb2
  go_wp2_with fail
  (with_reducible refine (dnew_any 128 16 bf F.new _ hf2).mono ?_); rintro _ w3 ⟨bd, bs, rfl, hbd, hbs, hd2, hm2⟩
  go_wp2_with fail
  (with_reducible refine (open_new bd bs bf 128 16 F.new ⟨rfl, rfl⟩ [] _ hd2 (by simp)).mono ?_); rintro _ w4 ⟨bw, a, c, d0, l0, rfl, hbw, ho, hst, hm3⟩
  have hst : St d0 l0 8 128 [] 1 := hst
  have HS0 := Lib.hid hst
  have HO0 := Lib.hid ho
  have hlts := hd2.lts
  have hbase : ∀ x ∈ [bd, bs, bf, bw], w.heap.size ≤ x := by
    have := hm12.size
    have := hm2.size
    intro x hx
    simp at hx
    omega
  have HB := Lib.hid hbase
  have HM0 := Lib.hid (below_mod (below_mod hm12.below (hm2.mono (S' := []) (by simp)) (by simp)) hm3 (fun x hx => hbase x (by simp at hx ⊢; omega)))
  clear hbase hst ho hm12 hm2 hm3 hf2 hd2 hlts hb1 hbd hbs hbw
  go_wp2_with fail
  clear g1 g2 g3 g4
  go_loopw [53] (fun i wr => ∃ (k : Nat) (dr : D) (lr : Lg) (recs : List ByteArray), i = .int .i64 k ∧ (k : Int) ≤ n ∧ Obj wr bw bd bs bf dr lr [bw] ∧ St dr lr 8 128 recs 1 ∧ Below w.heap.size w wr) (fun i _ => n.toNat - (intOf i).toNat)
  case atStart => exact ⟨0, d0, l0, [], rfl, HN.out.1, HO0.out, HS0.out, HM0.out⟩
  case round =>
    obtain ⟨k, dr, lr, recs, rfl, hk, ho, hst, hm⟩ := hrel
    have HO := Lib.hid ho
    have HS := Lib.hid hst
    have HM := Lib.hid hm
    have hrl := ho.snd.recs
    rw [hst.recs, hst.half] at hrl
    clear ho hst hm
    by_cases hlt : (k : Int) < n
    · have HWK := Lib.hid (show wrap64 ((k : Int) + 1) = ((k + 1 : Nat) : Int) by have := HN.out; rw [IntWalk.wrap64_in _ (by omega)]; omega)
      have HLT := Lib.hid hlt
      have HRL := Lib.hid hrl
      by_cases hr : recs.length + 1 < 8
      · have HR := Lib.hid hr
        clear hr hrl
        go_wp2_with fail
        (with_reducible refine (append_yes HO.out HS.out (s := ⟨#[120]⟩) (by decide) HR.out).mono ?_); rintro _ w5 ⟨rfl, d1, l1, ho, hst, hm⟩
        have HO1 := Lib.hid ho
        have HS1 := Lib.hid hst
        have HM1 := Lib.hid (below_mod HM.out hm HB.out)
        clear ho hst hm
        go_wp2
        go_roundw
        case rel => exact ⟨k + 1, d1, l1, _, by rw [HWK.out], by have := HLT.out; omega, HO1.out, HS1.out, HM1.out⟩
        case measure =>
          show n.toNat - (intOf (.int .i64 (wrap64 ((k : Int) + 1)))).toNat < n.toNat - (intOf (.int .i64 (k : Int))).toNat
          rw [HWK.out]
          simp only [intOf, Int.toNat_natCast]
          have := HLT.out
          omega
      · have HR := Lib.hid (show recs.length + 1 = 8 by omega)
        clear hr hrl
        go_wp2_with fail
        (with_reducible refine (append_full HO.out HS.out (s := ⟨#[120]⟩) (by decide) HR.out).mono ?_); rintro _ w5 ⟨rfl, ho, hm⟩
        have HO1 := Lib.hid ho
        have HM1 := Lib.hid (below_mod HM.out hm HB.out)
        clear ho hm
        go_wp2
        go_roundw
        case rel => exact ⟨k + 1, dr, lr, _, by rw [HWK.out], by have := HLT.out; omega, HO1.out, HS.out, HM1.out⟩
        case measure =>
          show n.toNat - (intOf (.int .i64 (wrap64 ((k : Int) + 1)))).toNat < n.toNat - (intOf (.int .i64 (k : Int))).toNat
          rw [HWK.out]
          simp only [intOf, Int.toNat_natCast]
          have := HLT.out
          omega
    · have hle : decide ((k : Int) < n) = false := decide_eq_false hlt
      have HRL := Lib.hid hrl
      clear hlt hrl
      go_wp2_with fail
      (with_reducible refine (count_any bf dr.fuse _ HO.out.disk.fuse).mono ?_); rintro _ w5 ⟨rfl, rfl⟩
      obtain ⟨r, hr⟩ : ∃ r : Int, r = 7 - (recs.length : Int) := ⟨_, rfl⟩
      have HR := Lib.hid hr
      clear hr
      go_wp2_with fail
      (with_reducible refine (room_st HO.out HS.out r (by rw [HR.out]; omega)).mono ?_); rintro _ w6 ⟨rfl, hm⟩
      have HO1 := Lib.hid (HO.out.same hm)
      have HM1 := Lib.hid (below_mod HM.out hm (by simp))
      clear hm
      go_wp2_with fail
      (with_reducible refine (append_long HO1.out HS.out (s := s) (by have := HN.out; omega)).mono ?_); rintro _ w7 ⟨rfl, ho, hm⟩
      have HO2 := Lib.hid ho
      have HM2 := Lib.hid (below_mod HM1.out hm HB.out)
      clear ho hm
      go_wp2_with fail
      (with_reducible refine (check_long HO2.out HS.out (s := s) (by have := HN.out; omega)).mono ?_); rintro _ w8 ⟨rfl, ho, hm⟩
      have HO3 := Lib.hid ho
      have HM3 := Lib.hid (below_mod HM2.out hm HB.out)
      clear ho hm
      by_cases h0 : r = 0
      · subst h0
        go_wp2_with fail
        (with_reducible refine (append_full HO3.out HS.out (s := ⟨#[120]⟩) (by decide) (by have := HR.out; omega)).mono ?_); rintro _ w9 ⟨rfl, ho, hm⟩
        have HRR := Lib.hid (show ((8 : Nat) : Int) - 1 - recs.length = 0 from by have := HR.out; omega)
        have HO4 := Lib.hid ho
        have HM4 := Lib.hid (below_mod HM3.out hm HB.out)
        clear ho hm
        go_wp2_with fail
        (with_reducible refine (count_any bf dr.fuse _ HO4.out.disk.fuse).mono ?_); rintro _ w10 ⟨rfl, rfl⟩
        go_wp2_with fail
        (with_reducible refine (room_st HO4.out HS.out _ HRR.out).mono ?_); rintro _ w11 ⟨rfl, hm⟩
        have HO5 := Lib.hid (HO4.out.same hm)
        have HM5 := Lib.hid (below_mod HM4.out hm (by simp))
        have HBR := Lib.hid HO4.out.snd.broken
        clear hm
        go_wp2_with fail
        (with_reducible refine (gen_st HO5.out HS.out).mono ?_); rintro _ w12 ⟨rfl, rfl⟩
        go_wp2_with fail
        (with_reducible refine (broken_any bw bd lr _ HO5.out.log).mono ?_); rintro _ w12 ⟨rfl, rfl⟩
        rw [HBR.out]
        go_wp2
        go_ret
        exact ⟨rfl, HM5.out⟩
      · have HRR := Lib.hid (show ((8 : Nat) : Int) - 1 - recs.length = r from by have := HR.out; omega)
        have HO4 := HO3
        have HM4 := HM3
        have h0d : (r == 0) = false := by simp [h0]
        go_wp2_with fail
        (with_reducible refine (count_any bf dr.fuse _ HO4.out.disk.fuse).mono ?_); rintro _ w10 ⟨rfl, rfl⟩
        go_wp2_with fail
        (with_reducible refine (room_st HO4.out HS.out _ HRR.out).mono ?_); rintro _ w11 ⟨rfl, hm⟩
        have HO5 := Lib.hid (HO4.out.same hm)
        have HM5 := Lib.hid (below_mod HM4.out hm (by simp))
        have HBR := Lib.hid HO4.out.snd.broken
        clear hm
        go_wp2_with fail
        (with_reducible refine (gen_st HO5.out HS.out).mono ?_); rintro _ w12 ⟨rfl, rfl⟩
        go_wp2_with fail
        (with_reducible refine (broken_any bw bd lr _ HO5.out.log).mono ?_); rintro _ w12 ⟨rfl, rfl⟩
        rw [HBR.out]
        go_wp2
        go_ret
        exact ⟨rfl, HM5.out⟩


open Go.ChangeShapes Go.WideShapes Go.ChangeAt
open Go.ChangeMaps (open_string shut_string)
theorem walFull_own : ownKnob Try.prog.godebug = none := by kernel_rfl
theorem walFull_laidOut : laidOutB Try.prog = true := by kernel_rfl
set_option maxRecDepth 100000 in
theorem walFull_lifted (os : Os) (started : os.Started) (H : Type) (enc : TypeId × Value → H) :
    ReturnsInHanded {} Try.checked os 6 .any (Rows.walFullSpec.pre6 enc Try.prog Try.f6 Rows.walFullRow.domain false) (Rows.walFullSpec.post enc Try.prog Try.f6 false true false false) := by
  refine returnsInHanded_of_change (C := Try.checked) walFull_own started (by kernel_rfl) Try.func6
    (ChangeSpec.witness6 (enc := enc) (C := Try.checked) false ⟨#[], #[.int .i64 0, .string ⟨#[]⟩], []⟩ 8 (by kernel_rfl) (by kernel_rfl) (by kernel_rfl) (by kernel_rfl)) ?_
  intro W base args ds gs before hval0 hW hcnd _
  have hval : ∀ (j : Nat) t v, Try.f6.params[j]? = some t → args[j]? = some v → Value.okWide Try.prog W .any base t v := hval0
  have hW' := hW
  obtain ⟨p, q, hA0, hV, rfl, hfz, hnd⟩ := hW
  have hA : DataW.TrodAll enc Try.prog W 0 (fun _ => true) true Try.f6.params.toList args.toList ds p := hA0
  rw [Try.params6] at hA hval
  obtain ⟨v0, vs0, d0, ds0, p0, q0, hargs, rfl, rfl, h0, r0⟩ := trodAll_cons hA
  obtain ⟨v1, vs1, d1, ds1, p1, q1, rfl, rfl, rfl, h1, r1⟩ := trodAll_cons r0
  obtain ⟨rfl, rfl, rfl⟩ := trodAll_nil r1
  obtain rfl : args = #[v0, v1] := by cases args; simp_all
  obtain ⟨rfl, rfl⟩ := trodVars_none hV
  obtain ⟨a0, rfl, rfl, rfl, w0⟩ := open_int Try.underlying3 (hval 0 3 v0 rfl rfl) h0
  have w0' := w0
  simp [Lit.wf, show IntKind.i64.min = -9223372036854775808 from rfl, show IntKind.i64.max = 9223372036854775807 from rfl] at w0'
  obtain ⟨a1, rfl, rfl, rfl, w1⟩ := open_string Try.underlying9 (hval 1 9 v1 rfl rfl) h1
  clear hA0 hval0
  refine (full_calls a0 a1 W).mono fun e W' ⟨he, bel⟩ => ?_
  subst he
  exact ⟨_, rfl, _, _, _, [], _, [], hW', trodAll_mk1 (shut_bool Try.underlying4 _), (trodAll_cons_mk (shut_int Try.underlying3 w0) (trodAll_cons_mk (shut_string Try.underlying9 w1) trodAll_mk0)), rfl, bel.frame _, fun h => by cases h⟩

theorem walFull_holds : Rows.WalFullSaid :=
  OpenClaim.holds_of_wide 6 Try.f6 rfl rfl rfl rfl rfl rfl rfl ⟨rfl, rfl, rfl, rfl, rfl⟩ rfl rfl rfl rfl rfl (by kernel_rfl) Try.func6 (by kernel_rfl)
    (of_decide_eq_true (by kernel_rfl)) (by unfold Func.isWrapper; first | (rw [if_pos (by decide +kernel)]; kernel_rfl) | (rw [if_neg (by decide +kernel)]; exact ⟨rfl, rfl⟩))
    (fun os started H enc _ => walFull_lifted os started H enc)
#print axioms walFull_holds
end Go.Proofs.Yteidhbjfmmodhaa
