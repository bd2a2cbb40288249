/-
  A log has as many records' room as half of its disk's sectors, less one for the head, less its records; each append that is told takes one, whatever its length: the law WalRoom returns true for every number and every slice of strings. No condition.
-/
import Derived.Test.YteidhbjfmmodhaaArgStrs
import Derived.Test.YteidhbjfmmodhaaRows
import Derived.ProofKit
import Derived.OpenShut
import Derived.ShutString
import Derived.ChangeOld
namespace Go.Proofs.Yteidhbjfmmodhaa
open Go.RowKit Crc Fr




set_option maxRecDepth 100000 in
set_option maxHeartbeats 4000000 in
theorem room_calls (sec : Int) (a : Option Addr) (cap : Nat) (l : List ByteArray) (w : World) (hl : ArgStrs w a l) :
    Calls Try.prog 5 #[.int .i64 sec, .slice a l.length cap] w fun e w' => e = .returned (.bool true) ∧ Below w.heap.size w w' := by
  by_cases h1 : 40 < sec
  · clear hl
    go_enter Try.func5, Try.ntmps5
    go_wp2_with fail
    (with_reducible refine (fnew_any _).mono ?_); rintro _ w1 ⟨bf, rfl, hb1, hf1, hm1⟩
    have h1 := hm1.below
    clear hm1 hf1
    go_wp2_with fail
    (with_reducible refine (wawake_any _).mono ?_); rintro _ w2 ⟨rfl, hb2⟩
    go_wp2_with fail
    (with_reducible refine (wawake_any _).mono ?_); rintro _ w3 ⟨rfl, hb3⟩
    go_wp2
    go_ret
    exact ⟨rfl, bthen (bthen h1 hb2) hb3⟩
  by_cases h2 : 40 < l.length
  · have g1 : decide (40 < sec) = false := decide_eq_false (by omega)
    have g2 : decide (40 < (l.length : Int)) = true := decide_eq_true (by omega)
    clear hl h1 h2
    go_enter Try.func5, Try.ntmps5
    go_wp2_with fail
    (with_reducible refine (fnew_any _).mono ?_); rintro _ w1 ⟨bf, rfl, hb1, hf1, hm1⟩
    have h1 := hm1.below
    clear hm1 hf1
    go_wp2_with fail
    (with_reducible refine (wawake_any _).mono ?_); rintro _ w2 ⟨rfl, hb2⟩
    go_wp2_with fail
    (with_reducible refine (wawake_any _).mono ?_); rintro _ w3 ⟨rfl, hb3⟩
    go_wp2
    go_ret
    exact ⟨rfl, bthen (bthen h1 hb2) hb3⟩
  have g1 : decide (40 < sec) = false := decide_eq_false (by omega)
  have g2 : decide (40 < (l.length : Int)) = false := decide_eq_false (by omega)
  have HN := Lib.hid (show sec ≤ 40 ∧ l.length ≤ 40 from ⟨by omega, by omega⟩)
  have HA := Lib.hid hl
  clear h1 h2 hl
  go_enter Try.func5, Try.ntmps5
  go_wp2_with fail
  (with_reducible refine (fnew_any _).mono ?_); rintro _ w1 ⟨bf, rfl, hb1, hf1, hm1⟩
  go_wp2_with fail
  (with_reducible refine (wawake_any _).mono ?_); rintro _ w2 ⟨rfl, hb2⟩
  have hf2 := hf1.mod (Mod.of_below hb2 : Mod [] w1 w2) (by simp)
  have hm12 : Mod [] w w2 := hm1.then hb2
  clear hf1 hm1 hb2
  go_wp2_with fail
  (with_reducible refine (dnew_any 128 sec bf F.new _ hf2).mono ?_); rintro _ w3 ⟨bd, bs, rfl, hbd, hbs, hd2, hm2⟩
  go_wp2_with fail
  (with_reducible refine (open_new bd bs bf 128 sec F.new ⟨rfl, rfl⟩ [] _ hd2 (by simp)).mono ?_); rintro _ w4 ⟨bw, a1, c, d0, l0, rfl, hbw, ho, hst, hm3⟩
  obtain ⟨half, hhalf⟩ : ∃ half, half = lenOfI sec / 2 := ⟨_, rfl⟩
  have hst : St d0 l0 half 128 [] 1 := by rw [hhalf]; exact hst
  have HS0 := Lib.hid hst
  have HO0 := Lib.hid ho
  have hlts := hd2.lts
  have hbase : ∀ x ∈ [bd, bs, bf, bw], w.heap.size ≤ x := by
    have := hm12.size
    have := hm2.size
    intro x hx
    simp at hx
    omega
  have HB := Lib.hid hbase
  have HM0 := Lib.hid (below_mod (below_mod hm12.below (hm2.mono (S' := []) (by simp)) (by simp)) hm3 (fun x hx => hbase x (by simp at hx ⊢; omega)))
  have HH := Lib.hid (show min (max sec 4) 1024 / 2 = (half : Int) from by rw [hhalf]; unfold lenOfI; omega)
  clear hbase hst ho hm12 hm2 hm3 hf2 hd2 hlts hb1 hbd hbs hbw hhalf
  go_wp2_with fail
  clear g1 g2
  rw [HH.out]
  clear HH
  go_loopw [11, 51] (fun nv i wr => ∃ (k : Nat) (dr : D) (lr : Lg) (recs : List ByteArray), i = .int .i64 k ∧ nv = .int .i64 (recs.length : Nat) ∧ k ≤ l.length ∧ Obj wr bw bd bs bf dr lr [bw] ∧ St dr lr half 128 recs 1 ∧ Below w.heap.size w wr) (fun _ i _ => l.length - (intOf i).toNat)
  case atStart => exact ⟨0, d0, l0, [], rfl, rfl, Nat.zero_le _, HO0.out, HS0.out, HM0.out⟩
  case round =>
    obtain ⟨k, dr, lr, recs, rfl, rfl, hk, ho, hst, hm⟩ := hrel
    have HO := Lib.hid ho
    have HS := Lib.hid hst
    have HM := Lib.hid hm
    have hrl := ho.snd.recs
    rw [hst.recs, hst.half] at hrl
    have HRL := Lib.hid hrl
    have hh2 := (half_two ho.snd.fits).2.1
    rw [hst.half] at hh2
    have HH2 := Lib.hid hh2
    clear ho hst hm hrl hh2
    by_cases hlt : k < l.length
    · rcases HA.out with e | ⟨b, o, rfl, hb, hc⟩
      · rw [e] at hlt; exact absurd hlt (Nat.not_lt_zero _)
      have c0 := (Mod.of_below HM.out : Mod [] w wr).cell (hc k hlt) (by simp)
      obtain ⟨s, hs⟩ : ∃ s, s = l[k] := ⟨_, rfl⟩
      rw [← hs] at c0
      have HWK := Lib.hid (show wrap64 ((k : Int) + 1) = ((k + 1 : Nat) : Int) by have := HN.out; rw [IntWalk.wrap64_in _ (by omega)]; omega)
      have HWN := Lib.hid (show wrap64 ((recs.length : Int) + 1) = ((recs.length + 1 : Nat) : Int) by have := HRL.out; have := HH2.out; rw [IntWalk.wrap64_in _ (by omega)]; omega)
      have HWH := Lib.hid (show wrap64 ((half : Int) - 1) = (half : Int) - 1 by have := HRL.out; have := HH2.out; rw [IntWalk.wrap64_in _ (by omega)])
      have HLT := Lib.hid hlt
      have HC := Lib.hid hc
      have HBL := Lib.hid hb
      clear hs hc hb
      by_cases h200 : 200 < s.size
      · have g1 : decide (200 < (s.size : Int)) = true := decide_eq_true (by omega)
        clear h200
        go_wp2
        go_ret
        exact ⟨rfl, HM.out⟩
      · have g1 : decide (200 < (s.size : Int)) = false := decide_eq_false (by omega)
        by_cases h114 : s.size ≤ 114
        · have g2 : decide ((s.size : Int) ≤ 114) = true := decide_eq_true (by omega)
          have H114 := Lib.hid (show (s.size : Int) ≤ ((128 : Nat) : Int) - 14 by omega)
          clear h200 h114
          by_cases hr : recs.length + 1 < half
          · have HR := Lib.hid hr
            have g3 : decide ((recs.length : Int) < wrap64 ((half : Int) - 1)) = true := by rw [HWH.out]; exact decide_eq_true (by omega)
            have HRR := Lib.hid (show (half : Int) - 1 - (recs ++ [s]).length = wrap64 (wrap64 ((half : Int) - 1) - wrap64 ((recs.length : Int) + 1)) from by
              rw [HWH.out, HWN.out, IntWalk.wrap64_in _ (by have := HRL.out; have := HH2.out; omega)]; simp)
            clear hr
            go_wp2_with fail
            (with_reducible refine (append_yes HO.out HS.out (s := s) H114.out HR.out).mono ?_); rintro _ w5 ⟨rfl, d1, l1, ho, hst, hm⟩
            have HO1 := Lib.hid ho
            have HS1 := Lib.hid hst
            have HM1 := Lib.hid (below_mod HM.out hm HB.out)
            clear ho hst hm c0
            go_wp2_with fail
            (with_reducible refine (room_st HO1.out HS1.out _ HRR.out).mono ?_); rintro _ w6 ⟨rfl, hm⟩
            have HO2 := Lib.hid (HO1.out.same hm)
            have HM2 := Lib.hid (below_mod HM1.out hm (by simp))
            clear hm
            go_wp2
            go_roundw
            case rel => exact ⟨k + 1, d1, l1, _, by rw [HWK.out], by rw [HWN.out]; simp, HLT.out, HO2.out, HS1.out, HM2.out⟩
            case measure =>
              show l.length - (intOf (.int .i64 (wrap64 ((k : Int) + 1)))).toNat < l.length - (intOf (.int .i64 (k : Int))).toNat
              rw [HWK.out]
              simp only [intOf, Int.toNat_natCast]
              have := HLT.out
              omega
          · have HR := Lib.hid (show recs.length + 1 = half by have := HRL.out; omega)
            have g3 : decide ((recs.length : Int) < wrap64 ((half : Int) - 1)) = false := by rw [HWH.out]; exact decide_eq_false (by omega)
            clear hr
            go_wp2_with fail
            (with_reducible refine (append_full HO.out HS.out (s := s) H114.out HR.out).mono ?_); rintro _ w5 ⟨rfl, ho, hm⟩
            have HRR := Lib.hid (show (half : Int) - 1 - recs.length = wrap64 (wrap64 ((half : Int) - 1) - (recs.length : Int)) from by
              rw [HWH.out, IntWalk.wrap64_in _ (by have := HRL.out; have := HH2.out; omega)])
            have HO1 := Lib.hid ho
            have HM1 := Lib.hid (below_mod HM.out hm HB.out)
            clear ho hm c0
            go_wp2_with fail
            (with_reducible refine (room_st HO1.out HS.out _ HRR.out).mono ?_); rintro _ w6 ⟨rfl, hm⟩
            have HO2 := Lib.hid (HO1.out.same hm)
            have HM2 := Lib.hid (below_mod HM1.out hm (by simp))
            clear hm
            go_wp2
            go_roundw
            case rel => exact ⟨k + 1, dr, lr, recs, by rw [HWK.out], rfl, HLT.out, HO2.out, HS.out, HM2.out⟩
            case measure =>
              show l.length - (intOf (.int .i64 (wrap64 ((k : Int) + 1)))).toNat < l.length - (intOf (.int .i64 (k : Int))).toNat
              rw [HWK.out]
              simp only [intOf, Int.toNat_natCast]
              have := HLT.out
              omega
        · have g2 : decide ((s.size : Int) ≤ 114) = false := decide_eq_false (by omega)
          have H114 := Lib.hid (show ((128 : Nat) : Int) - 14 < (s.size : Int) by omega)
          clear h200 h114
          go_wp2_with fail
          (with_reducible refine (append_long HO.out HS.out (s := s) H114.out).mono ?_); rintro _ w5 ⟨rfl, ho, hm⟩
          have HRR := Lib.hid (show (half : Int) - 1 - recs.length = wrap64 (wrap64 ((half : Int) - 1) - (recs.length : Int)) from by
            rw [HWH.out, IntWalk.wrap64_in _ (by have := HRL.out; have := HH2.out; omega)])
          have HO1 := Lib.hid ho
          have HM1 := Lib.hid (below_mod HM.out hm HB.out)
          clear ho hm c0
          go_wp2_with fail
          (with_reducible refine (room_st HO1.out HS.out _ HRR.out).mono ?_); rintro _ w6 ⟨rfl, hm⟩
          have HO2 := Lib.hid (HO1.out.same hm)
          have HM2 := Lib.hid (below_mod HM1.out hm (by simp))
          clear hm
          go_wp2
          go_roundw
          case rel => exact ⟨k + 1, dr, lr, recs, by rw [HWK.out], rfl, HLT.out, HO2.out, HS.out, HM2.out⟩
          case measure =>
            show l.length - (intOf (.int .i64 (wrap64 ((k : Int) + 1)))).toNat < l.length - (intOf (.int .i64 (k : Int))).toNat
            rw [HWK.out]
            simp only [intOf, Int.toNat_natCast]
            have := HLT.out
            omega
    · have hle : (l.length : Int) ≤ (k : Int) := by omega
      clear hlt
      go_wp2
      go_ret
      exact ⟨rfl, HM.out⟩

set_option maxRecDepth 100000 in
theorem room_walk (sec : Int) (v : Value) (W : World) (t : TypeId) (H : Type) (enc : TypeId × Value → H) (d : DataW H) (ps : List MemPlace) (base : Nat)
    (ht : t = 31) (h : DataW.Trod enc Try.prog W 0 (fun _ => true) true t v d ps) (hval : Value.okWide Try.prog W .any base t v) :
    Calls Try.prog 5 #[.int .i64 sec, v] W fun e w' => e = .returned (.bool true) ∧ Below W.heap.size W w' := by
  subst ht
  obtain ⟨a, l, cap, rfl, ha⟩ := open_argstrs v W H enc d ps base h hval
  exact room_calls sec a cap l W ha


open Go.ChangeShapes Go.WideShapes Go.ChangeAt
open Go.ChangeMaps (open_string shut_string)
theorem walRoom_own : ownKnob Try.prog.godebug = none := by kernel_rfl
theorem walRoom_laidOut : laidOutB Try.prog = true := by kernel_rfl
set_option maxRecDepth 100000 in
theorem walRoom_lifted (os : Os) (started : os.Started) (H : Type) (enc : TypeId × Value → H) :
    ReturnsInHanded {} Try.checked os 5 .any (Rows.walRoomSpec.pre6 enc Try.prog Try.f5 Rows.walRoomRow.domain false) (Rows.walRoomSpec.post enc Try.prog Try.f5 false true false false) := by
  refine returnsInHanded_of_change (C := Try.checked) walRoom_own started (by kernel_rfl) Try.func5
    (ChangeSpec.witness6 (enc := enc) (C := Try.checked) false ⟨#[], #[.int .i64 0, .slice none 0 0], []⟩ 8 (by kernel_rfl) (by kernel_rfl) (by kernel_rfl) (by kernel_rfl)) ?_
  intro W base args ds gs before hval0 hW hcnd _
  have hval : ∀ (j : Nat) t v, Try.f5.params[j]? = some t → args[j]? = some v → Value.okWide Try.prog W .any base t v := hval0
  have hW' := hW
  obtain ⟨p, q, hA0, hV, rfl, hfz, hnd⟩ := hW
  have hA : DataW.TrodAll enc Try.prog W 0 (fun _ => true) true Try.f5.params.toList args.toList ds p := hA0
  rw [Try.params5] at hA hval
  obtain ⟨v0, vs0, d0, ds0, p0, q0, hargs, rfl, rfl, h0, r0⟩ := trodAll_cons hA
  obtain ⟨v1, vs1, d1, ds1, p1, q1, rfl, rfl, rfl, h1, r1⟩ := trodAll_cons r0
  obtain ⟨rfl, rfl, rfl⟩ := trodAll_nil r1
  obtain rfl : args = #[v0, v1] := by cases args; simp_all
  obtain ⟨rfl, rfl⟩ := trodVars_none hV
  obtain ⟨a0, rfl, rfl, rfl, w0⟩ := open_int Try.underlying3 (hval 0 3 v0 rfl rfl) h0
  have w0' := w0
  simp [Lit.wf, show IntKind.i64.min = -9223372036854775808 from rfl, show IntKind.i64.max = 9223372036854775807 from rfl] at w0'
  have k1 := h1
  have lt1 : ∀ x ∈ p1, x.block < W.heap.size := by obtain ⟨m, hm⟩ := k1; exact DataW.trod_lt m _ _ _ hm
  have vl1 := hval 1 31 v1 rfl rfl
  have h1m := h1
  clear hA0 hval0
  refine (room_walk a0 v1 W _ H enc _ _ base rfl h1 vl1).mono fun e W' ⟨he, bel⟩ => ?_
  subst he
  exact ⟨_, rfl, _, _, _, [], _, [], hW', trodAll_mk1 (shut_bool Try.underlying4 _), (trodAll_cons_mk (shut_int Try.underlying3 w0) (trodAll_cons_mk (Below.trod walRoom_laidOut (by kernel_rfl) (of_decide_eq_true (by kernel_rfl)) k1 bel lt1) trodAll_mk0)), rfl, bel.frame _, fun h => by cases h⟩

theorem walRoom_holds : Rows.WalRoomSaid :=
  OpenClaim.holds_of_wide 5 Try.f5 rfl rfl rfl rfl rfl rfl rfl ⟨rfl, rfl, rfl, rfl, rfl⟩ rfl rfl rfl rfl rfl (by kernel_rfl) Try.func5 (by kernel_rfl)
    (of_decide_eq_true (by kernel_rfl)) (by unfold Func.isWrapper; first | (rw [if_pos (by decide +kernel)]; kernel_rfl) | (rw [if_neg (by decide +kernel)]; exact ⟨rfl, rfl⟩))
    (fun os started H enc _ => walRoom_lifted os started H enc)
#print axioms walRoom_holds
end Go.Proofs.Yteidhbjfmmodhaa
