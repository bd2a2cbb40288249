/-
  A checkpoint's record is the only one, in a generation more; as many more as a fresh log's less one can be appended then: the law WalCheckpoints returns true for every two numbers and every string. No condition.
-/
import Derived.Test.YteidhbjfmmodhaaWalRow
import Derived.Test.YteidhbjfmmodhaaRows
import Derived.ProofKit
import Derived.OpenShut
import Derived.ShutString
import Derived.ChangeOld
namespace Go.Proofs.Yteidhbjfmmodhaa
open Go.RowKit Crc Fr


set_option maxRecDepth 100000 in
set_option maxHeartbeats 4000000 in
theorem checkpoints_calls (n more : Int) (s : ByteArray) (w : World) :
    Calls Try.prog 4 #[.int .i64 n, .int .i64 more, .string s] w fun e w' => e = .returned (.bool true) ∧ Below w.heap.size w w' := by
  by_cases h1 : n < 0
  · skip
    go_enter Try.func4, Try.ntmps4
    go_wp2_with fail
    (with_reducible refine (fnew_any _).mono ?_); rintro _ w1 ⟨bf, rfl, hb1, hf1, hm1⟩
    have h1 := hm1.below
    clear hm1 hf1
    go_wp2_with fail
    (with_reducible refine (wawake_any _).mono ?_); rintro _ w2 ⟨rfl, hb2⟩
    go_wp2_with fail
    (with_reducible refine (wawake_any _).mono ?_); rintro _ w3 ⟨rfl, hb3⟩
    go_wp2
    go_ret
    exact ⟨rfl, bthen (bthen h1 hb2) hb3⟩
  by_cases h2 : 30 < n
  · have g1 : decide (n < 0) = false := decide_eq_false (by omega)
    clear h1
    go_enter Try.func4, Try.ntmps4
    go_wp2_with fail
    (with_reducible refine (fnew_any _).mono ?_); rintro _ w1 ⟨bf, rfl, hb1, hf1, hm1⟩
    have h1 := hm1.below
    clear hm1 hf1
    go_wp2_with fail
    (with_reducible refine (wawake_any _).mono ?_); rintro _ w2 ⟨rfl, hb2⟩
    go_wp2_with fail
    (with_reducible refine (wawake_any _).mono ?_); rintro _ w3 ⟨rfl, hb3⟩
    go_wp2
    go_ret
    exact ⟨rfl, bthen (bthen h1 hb2) hb3⟩
  by_cases h3 : more < 0
  · have g1 : decide (n < 0) = false := decide_eq_false (by omega)
    have g2 : decide (30 < n) = false := decide_eq_false (by omega)
    clear h1 h2
    go_enter Try.func4, Try.ntmps4
    go_wp2_with fail
    (with_reducible refine (fnew_any _).mono ?_); rintro _ w1 ⟨bf, rfl, hb1, hf1, hm1⟩
    have h1 := hm1.below
    clear hm1 hf1
    go_wp2_with fail
    (with_reducible refine (wawake_any _).mono ?_); rintro _ w2 ⟨rfl, hb2⟩
    go_wp2_with fail
    (with_reducible refine (wawake_any _).mono ?_); rintro _ w3 ⟨rfl, hb3⟩
    go_wp2
    go_ret
    exact ⟨rfl, bthen (bthen h1 hb2) hb3⟩
  by_cases h4 : 30 < more
  · have g1 : decide (n < 0) = false := decide_eq_false (by omega)
    have g2 : decide (30 < n) = false := decide_eq_false (by omega)
    have g3 : decide (more < 0) = false := decide_eq_false (by omega)
    clear h1 h2 h3
    go_enter Try.func4, Try.ntmps4
    go_wp2_with fail
    (with_reducible refine (fnew_any _).mono ?_); rintro _ w1 ⟨bf, rfl, hb1, hf1, hm1⟩
    have h1 := hm1.below
    clear hm1 hf1
    go_wp2_with fail
    (with_reducible refine (wawake_any _).mono ?_); rintro _ w2 ⟨rfl, hb2⟩
    go_wp2_with fail
    (with_reducible refine (wawake_any _).mono ?_); rintro _ w3 ⟨rfl, hb3⟩
    go_wp2
    go_ret
    exact ⟨rfl, bthen (bthen h1 hb2) hb3⟩
  by_cases h5 : 114 < s.size
  · have g1 : decide (n < 0) = false := decide_eq_false (by omega)
    have g2 : decide (30 < n) = false := decide_eq_false (by omega)
    have g3 : decide (more < 0) = false := decide_eq_false (by omega)
    have g4 : decide (30 < more) = false := decide_eq_false (by omega)
    clear h1 h2 h3 h4
    go_enter Try.func4, Try.ntmps4
    go_wp2_with fail
    (with_reducible refine (fnew_any _).mono ?_); rintro _ w1 ⟨bf, rfl, hb1, hf1, hm1⟩
    have h1 := hm1.below
    clear hm1 hf1
    go_wp2_with fail
    (with_reducible refine (wawake_any _).mono ?_); rintro _ w2 ⟨rfl, hb2⟩
    go_wp2_with fail
    (with_reducible refine (wawake_any _).mono ?_); rintro _ w3 ⟨rfl, hb3⟩
    go_wp2
    go_ret
    exact ⟨rfl, bthen (bthen h1 hb2) hb3⟩
  have g1 : decide (n < 0) = false := decide_eq_false (by omega)
  have g2 : decide (30 < n) = false := decide_eq_false (by omega)
  have g3 : decide (more < 0) = false := decide_eq_false (by omega)
  have g4 : decide (30 < more) = false := decide_eq_false (by omega)
  have g5 : decide (114 < (s.size : Int)) = false := decide_eq_false (by omega)
  have HN := Lib.hid (show 0 ≤ n ∧ n ≤ 30 ∧ 0 ≤ more ∧ more ≤ 30 ∧ s.size ≤ 114 from ⟨by omega, by omega, by omega, by omega, by omega⟩)
  clear h1 h2 h3 h4 h5
  go_enter Try.func4, Try.ntmps4
  go_wp2_with fail
  (with_reducible refine (fnew_any _).mono ?_); rintro _ w1 ⟨bf, rfl, hb1, hf1, hm1⟩
  go_wp2_with fail
  (with_reducible refine (wawake_any _).mono ?_); rintro _ w2 ⟨rfl, hb2⟩
  have hf2 := hf1.mod (Mod.of_below hb2 : Mod [] w1 w2) (by simp)
  have hm12 : Mod [] w w2 := hm1.then hb2
  clear hf1 hm1 hb2
  go_wp2_with fail
  (with_reducible refine (dnew_any 128 16 bf F.new _ hf2).mono ?_); rintro _ w3 ⟨bd, bs, rfl, hbd, hbs, hd2, hm2⟩
  go_wp2_with fail
  (with_reducible refine (open_new bd bs bf 128 16 F.new ⟨rfl, rfl⟩ [] _ hd2 (by simp)).mono ?_); rintro _ w4 ⟨bw, a, c, d0, l0, rfl, hbw, ho, hst, hm3⟩
  have hst : St d0 l0 8 128 [] 1 := hst
  have HS0 := Lib.hid hst
  have HO0 := Lib.hid ho
  have hlts := hd2.lts
  have hbase : ∀ x ∈ [bd, bs, bf, bw], w.heap.size ≤ x := by
    have := hm12.size
    have := hm2.size
    intro x hx
    simp at hx
    omega
  have HB := Lib.hid hbase
  have HM0 := Lib.hid (below_mod (below_mod hm12.below (hm2.mono (S' := []) (by simp)) (by simp)) hm3 (fun x hx => hbase x (by simp at hx ⊢; omega)))
  clear hbase hst ho hm12 hm2 hm3 hf2 hd2 hlts hb1 hbd hbs hbw
  go_wp2_with fail
  clear g1 g2 g3 g4 g5
  go_loopw [60] (fun i wr => ∃ (k : Nat) (dr : D) (lr : Lg) (recs : List ByteArray), i = .int .i64 k ∧ (k : Int) ≤ n ∧ recs.length = min k 7 ∧ Obj wr bw bd bs bf dr lr [bw] ∧ St dr lr 8 128 recs 1 ∧ Below w.heap.size w wr) (fun i _ => n.toNat - (intOf i).toNat)
  case atStart => exact ⟨0, d0, l0, [], rfl, HN.out.1, rfl, HO0.out, HS0.out, HM0.out⟩
  case round =>
    obtain ⟨k, dr, lr, recs, rfl, hk, hlen, ho, hst, hm⟩ := hrel
    have HO := Lib.hid ho
    have HS := Lib.hid hst
    have HM := Lib.hid hm
    have HLEN := Lib.hid hlen
    clear ho hst hm hlen
    by_cases hlt : (k : Int) < n
    · have HWK := Lib.hid (show wrap64 ((k : Int) + 1) = ((k + 1 : Nat) : Int) by have := HN.out; rw [IntWalk.wrap64_in _ (by omega)]; omega)
      have HLT := Lib.hid hlt
      by_cases hr : recs.length + 1 < 8
      · have HR := Lib.hid hr
        clear hr
        go_wp2_with fail
        (with_reducible refine (append_yes HO.out HS.out (s := ⟨#[120]⟩) (by decide) HR.out).mono ?_); rintro _ w5 ⟨rfl, d1, l1, ho, hst, hm⟩
        have HO1 := Lib.hid ho
        have HS1 := Lib.hid hst
        have HM1 := Lib.hid (below_mod HM.out hm HB.out)
        clear ho hst hm
        go_wp2
        go_roundw
        case rel => exact ⟨k + 1, d1, l1, _, by rw [HWK.out], by have := HLT.out; omega, by have := HR.out; have := HLEN.out; simp; omega, HO1.out, HS1.out, HM1.out⟩
        case measure =>
          show n.toNat - (intOf (.int .i64 (wrap64 ((k : Int) + 1)))).toNat < n.toNat - (intOf (.int .i64 (k : Int))).toNat
          rw [HWK.out]
          simp only [intOf, Int.toNat_natCast]
          have := HLT.out
          omega
      · have HR := Lib.hid (show recs.length + 1 = 8 by have := HLEN.out; omega)
        clear hr
        go_wp2_with fail
        (with_reducible refine (append_full HO.out HS.out (s := ⟨#[120]⟩) (by decide) HR.out).mono ?_); rintro _ w5 ⟨rfl, ho, hm⟩
        have HO1 := Lib.hid ho
        have HM1 := Lib.hid (below_mod HM.out hm HB.out)
        clear ho hm
        go_wp2
        go_roundw
        case rel => exact ⟨k + 1, dr, lr, _, by rw [HWK.out], by have := HLT.out; omega, by have := HR.out; have := HLEN.out; omega, HO1.out, HS.out, HM1.out⟩
        case measure =>
          show n.toNat - (intOf (.int .i64 (wrap64 ((k : Int) + 1)))).toNat < n.toNat - (intOf (.int .i64 (k : Int))).toNat
          rw [HWK.out]
          simp only [intOf, Int.toNat_natCast]
          have := HLT.out
          omega
    · have hle : decide ((k : Int) < n) = false := decide_eq_false hlt
      have HRM := Lib.hid (show ((8 : Nat) : Int) - 1 - recs.length = max (7 - n) 0 by have := HLEN.out; omega)
      have hw7 : wrap64 (7 - n) = 7 - n := by have := HN.out; rw [IntWalk.wrap64_in _ (by omega)]
      clear hlt
      go_wp2_with fail
      (with_reducible refine (room_st HO.out HS.out _ HRM.out).mono ?_); rintro _ w6 ⟨rfl, hm⟩
      have HO1 := Lib.hid (HO.out.same hm)
      have HM1 := Lib.hid (below_mod HM.out hm (by simp))
      clear hm
      go_wp2_with fail
      (with_reducible refine (check_yes HO1.out HS.out (s := s) (by have := HN.out; omega) (by decide)).mono ?_); rintro _ w7 ⟨rfl, d2, l2, ho, hst, hm⟩
      have hst2 : St d2 l2 8 128 [s] 2 := hst
      have HO2 := Lib.hid ho
      have HS2 := Lib.hid hst2
      have HM2 := Lib.hid (below_mod HM1.out hm HB.out)
      clear ho hst hst2 hm
      go_wp2_with fail
      (with_reducible refine (gen_st HO2.out HS2.out).mono ?_); rintro _ w8 ⟨rfl, rfl⟩
      go_wp2_with fail
      (with_reducible refine (room_st HO2.out HS2.out 6 (by simp)).mono ?_); rintro _ w9 ⟨rfl, hm⟩
      have HO3 := Lib.hid (HO2.out.same hm)
      have HM3 := Lib.hid (below_mod HM2.out hm (by simp))
      clear hm
      go_wp2_with fail
      have hown0 := one_row w9 s
      have HOW := Lib.hid hown0
      have HLT9 := Lib.hid (HO3.out.lts)
      have HO4 := Lib.hid (HO3.out.same ((Mod.refl [] _).alloc (.cells #[.string s] 9)))
      have HM4 := Lib.hid (below_mod HM3.out ((Mod.refl [] _).alloc (.cells #[.string s] 9)) (by simp))
      clear hown0
      go_loopw [12, 90] (fun v i wr => ∃ (k : Nat) (dr : D) (lr : Lg) (recs : List ByteArray), i = .int .i64 k ∧ (k : Int) ≤ more ∧ recs.length = min k 6 ∧ Obj wr bw bd bs bf dr lr [bw] ∧ St dr lr 8 128 (s :: recs) 2 ∧ wr.ownsRow w9.heap.size 9 1 v (s :: recs).length ((s :: recs).map Value.string) ∧ Below w.heap.size w wr ∧ w9.heap.size ≤ wr.heap.size) (fun _ i _ => more.toNat - (intOf i).toNat)
      case atStart => exact ⟨0, d2, l2, [], rfl, HN.out.2.2.1, rfl, HO4.out, HS2.out, HOW.out, HM4.out, by simp⟩
      case round =>
        obtain ⟨j, dr2, lr2, recs2, rfl, hj, hlen2, ho, hst, hown, hm, hsz⟩ := hrel
        have HO5 := Lib.hid ho
        have HS5 := Lib.hid hst
        have HM5 := Lib.hid hm
        have HL5 := Lib.hid hlen2
        have HR5 := Lib.hid hown
        have HZ5 := Lib.hid hsz
        clear ho hst hm hlen2 hown hsz
        by_cases hlt : (j : Int) < more
        · have HWK := Lib.hid (show wrap64 ((j : Int) + 1) = ((j + 1 : Nat) : Int) by have := HN.out; rw [IntWalk.wrap64_in _ (by omega)]; omega)
          have HLT := Lib.hid hlt
          by_cases hr : j < 6
          · have HR := Lib.hid hr
            have hr6 : decide ((j : Int) < 6) = true := decide_eq_true (by omega)
            clear hr
            go_wp2_with fail
            (with_reducible refine (append_yes HO5.out HS5.out (s := ⟨#[121]⟩) (by decide) (by have := HL5.out; have := HR.out; simp; omega)).mono ?_); rintro _ w10 ⟨rfl, d1, l1, ho, hst, hm⟩
            have HO6 := Lib.hid ho
            have HS6 := Lib.hid hst
            have HM6 := Lib.hid (below_mod HM5.out hm HB.out)
            have HR6 := Lib.hid (own_mod HR5.out hm (fun x hx => HLT9.out x hx))
            obtain ⟨i0, hinf, hz0, hz1, hz2⟩ := info_parts info_str
            have HI0 := Lib.hid (And.intro hinf (And.intro hz0 (And.intro hz1 hz2)))
            have HM10 := Lib.hid (show (s :: recs2).length + 1 ≤ maxLen by have := HL5.out; unfold maxLen; simp; omega)
            have HCL := Lib.hid (show ((s :: recs2).length + 1) * 16 ≤ 140737488355328 by have := HL5.out; simp; omega)
            have HWS := Lib.hid (show w9.heap.size ≤ w10.heap.size from Nat.le_trans HZ5.out hm.size)
            clear ho hst hm hinf hz0 hz1 hz2
            go_wp2_with (at_builtin; refine wpList_append_own _ rfl (.tmp 110) (.tmp 111) 31 rfl w9.heap.size 9 i0 (.string ⟨#[]⟩) 1 16 Try.underlying31 HI0.out.1 HI0.out.2.1 HI0.out.2.2.1 HI0.out.2.2.2 rfl (by decide) _ (s :: recs2).length ((s :: recs2).map Value.string) rfl (HR6.out.alloc _) ⟨w10.heap.size, 0, none⟩ 1 1 [.string ⟨#[121]⟩] rfl rfl (one_new _ _ _) (by intro u hu; simp at hu; subst hu; rfl) HM10.out HCL.out (by have := HWS.out; simp; omega) ?_)
            intro v' w11 hown2 hg11 _
            obtain ⟨SS, hms, hss⟩ := grown_mod (HR6.out.alloc (.cells #[.string ⟨#[121]⟩] 9)) hg11
            have hmx := ((Mod.refl SS w10).alloc (.cells #[.string ⟨#[121]⟩] 9)).trans hms
            have HO7 := Lib.hid (HO6.out.far hmx (fun x hx h => by have h1 := hss x h; have h2 := HLT9.out x hx; omega))
            have HM7 := Lib.hid (below_mod HM6.out hmx (fun x hx => by have h1 := hss x hx; have h2 := HM3.out.size; omega))
            have HR7 := Lib.hid hown2
            have HZ7 := Lib.hid (Nat.le_trans HWS.out hmx.size)
            clear hown2 hg11 hms hss hmx
            go_wp2
            go_roundw
            case rel =>
              refine ⟨j + 1, d1, l1, recs2 ++ [⟨#[121]⟩], by rw [HWK.out], by have := HLT.out; omega, by have := HL5.out; have := HR.out; simp; omega, HO7.out, (show St d1 l1 8 128 (s :: (recs2 ++ [⟨#[121]⟩])) 2 from HS6.out), ?_, HM7.out, HZ7.out⟩
              have := HR7.out
              simp only [List.length_append, List.map_append, List.map_cons, List.map_nil, List.length_cons] at this ⊢
              exact this
            case measure =>
              show more.toNat - (intOf (.int .i64 (wrap64 ((j : Int) + 1)))).toNat < more.toNat - (intOf (.int .i64 (j : Int))).toNat
              rw [HWK.out]
              simp only [intOf, Int.toNat_natCast]
              have := HLT.out
              omega
          · have hr6 : decide ((j : Int) < 6) = false := decide_eq_false (by omega)
            have HR := Lib.hid (show recs2.length = 6 by have := HL5.out; omega)
            have HG := Lib.hid (show ¬ j < 6 from hr)
            clear hr
            go_wp2_with fail
            (with_reducible refine (append_full HO5.out HS5.out (s := ⟨#[121]⟩) (by decide) (by have := HR.out; simp; omega)).mono ?_); rintro _ w10 ⟨rfl, ho, hm⟩
            have HO6 := Lib.hid ho
            have HM6 := Lib.hid (below_mod HM5.out hm HB.out)
            have HR6 := Lib.hid (own_mod HR5.out hm (fun x hx => HLT9.out x hx))
            have HZ6 := Lib.hid (Nat.le_trans HZ5.out hm.size)
            clear ho hm
            go_wp2
            go_roundw
            case rel => exact ⟨j + 1, dr2, lr2, recs2, by rw [HWK.out], by have := HLT.out; omega, by have := HL5.out; have := HG.out; omega, HO6.out, HS5.out, HR6.out, HM6.out, HZ6.out⟩
            case measure =>
              show more.toNat - (intOf (.int .i64 (wrap64 ((j : Int) + 1)))).toNat < more.toNat - (intOf (.int .i64 (j : Int))).toNat
              rw [HWK.out]
              simp only [intOf, Int.toNat_natCast]
              have := HLT.out
              omega
        · have hle2 : decide ((j : Int) < more) = false := decide_eq_false hlt
          clear hlt
          go_wp2_with fail
          (with_reducible refine (open_o bd bs bf dr2 lr2 _ _ HO5.out.disk HO5.out.snd HO5.out.lt).mono ?_); rintro _ w11 ⟨bw2, v2, rfl, hbw2, ho7, hs7, hm7⟩
          rw [HS5.out.recs] at hs7
          have hr7 := own_mod HR5.out hm7 (fun x hx => HLT9.out x (by simp at hx ⊢; omega))
          have hr8 := own_strs (out := []) hr7 (by simp)
          have HS7 := Lib.hid (And.intro hs7 hr8)
          have HM8 := Lib.hid (below_mod HM5.out hm7 (fun x hx => HB.out x (by simp at hx ⊢; omega)))
          have HLN := Lib.hid (show (s :: recs2).length ≤ 100000 by have := HL5.out; simp; omega)
          clear hs7 hm7 ho7 hbw2 hr7 hr8
          go_wp2_with fail
          (with_reducible refine (same_any _ _ _ _ _ _ HS7.out.1 HS7.out.2 HLN.out).mono ?_); rintro _ w12 ⟨rfl, hm12⟩
          have HM9 := Lib.hid (below_mod HM8.out hm12 (by simp))
          clear hm12
          go_wp2
          go_ret
          exact ⟨rfl, HM9.out⟩


open Go.ChangeShapes Go.WideShapes Go.ChangeAt
open Go.ChangeMaps (open_string shut_string)
theorem walCheckpoints_own : ownKnob Try.prog.godebug = none := by kernel_rfl
theorem walCheckpoints_laidOut : laidOutB Try.prog = true := by kernel_rfl
set_option maxRecDepth 100000 in
theorem walCheckpoints_lifted (os : Os) (started : os.Started) (H : Type) (enc : TypeId × Value → H) :
    ReturnsInHanded {} Try.checked os 4 .any (Rows.walCheckpointsSpec.pre6 enc Try.prog Try.f4 Rows.walCheckpointsRow.domain false) (Rows.walCheckpointsSpec.post enc Try.prog Try.f4 false true false false) := by
  refine returnsInHanded_of_change (C := Try.checked) walCheckpoints_own started (by kernel_rfl) Try.func4
    (ChangeSpec.witness6 (enc := enc) (C := Try.checked) false ⟨#[], #[.int .i64 0, .int .i64 0, .string ⟨#[]⟩], []⟩ 8 (by kernel_rfl) (by kernel_rfl) (by kernel_rfl) (by kernel_rfl)) ?_
  intro W base args ds gs before hval0 hW hcnd _
  have hval : ∀ (j : Nat) t v, Try.f4.params[j]? = some t → args[j]? = some v → Value.okWide Try.prog W .any base t v := hval0
  have hW' := hW
  obtain ⟨p, q, hA0, hV, rfl, hfz, hnd⟩ := hW
  have hA : DataW.TrodAll enc Try.prog W 0 (fun _ => true) true Try.f4.params.toList args.toList ds p := hA0
  rw [Try.params4] at hA hval
  obtain ⟨v0, vs0, d0, ds0, p0, q0, hargs, rfl, rfl, h0, r0⟩ := trodAll_cons hA
  obtain ⟨v1, vs1, d1, ds1, p1, q1, rfl, rfl, rfl, h1, r1⟩ := trodAll_cons r0
  obtain ⟨v2, vs2, d2, ds2, p2, q2, rfl, rfl, rfl, h2, r2⟩ := trodAll_cons r1
  obtain ⟨rfl, rfl, rfl⟩ := trodAll_nil r2
  obtain rfl : args = #[v0, v1, v2] := by cases args; simp_all
  obtain ⟨rfl, rfl⟩ := trodVars_none hV
  obtain ⟨a0, rfl, rfl, rfl, w0⟩ := open_int Try.underlying3 (hval 0 3 v0 rfl rfl) h0
  have w0' := w0
  simp [Lit.wf, show IntKind.i64.min = -9223372036854775808 from rfl, show IntKind.i64.max = 9223372036854775807 from rfl] at w0'
  obtain ⟨a1, rfl, rfl, rfl, w1⟩ := open_int Try.underlying3 (hval 1 3 v1 rfl rfl) h1
  have w1' := w1
  simp [Lit.wf, show IntKind.i64.min = -9223372036854775808 from rfl, show IntKind.i64.max = 9223372036854775807 from rfl] at w1'
  obtain ⟨a2, rfl, rfl, rfl, w2⟩ := open_string Try.underlying9 (hval 2 9 v2 rfl rfl) h2
  clear hA0 hval0
  refine (checkpoints_calls a0 a1 a2 W).mono fun e W' ⟨he, bel⟩ => ?_
  subst he
  exact ⟨_, rfl, _, _, _, [], _, [], hW', trodAll_mk1 (shut_bool Try.underlying4 _), (trodAll_cons_mk (shut_int Try.underlying3 w0) (trodAll_cons_mk (shut_int Try.underlying3 w1) (trodAll_cons_mk (shut_string Try.underlying9 w2) trodAll_mk0))), rfl, bel.frame _, fun h => by cases h⟩

theorem walCheckpoints_holds : Rows.WalCheckpointsSaid :=
  OpenClaim.holds_of_wide 4 Try.f4 rfl rfl rfl rfl rfl rfl rfl ⟨rfl, rfl, rfl, rfl, rfl⟩ rfl rfl rfl rfl rfl (by kernel_rfl) Try.func4 (by kernel_rfl)
    (of_decide_eq_true (by kernel_rfl)) (by unfold Func.isWrapper; first | (rw [if_pos (by decide +kernel)]; kernel_rfl) | (rw [if_neg (by decide +kernel)]; exact ⟨rfl, rfl⟩))
    (fun os started H enc _ => walCheckpoints_lifted os started H enc)
#print axioms walCheckpoints_holds
end Go.Proofs.Yteidhbjfmmodhaa
