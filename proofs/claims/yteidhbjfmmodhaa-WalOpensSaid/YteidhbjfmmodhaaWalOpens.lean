/-
  Opened twice, a log has the same records, room and generation; a fresh disk's has none: the law WalOpens returns true for every pair of numbers and every slice of acts. No condition.
-/
import Derived.Test.YteidhbjfmmodhaaWalGreat
import Derived.Test.YteidhbjfmmodhaaArr
import Derived.Test.YteidhbjfmmodhaaRows
import Derived.ProofKit
import Derived.OpenShut
import Derived.ShutString
import Derived.ChangeOld
namespace Go.Proofs.Yteidhbjfmmodhaa
open Go.RowKit Crc Fr

theorem same_list (v1 v2 : Value) (l : List ByteArray) (o1 o2 : List Nat) (w : World) (h1 : StrsAt w v1 l o1) (h2 : StrsAt w v2 l o2) (hl : l.length ≤ 100000) :
    Calls Try.prog 18 #[v1, v2] w fun e w' => e = .returned (.bool true) ∧ Mod [] w w' := same_any v1 v2 l o1 o2 w h1 h2 hl



set_option maxRecDepth 100000 in
set_option maxHeartbeats 4000000 in
theorem opens_calls (x y : Int) (a : Option Addr) (cap : Nat) (l : List Act7) (w : World) (hl : ArgActs w a l) :
    Calls Try.prog 3 #[.agg #[.int .i64 x, .int .i64 y], .slice a l.length cap] w fun e w' => e = .returned (.bool true) ∧ Below w.heap.size w w' := by
  have HA := Lib.hid hl
  obtain ⟨gr, hgr⟩ : ∃ gr, gr = greatB y l := ⟨_, rfl⟩
  have HGR := Lib.hid hgr
  clear hl hgr
  obtain ⟨bx, hbx⟩ : ∃ bx, bx = w.heap.size := ⟨_, rfl⟩
  have hx0 := Blk.new w [.int .i64 x, .int .i64 y] 22
  rw [← hbx] at hx0
  obtain ⟨w0, hw0⟩ : ∃ w0, w0 = w.alloc (.cells #[.int .i64 x, .int .i64 y] 22) := ⟨_, rfl⟩
  have hx1 : Blk w0 bx [.int .i64 x, .int .i64 y] 22 := by rw [hw0]; exact hx0
  have hm0 : Mod [] w w0 := by rw [hw0]; exact (Mod.refl [] _).alloc _
  have HM0 := Lib.hid hm0
  have HX0 := Lib.hid hx1
  have HBX := Lib.hid hbx
  have HW0 := Lib.hid hw0
  clear hx0 hx1 hm0 hbx hw0
  cases gr with
  | true =>
    go_enter Try.func3, Try.ntmps3
    go_wp2_with fail
    rw [← HW0.out, ← HBX.out]
    (with_reducible refine (fnew_any _).mono ?_); rintro _ w1 ⟨bf, rfl, hb1, hf1, hm1⟩
    go_wp2_with fail
    (with_reducible refine (wawake_any _).mono ?_); rintro _ w2 ⟨rfl, hb2⟩
    have hm2 : Mod [] w0 w2 := hm1.then hb2
    have hf2 := hf1.mod (Mod.of_below hb2 : Mod [] w1 w2) (by simp)
    have hx2 := HX0.out.mod hm2 (by simp)
    have c0 := hx2.cell 0
    have c1 := hx2.cell 1
    simp only [List.getElem?_cons_zero, List.getElem?_cons_succ] at c0 c1
    have HBF := Lib.hid (show w.heap.size ≤ bf from Nat.le_trans HM0.out.size hb1)
    have HA2 := Lib.hid (HA.out.mod (HM0.out.trans hm2))
    have HX2 := Lib.hid hx2
    have HF2 := Lib.hid hf2
    have HM1 := Lib.hid (HM0.out.trans hm2)
    clear hm1 hb2 hm2 hx2 hb1 hf1 hf2
    go_wp2_with fail
    (with_reducible refine (great_any x y a cap l _ HA2.out).mono ?_); rintro _ w3 ⟨rfl, hm3⟩
    rw [← HGR.out]
    have HM2 := Lib.hid (HM1.out.trans hm3)
    have HF3 := Lib.hid (HF2.out.mod hm3 (by simp))
    have hx3 := HX2.out.mod hm3 (by simp)
    have d0 := hx3.cell 0
    have d1 := hx3.cell 1
    simp only [List.getElem?_cons_zero, List.getElem?_cons_succ] at d0 d1
    have HC := Lib.hid (And.intro d0 d1)
    have HA3 := Lib.hid (HA2.out.mod hm3)
    clear hm3 c0 c1 hx3 d0 d1
    go_wp2_with fail
    (with_reducible refine (wawake_any _).mono ?_); rintro _ w4 ⟨rfl, hb4⟩
    go_wp2
    go_ret
    exact ⟨rfl, (HM2.out.then hb4).below⟩
  | false =>
    go_enter Try.func3, Try.ntmps3
    go_wp2_with fail
    rw [← HW0.out, ← HBX.out]
    (with_reducible refine (fnew_any _).mono ?_); rintro _ w1 ⟨bf, rfl, hb1, hf1, hm1⟩
    go_wp2_with fail
    (with_reducible refine (wawake_any _).mono ?_); rintro _ w2 ⟨rfl, hb2⟩
    have hm2 : Mod [] w0 w2 := hm1.then hb2
    have hf2 := hf1.mod (Mod.of_below hb2 : Mod [] w1 w2) (by simp)
    have hx2 := HX0.out.mod hm2 (by simp)
    have c0 := hx2.cell 0
    have c1 := hx2.cell 1
    simp only [List.getElem?_cons_zero, List.getElem?_cons_succ] at c0 c1
    have HBF := Lib.hid (show w.heap.size ≤ bf from Nat.le_trans HM0.out.size hb1)
    have HA2 := Lib.hid (HA.out.mod (HM0.out.trans hm2))
    have HX2 := Lib.hid hx2
    have HF2 := Lib.hid hf2
    have HM1 := Lib.hid (HM0.out.trans hm2)
    clear hm1 hb2 hm2 hx2 hb1 hf1 hf2
    go_wp2_with fail
    (with_reducible refine (great_any x y a cap l _ HA2.out).mono ?_); rintro _ w3 ⟨rfl, hm3⟩
    rw [← HGR.out]
    have HM2 := Lib.hid (HM1.out.trans hm3)
    have HF3 := Lib.hid (HF2.out.mod hm3 (by simp))
    have hx3 := HX2.out.mod hm3 (by simp)
    have d0 := hx3.cell 0
    have d1 := hx3.cell 1
    simp only [List.getElem?_cons_zero, List.getElem?_cons_succ] at d0 d1
    have HC := Lib.hid (And.intro d0 d1)
    have HA3 := Lib.hid (HA2.out.mod hm3)
    clear hm3 c0 c1 hx3 d0 d1
    have c0 := HC.out.1
    have c1 := HC.out.2
    go_wp2_with fail
    (with_reducible refine (dnew_any x y bf F.new _ HF3.out).mono ?_); rintro _ w4 ⟨bd, bs, rfl, hbd, hbs, hd2, hm2⟩
    clear c0 c1
    go_wp2_with fail
    (with_reducible refine (open_new bd bs bf x y F.new ⟨rfl, rfl⟩ [] _ hd2 (by simp)).mono ?_); rintro _ w5 ⟨bw, a1, c, d0, l0, rfl, hbw, ho, hst, hm3⟩
    obtain ⟨half, hhalf⟩ : ∃ half, half = lenOfI y / 2 := ⟨_, rfl⟩
    obtain ⟨size, hsize⟩ : ∃ size, size = sizeOfI x := ⟨_, rfl⟩
    have hst : St d0 l0 half size [] 1 := by rw [hhalf, hsize]; exact hst
    have HS0 := Lib.hid hst
    have HO0 := Lib.hid ho
    have hlts := hd2.lts
    have hbase : ∀ q ∈ [bd, bs, bf, bw], w.heap.size ≤ q := by
      have := HM2.out.size
      have := hm2.size
      have := HBF.out
      intro q hq
      simp at hq
      omega
    have HB := Lib.hid hbase
    have HM5 := Lib.hid (below_mod (HM2.out.trans hm2).below hm3 (fun q hq => hbase q (by simp at hq ⊢; omega)))
    clear hbase hst ho hm2 hm3 hd2 hlts hbd hbs hbw hhalf hsize
    go_wp2_with fail
    (with_reducible refine (gen_st HO0.out HS0.out).mono ?_); rintro _ w6 ⟨rfl, rfl⟩
    have HR := Lib.hid (show (half : Int) - 1 - ([] : List ByteArray).length = wrap64 (wrap64 ((d0.last.length : Int) / 2) - 1) by
      have h1 := HO0.out.disk.fits.n1
      have h2 := HO0.out.disk.fits.n2
      have h3 := HS0.out.half
      unfold D.half at h3
      rw [IntWalk.wrap64_in ((d0.last.length : Int) / 2) (by omega), IntWalk.wrap64_in _ (by omega)]
      simp; omega)
    go_wp2_with fail
    (with_reducible refine (room_st HO0.out HS0.out _ HR.out).mono ?_); rintro _ w7 ⟨rfl, hm⟩
    have HO1 := Lib.hid (HO0.out.same hm)
    have HM6 := Lib.hid (below_mod HM5.out hm (by simp))
    clear hm
    go_wp2_with fail
    (with_reducible refine (len_any bd bs bf d0 _ _ HO1.out.disk).mono ?_); rintro _ w8 ⟨rfl, rfl⟩
    go_wp2_with fail
    have HAL := Lib.hid (show l.length ≤ 40 by
      have := HGR.out
      unfold greatB at this
      simp at this
      omega)
    clear HO0 HS0 HR HM5 HA2 HX2 HF2 HM1 HX0 HW0
    go_loopw [68] (fun i wr => ∃ (k : Nat) (dr : D) (lr : Lg), i = .int .i64 k ∧ k ≤ l.length ∧ Obj wr bw bd bs bf dr lr [bw] ∧ Below w.heap.size w wr) (fun i _ => l.length - (intOf i).toNat)
    case atStart => exact ⟨0, d0, l0, rfl, Nat.zero_le _, HO1.out, HM6.out⟩
    case round =>
      obtain ⟨k, dr, lr, rfl, hk, ho, hm⟩ := hrel
      have HO := Lib.hid ho
      have HM := Lib.hid hm
      clear ho hm
      by_cases hlt : k < l.length
      · rcases HA.out with e | ⟨b, o, rfl, hb, hc⟩
        · rw [e] at hlt; exact absurd hlt (Nat.not_lt_zero _)
        obtain ⟨act, hact⟩ : ∃ act, act = l[k] := ⟨_, rfl⟩
        obtain ⟨_, c0, c1, c2, c3⟩ := hc k hlt
        rw [← hact] at c0 c1 c2 c3
        have hmm : Mod [] w wr := Mod.of_below HM.out
        have q0 := hmm.cell c0 (by simp)
        have q1 := hmm.cell c1 (by simp)
        have q2 := hmm.cell c2 (by simp)
        have q3 := hmm.cell c3 (by simp)
        have HWK := Lib.hid (show wrap64 ((k : Int) + 1) = ((k + 1 : Nat) : Int) by have := HAL.out; rw [IntWalk.wrap64_in _ (by omega)]; omega)
        have HLT := Lib.hid hlt
        clear hc hb c0 c1 c2 c3 hact hmm
        have HO2 := Lib.hid (HO.out.same ((Mod.refl [] wr).alloc (.cells #[.int .i64 act.kind, .string act.text, .int .i64 act.n, .int .u64 act.keep] 38)))
        have HM2 := Lib.hid (below_mod HM.out ((Mod.refl [] wr).alloc (.cells #[.int .i64 act.kind, .string act.text, .int .i64 act.n, .int .u64 act.keep] 38)) (by simp))
        have HBOX := Lib.hid (Blk.new wr [.int .i64 act.kind, .string act.text, .int .i64 act.n, .int .u64 act.keep] 38)
        have HNB := Lib.hid (show wr.heap.size ∉ [bd, bs, bf, bw] from fun hx => by have := HO.out.lts _ hx; omega)
        by_cases e1 : act.kind = 1
        · have g1 : (act.kind == 1) = true := by simp [e1]
          have g2 : (act.kind == 2) = false := by simp [e1]
          clear e1
          go_wp2_with fail
          (with_reducible refine (append_o bw bd bs bf dr lr _ act.text _ HO2.out).mono ?_); rintro _ w9 ⟨rfl, ho, hm⟩
          have HO3 := Lib.hid ho
          have HM3 := Lib.hid (below_mod HM2.out hm HB.out)
          have b0 := (HBOX.out.mod hm HNB.out).cell 0
          simp only [List.getElem?_cons_zero] at b0
          clear ho hm
          go_wp2
          go_roundw
          case rel => exact ⟨k + 1, _, _, by rw [HWK.out], HLT.out, HO3.out, HM3.out⟩
          case measure =>
            show l.length - (intOf (.int .i64 (wrap64 ((k : Int) + 1)))).toNat < l.length - (intOf (.int .i64 (k : Int))).toNat
            rw [HWK.out]
            simp only [intOf, Int.toNat_natCast]
            have := HLT.out
            omega
        · by_cases e2 : act.kind = 2
          · have g1 : (act.kind == 1) = false := by simp [e2]
            have g2 : (act.kind == 2) = true := by simp [e2]
            clear e1 e2
            go_wp2_with fail
            (with_reducible refine (check_o bw bd bs bf dr lr _ act.text _ HO2.out).mono ?_); rintro _ w9 ⟨rfl, ho, hm⟩
            have HO3 := Lib.hid ho
            have HM3 := Lib.hid (below_mod HM2.out hm HB.out)
            clear ho hm
            go_wp2
            go_roundw
            case rel => exact ⟨k + 1, _, _, by rw [HWK.out], HLT.out, HO3.out, HM3.out⟩
            case measure =>
              show l.length - (intOf (.int .i64 (wrap64 ((k : Int) + 1)))).toNat < l.length - (intOf (.int .i64 (k : Int))).toNat
              rw [HWK.out]
              simp only [intOf, Int.toNat_natCast]
              have := HLT.out
              omega
          · have g1 : (act.kind == 1) = false := by simp [e1]
            have g2 : (act.kind == 2) = false := by simp [e2]
            clear e1 e2
            go_wp2
            go_roundw
            case rel => exact ⟨k + 1, _, _, by rw [HWK.out], HLT.out, HO2.out, HM2.out⟩
            case measure =>
              show l.length - (intOf (.int .i64 (wrap64 ((k : Int) + 1)))).toNat < l.length - (intOf (.int .i64 (k : Int))).toNat
              rw [HWK.out]
              simp only [intOf, Int.toNat_natCast]
              have := HLT.out
              omega
      · have hle : (l.length : Int) ≤ (k : Int) := by omega
        clear hlt
        go_wp2_with fail
        (with_reducible refine (open_o bd bs bf dr lr _ _ HO.out.disk HO.out.snd HO.out.lt).mono ?_); rintro _ w9 ⟨bx1, v1, rfl, hbx1, hox, hsx, hmx⟩
        have HLW := Lib.hid (HO.out.log_after hmx)
        have HOX := Lib.hid hox
        have HSX := Lib.hid hsx
        have HMX := Lib.hid (below_mod HM.out hmx (fun q hq => HB.out q (by simp at hq ⊢; omega)))
        clear hox hsx hmx
        go_wp2_with fail
        (with_reducible refine (open_o bd bs bf dr lr _ _ HOX.out.disk HOX.out.snd HOX.out.lt).mono ?_); rintro _ w10 ⟨by1, v2, rfl, hby1, hoy, hsy, hmy⟩
        have HLX := Lib.hid (HOX.out.log_after hmy)
        have HLW2 := Lib.hid (HLW.out.mod hmy (by
          have h1 := HO.out.disk.out
          have h2 := HO.out.mem
          intro hx
          simp at hx
          rcases hx with e | e | e
          · exact h1.1 (e ▸ h2)
          · exact h1.2.1 (e ▸ h2)
          · exact h1.2.2 (e ▸ h2)))
        have HOY := Lib.hid hoy
        have HSY := Lib.hid hsy
        have HSX2 := Lib.hid (HSX.out.mod hmy (by simp))
        have HMY := Lib.hid (below_mod HMX.out hmy (fun q hq => HB.out q (by simp at hq ⊢; omega)))
        clear hoy hsy hmy
        have HRL := Lib.hid (show lr.recs.length ≤ 100000 by have := HO.out.snd.recs; have := half_two HO.out.snd.fits; omega)
        have HRC := Lib.hid HO.out.snd.recs
        obtain ⟨a3, c3, rfl⟩ := HSX2.out.slice
        obtain ⟨a4, c4, rfl⟩ := HSY.out.slice
        go_wp2_with fail
        (with_reducible refine (same_any _ _ lr.recs _ _ _ HSX2.out HSY.out HRL.out).mono ?_); rintro _ w11 ⟨rfl, hm11⟩
        have HLW3 := Lib.hid (HLW2.out.mod hm11 (by simp))
        have HLX3 := Lib.hid (HLX.out.mod hm11 (by simp))
        have HOY3 := Lib.hid (HOY.out.same hm11)
        have HM11 := Lib.hid (below_mod HMY.out hm11 (by simp))
        clear hm11
        obtain ⟨r, hr⟩ : ∃ r, r = roomN dr lr := ⟨_, rfl⟩
        have HR := Lib.hid hr
        clear hr
        go_wp2_with fail
        (with_reducible refine (wroom_any bx1 bd bs bf dr _ lr _ HLX3.out HOY3.out.disk HRC.out).mono ?_); rintro _ w12 ⟨rfl, hm12⟩
        rw [← HR.out]
        have HLW4 := Lib.hid (HLW3.out.mod hm12 (by simp))
        have HLX4 := Lib.hid (HLX3.out.mod hm12 (by simp))
        have HOY4 := Lib.hid (HOY3.out.same hm12)
        have HM12 := Lib.hid (below_mod HM11.out hm12 (by simp))
        clear hm12
        go_wp2_with fail
        (with_reducible refine (wroom_any bw bd bs bf dr _ lr _ HLW4.out HOY4.out.disk HRC.out).mono ?_); rintro _ w13 ⟨rfl, hm13⟩
        rw [← HR.out]
        have HLW5 := Lib.hid (HLW4.out.mod hm13 (by simp))
        have HLX5 := Lib.hid (HLX4.out.mod hm13 (by simp))
        have HOY5 := Lib.hid (HOY4.out.same hm13)
        have HM13 := Lib.hid (below_mod HM12.out hm13 (by simp))
        clear hm13
        go_wp2_with fail
        (with_reducible refine (gen_any by1 bd lr _ HOY5.out.log).mono ?_); rintro _ w14 ⟨rfl, rfl⟩
        go_wp2_with fail
        (with_reducible refine (gen_any bw bd lr _ HLW5.out).mono ?_); rintro _ w14 ⟨rfl, rfl⟩
        go_wp2_with fail
        (with_reducible refine (gen_any bx1 bd lr _ HLX5.out).mono ?_); rintro _ w14 ⟨rfl, rfl⟩
        go_wp2_with fail
        (with_reducible refine (gen_any bw bd lr _ HLW5.out).mono ?_); rintro _ w14 ⟨rfl, rfl⟩
        go_wp2_with fail
        (with_reducible refine (len_any bd bs bf dr _ _ HOY5.out.disk).mono ?_); rintro _ w14 ⟨rfl, rfl⟩
        go_wp2_with fail
        (with_reducible refine (wroom_any bw bd bs bf dr _ lr _ HLW5.out HOY5.out.disk HRC.out).mono ?_); rintro _ w15 ⟨rfl, hm15⟩
        rw [← HR.out]
        have HM15 := Lib.hid (below_mod HM13.out hm15 (by simp))
        have HEND := Lib.hid (show (lr.recs.length : Int) = wrap64 (wrap64 (wrap64 ((dr.last.length : Int) / 2) - 1) - r) by
          have h1 := HOY5.out.disk.fits.n1
          have h2 := HOY5.out.disk.fits.n2
          have h3 := HRC.out
          have h4 := HR.out
          unfold roomN at h4
          unfold D.half at h3 h4
          rw [IntWalk.wrap64_in ((dr.last.length : Int) / 2) (by omega), IntWalk.wrap64_in ((dr.last.length : Int) / 2 - 1) (by omega), IntWalk.wrap64_in _ (by omega)]
          omega)
        clear hm15
        go_wp2
        rw [← HEND.out]
        simp only [beq_self_eq_true]
        go_ret
        exact ⟨rfl, HM15.out⟩

set_option maxRecDepth 100000 in
theorem opens_walk (v0 v1 : Value) (W : World) (t0 t1 : TypeId) (H : Type) (enc : TypeId × Value → H) (d0 d1 : DataW H) (p0 p1 : List MemPlace) (base : Nat)
    (ht0 : t0 = 22) (ht1 : t1 = 23) (h0 : DataW.Trod enc Try.prog W 0 (fun _ => true) true t0 v0 d0 p0) (hval0 : Value.okWide Try.prog W .any base t0 v0)
    (h1 : DataW.Trod enc Try.prog W 0 (fun _ => true) true t1 v1 d1 p1) (hval1 : Value.okWide Try.prog W .any base t1 v1) :
    Calls Try.prog 3 #[v0, v1] W fun e w' => e = .returned (.bool true) ∧ Below W.heap.size W w' := by
  subst ht0 ht1
  obtain ⟨x, y, rfl, _, _⟩ := arr2_ints Try.underlying22 Try.underlying3 (by kernel_rfl) (by kernel_rfl) hval0 h0
  obtain ⟨a, l, cap, rfl, ha⟩ := open_argacts v1 W H enc d1 p1 base h1 hval1
  exact opens_calls x y a cap l W ha


open Go.ChangeShapes Go.WideShapes Go.ChangeAt
open Go.ChangeMaps (open_string shut_string)
theorem walOpens_own : ownKnob Try.prog.godebug = none := by kernel_rfl
theorem walOpens_laidOut : laidOutB Try.prog = true := by kernel_rfl
set_option maxRecDepth 100000 in
theorem walOpens_lifted (os : Os) (started : os.Started) (H : Type) (enc : TypeId × Value → H) :
    ReturnsInHanded {} Try.checked os 3 .any (Rows.walOpensSpec.pre6 enc Try.prog Try.f3 Rows.walOpensRow.domain false) (Rows.walOpensSpec.post enc Try.prog Try.f3 false true false false) := by
  refine returnsInHanded_of_change (C := Try.checked) walOpens_own started (by kernel_rfl) Try.func3
    (ChangeSpec.witness6 (enc := enc) (C := Try.checked) false ⟨#[], #[.agg #[.int .i64 0, .int .i64 0], .slice none 0 0], []⟩ 8 (by kernel_rfl) (by kernel_rfl) (by kernel_rfl) (by kernel_rfl)) ?_
  intro W base args ds gs before hval0 hW hcnd _
  have hval : ∀ (j : Nat) t v, Try.f3.params[j]? = some t → args[j]? = some v → Value.okWide Try.prog W .any base t v := hval0
  have hW' := hW
  obtain ⟨p, q, hA0, hV, rfl, hfz, hnd⟩ := hW
  have hA : DataW.TrodAll enc Try.prog W 0 (fun _ => true) true Try.f3.params.toList args.toList ds p := hA0
  rw [Try.params3] at hA hval
  obtain ⟨v0, vs0, d0, ds0, p0, q0, hargs, rfl, rfl, h0, r0⟩ := trodAll_cons hA
  obtain ⟨v1, vs1, d1, ds1, p1, q1, rfl, rfl, rfl, h1, r1⟩ := trodAll_cons r0
  obtain ⟨rfl, rfl, rfl⟩ := trodAll_nil r1
  obtain rfl : args = #[v0, v1] := by cases args; simp_all
  obtain ⟨rfl, rfl⟩ := trodVars_none hV
  have k0 := h0
  have lt0 : ∀ x ∈ p0, x.block < W.heap.size := by obtain ⟨m, hm⟩ := k0; exact DataW.trod_lt m _ _ _ hm
  have vl0 := hval 0 22 v0 rfl rfl
  have h0m := h0
  have k1 := h1
  have lt1 : ∀ x ∈ p1, x.block < W.heap.size := by obtain ⟨m, hm⟩ := k1; exact DataW.trod_lt m _ _ _ hm
  have vl1 := hval 1 23 v1 rfl rfl
  have h1m := h1
  clear hA0 hval0
  refine (opens_walk v0 v1 W _ _ H enc _ _ _ _ base rfl rfl h0 vl0 h1 vl1).mono fun e W' ⟨he, bel⟩ => ?_
  subst he
  exact ⟨_, rfl, _, _, _, [], _, [], hW', trodAll_mk1 (shut_bool Try.underlying4 _), (trodAll_cons_mk (Below.trod walOpens_laidOut (by kernel_rfl) (of_decide_eq_true (by kernel_rfl)) k0 bel lt0) (trodAll_cons_mk (Below.trod walOpens_laidOut (by kernel_rfl) (of_decide_eq_true (by kernel_rfl)) k1 bel lt1) trodAll_mk0)), rfl, bel.frame _, fun h => by cases h⟩

theorem walOpens_holds : Rows.WalOpensSaid :=
  OpenClaim.holds_of_wide 3 Try.f3 rfl rfl rfl rfl rfl rfl rfl ⟨rfl, rfl, rfl, rfl, rfl⟩ rfl rfl rfl rfl rfl (by kernel_rfl) Try.func3 (by kernel_rfl)
    (of_decide_eq_true (by kernel_rfl)) (by unfold Func.isWrapper; first | (rw [if_pos (by decide +kernel)]; kernel_rfl) | (rw [if_neg (by decide +kernel)]; exact ⟨rfl, rfl⟩))
    (fun os started H enc _ => walOpens_lifted os started H enc)
#print axioms walOpens_holds
end Go.Proofs.Yteidhbjfmmodhaa
