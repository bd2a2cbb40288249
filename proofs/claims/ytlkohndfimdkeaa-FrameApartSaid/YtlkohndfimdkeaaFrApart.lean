/-
  Two records of one size have one sector just if they are the same: the law FrameApart returns true for every two pairs of numbers and every two strings. No condition.
-/
import Derived.Test.YtlkohndfimdkeaaFrAwake
import Derived.Test.YtlkohndfimdkeaaArr
import Derived.Test.YtlkohndfimdkeaaRows
import Derived.ProofKit
import Derived.OpenShut
import Derived.ShutString
import Derived.ChangeOld
namespace Go.Proofs.Ytlkohndfimdkeaa
open Go.RowKit Crc Fr

theorem err0 (a b c : Int) (s : ByteArray) (he : errI a b s c = 0) : 128 ≤ c ∧ c ≤ 1024 ∧ 0 ≤ a ∧ a ≤ 4294967295 ∧ 0 ≤ b ∧ b ≤ 4294967295 ∧ (s.size : Int) ≤ c - 14 := by
  have hr : ¬ (c < 128 ∨ 1024 < c ∨ a < 0 ∨ 4294967295 < a ∨ b < 0 ∨ 4294967295 < b) := by
    intro h; unfold errI at he; rw [if_pos h] at he; omega
  have hl : ¬ (c - 14 < (s.size : Int)) := by
    intro h; unfold errI at he; rw [if_neg hr, if_pos h] at he; omega
  omega
theorem sec_inj (a b a' b' : Nat) (p p' : ByteArray) (c : Nat) (hp : p.size < 65536) (hp' : p'.size < 65536) (ha : a < 4294967296) (hb : b < 4294967296) (ha' : a' < 4294967296) (hb' : b' < 4294967296)
    (h : secB a b p c = secB a' b' p' c) : a = a' ∧ b = b' ∧ p = p' := by
  have h1 := congrArg genOf h
  have h2 := congrArg seqOf h
  have h3 := congrArg payOf h
  rw [sec_gen _ _ _ _ ha, sec_gen _ _ _ _ ha'] at h1
  rw [sec_seq _ _ _ _ hb, sec_seq _ _ _ _ hb'] at h2
  rw [sec_pay _ _ _ _ hp, sec_pay _ _ _ _ hp'] at h3
  exact ⟨h1, h2, h3⟩
theorem apart_law (a b a' b' : Int) (p p' : ByteArray) (h : errI a b p 256 = 0) (h' : errI a' b' p' 256 = 0) :
    ((outB a b p 256).toList == (outB a' b' p' 256).toList) = (((a == a') && (b == b')) && (p.toList == p'.toList)) := by
  have e := err0 a b 256 p h
  have e' := err0 a' b' 256 p' h'
  unfold outB
  rw [if_pos h, if_pos h', strEq, strEq, Bool.eq_iff_iff]
  simp only [decide_eq_true_eq, Bool.and_eq_true, beq_iff_eq]
  constructor
  · intro h2
    obtain ⟨h3, h4, h5⟩ := sec_inj _ _ _ _ _ _ _ (by omega) (by omega) (by omega) (by omega) (by omega) (by omega) h2
    exact ⟨⟨by omega, by omega⟩, h5⟩
  · rintro ⟨⟨rfl, rfl⟩, rfl⟩; rfl

theorem info_int : ∃ i, Try.prog.info? 3 = some i := by
  have h : (Try.prog.info? 3).isSome = true := by kernel_rfl
  exact Option.isSome_iff_exists.1 h
theorem cells_int : Try.prog.cellsOf 3 = 1 := by kernel_rfl
theorem arr_eq (a b a' b' : Int) (w : World) : (Op.equalIn 10000 34 (.agg #[.int .i64 a, .int .i64 b]) (.agg #[.int .i64 a', .int .i64 b'])).run Try.prog w = .ok ((a == a') && (b == b')) w := by
  obtain ⟨i, hi⟩ := info_int
  have h := run_equalIn_array (P := Try.prog) w 9999 #[.int .i64 a, .int .i64 b] #[.int .i64 a', .int .i64 b'] Try.underlying34 hi
  rw [show (10000 : Nat) = 9999 + 1 from rfl, h, cells_int]
  by_cases h1 : a = a' <;> by_cases h2 : b = b' <;> simp [List.range, List.range.loop, Op.eqItems, go_sem, h1, h2]
set_option maxRecDepth 100000 in
set_option maxHeartbeats 4000000 in
theorem apart_calls (a b a' b' : Int) (p p' : ByteArray) (w : World) :
    Calls Try.prog 7 #[.agg #[.int .i64 a, .int .i64 b], .agg #[.int .i64 a', .int .i64 b'], .agg #[.string p, .string p']] w fun e w' => e = .returned (.bool true) ∧ Below w.heap.size w w' := by
  by_cases hs : p.size ≤ 200
  · have hg : decide ((p.size : Int) > 200) = false := decide_eq_false (by omega)
    by_cases hs' : p'.size ≤ 200
    · have hg' : decide ((p'.size : Int) > 200) = false := decide_eq_false (by omega)
      by_cases he : errI a b p 256 = 0
      · have g1 : (errI a b p 256 != 0) = false := by simpa using he
        by_cases he' : errI a' b' p' 256 = 0
        · have g2 : (errI a' b' p' 256 != 0) = false := by simpa using he'
          have HL := Lib.hid (apart_law a b a' b' p p' he he')
          clear he he'
          go_enter Try.func7, Try.ntmps7
          go_wp2_with fail
          (with_reducible refine (fawake_any _).mono ?_); rintro _ w1 ⟨rfl, hb1⟩
          have k0 := keep (a := ⟨w.heap.size, 0, none⟩) (v := .int .i64 a) (by simp [go_sem]) hb1
          have k1 := keep (a := ⟨w.heap.size, 1, none⟩) (v := .int .i64 b) (by simp [go_sem]) hb1
          have k2 := keep (a := ⟨w.heap.size + 1, 0, none⟩) (v := .int .i64 a') (by simp [go_sem]) hb1
          have k3 := keep (a := ⟨w.heap.size + 1, 1, none⟩) (v := .int .i64 b') (by simp [go_sem]) hb1
          have k4 := keep (a := ⟨w.heap.size + 2, 0, none⟩) (v := .string p) (by simp [go_sem]) hb1
          have k5 := keep (a := ⟨w.heap.size + 2, 1, none⟩) (v := .string p') (by simp [go_sem]) hb1
          go_wp2_with fail
          (with_reducible refine (put_any4 a b 256 p _).mono ?_); rintro _ w2 ⟨rfl, hb2⟩
          have l0 := keep k0 hb2
          have l1 := keep k1 hb2
          have l2 := keep k2 hb2
          have l3 := keep k3 hb2
          have l4 := keep k4 hb2
          have l5 := keep k5 hb2
          clear k0 k1 k2 k3 k4 k5
          go_wp2_with fail
          (with_reducible refine (put_any4 a' b' 256 p' _).mono ?_); rintro _ w3 ⟨rfl, hb3⟩
          have m0 := keep l0 hb3
          have m1 := keep l1 hb3
          have m2 := keep l2 hb3
          have m3 := keep l3 hb3
          have m4 := keep l4 hb3
          have m5 := keep l5 hb3
          clear l0 l1 l2 l3 l4 l5
          have hb := bthen (bthen (bthen (balloc (balloc (balloc (Below.refl w.heap.size w) _) _) _) hb1) hb2) hb3
          have HH := Lib.hid hb
          clear hb1 hb2 hb3 hb
          have hq := fun W : World => arr_eq a b a' b' W
          cases hc : ((a == a') && (b == b'))
          · have hl := HL.out
            rw [hc, Bool.false_and] at hl
            clear HL
            rw [hc] at hq
            clear hc
            go_wp2
            go_ret
            exact ⟨rfl, HH.out⟩
          · have hl := HL.out
            rw [hc, Bool.true_and] at hl
            clear HL
            rw [hc] at hq
            clear hc
            go_wp2
            go_ret
            exact ⟨by simp, HH.out⟩
        · have g2 : (errI a' b' p' 256 != 0) = true := by simpa using he'
          clear he he'
          go_enter Try.func7, Try.ntmps7
          go_wp2_with fail
          (with_reducible refine (fawake_any _).mono ?_); rintro _ w1 ⟨rfl, hb1⟩
          have k0 := keep (a := ⟨w.heap.size, 0, none⟩) (v := .int .i64 a) (by simp [go_sem]) hb1
          have k1 := keep (a := ⟨w.heap.size, 1, none⟩) (v := .int .i64 b) (by simp [go_sem]) hb1
          have k2 := keep (a := ⟨w.heap.size + 1, 0, none⟩) (v := .int .i64 a') (by simp [go_sem]) hb1
          have k3 := keep (a := ⟨w.heap.size + 1, 1, none⟩) (v := .int .i64 b') (by simp [go_sem]) hb1
          have k4 := keep (a := ⟨w.heap.size + 2, 0, none⟩) (v := .string p) (by simp [go_sem]) hb1
          have k5 := keep (a := ⟨w.heap.size + 2, 1, none⟩) (v := .string p') (by simp [go_sem]) hb1
          go_wp2_with fail
          (with_reducible refine (put_any4 a b 256 p _).mono ?_); rintro _ w2 ⟨rfl, hb2⟩
          have l2 := keep k2 hb2
          have l3 := keep k3 hb2
          have l5 := keep k5 hb2
          clear k0 k1 k2 k3 k4 k5
          go_wp2_with fail
          (with_reducible refine (put_any4 a' b' 256 p' _).mono ?_); rintro _ w3 ⟨rfl, hb3⟩
          go_wp2
          go_ret
          exact ⟨rfl, bthen (bthen (bthen (balloc (balloc (balloc (Below.refl w.heap.size w) _) _) _) hb1) hb2) hb3⟩
      · have g1 : (errI a b p 256 != 0) = true := by simpa using he
        clear he
        go_enter Try.func7, Try.ntmps7
        go_wp2_with fail
        (with_reducible refine (fawake_any _).mono ?_); rintro _ w1 ⟨rfl, hb1⟩
        have k0 := keep (a := ⟨w.heap.size, 0, none⟩) (v := .int .i64 a) (by simp [go_sem]) hb1
        have k1 := keep (a := ⟨w.heap.size, 1, none⟩) (v := .int .i64 b) (by simp [go_sem]) hb1
        have k2 := keep (a := ⟨w.heap.size + 1, 0, none⟩) (v := .int .i64 a') (by simp [go_sem]) hb1
        have k3 := keep (a := ⟨w.heap.size + 1, 1, none⟩) (v := .int .i64 b') (by simp [go_sem]) hb1
        have k4 := keep (a := ⟨w.heap.size + 2, 0, none⟩) (v := .string p) (by simp [go_sem]) hb1
        have k5 := keep (a := ⟨w.heap.size + 2, 1, none⟩) (v := .string p') (by simp [go_sem]) hb1
        go_wp2_with fail
        (with_reducible refine (put_any4 a b 256 p _).mono ?_); rintro _ w2 ⟨rfl, hb2⟩
        have l2 := keep k2 hb2
        have l3 := keep k3 hb2
        have l5 := keep k5 hb2
        clear k0 k1 k2 k3 k4 k5
        go_wp2_with fail
        (with_reducible refine (put_any4 a' b' 256 p' _).mono ?_); rintro _ w3 ⟨rfl, hb3⟩
        go_wp2
        go_ret
        exact ⟨rfl, bthen (bthen (bthen (balloc (balloc (balloc (Below.refl w.heap.size w) _) _) _) hb1) hb2) hb3⟩
    · have hg' : decide ((p'.size : Int) > 200) = true := decide_eq_true (by omega)
      go_enter Try.func7, Try.ntmps7
      go_wp2_with fail
      (with_reducible refine (fawake_any _).mono ?_); rintro _ w1 ⟨rfl, hb1⟩
      have k4 := keep (a := ⟨w.heap.size + 2, 0, none⟩) (v := .string p) (by simp [go_sem]) hb1
      have k5 := keep (a := ⟨w.heap.size + 2, 1, none⟩) (v := .string p') (by simp [go_sem]) hb1
      go_wp2_with fail
      (with_reducible refine (fawake_any _).mono ?_); rintro _ w2 ⟨rfl, hb2⟩
      go_wp2
      go_ret
      exact ⟨rfl, bthen (bthen (balloc (balloc (balloc (Below.refl w.heap.size w) _) _) _) hb1) hb2⟩
  · have hg : decide ((p.size : Int) > 200) = true := decide_eq_true (by omega)
    go_enter Try.func7, Try.ntmps7
    go_wp2_with fail
    (with_reducible refine (fawake_any _).mono ?_); rintro _ w1 ⟨rfl, hb1⟩
    have k4 := keep (a := ⟨w.heap.size + 2, 0, none⟩) (v := .string p) (by simp [go_sem]) hb1
    have k5 := keep (a := ⟨w.heap.size + 2, 1, none⟩) (v := .string p') (by simp [go_sem]) hb1
    go_wp2_with fail
    (with_reducible refine (fawake_any _).mono ?_); rintro _ w2 ⟨rfl, hb2⟩
    go_wp2
    go_ret
    exact ⟨rfl, bthen (bthen (balloc (balloc (balloc (Below.refl w.heap.size w) _) _) _) hb1) hb2⟩

theorem apart_walk (v0 v1 v2 : Value) (W : World) (t t2 : TypeId) (H : Type) (enc : TypeId × Value → H) (d0 d1 d2 : DataW H) (p0 p1 p2 : List MemPlace) (base : Nat)
    (ht : t = 34) (ht2 : t2 = 35) (h0 : DataW.Trod enc Try.prog W 0 (fun _ => true) true t v0 d0 p0) (hv0 : Value.okWide Try.prog W .any base t v0)
    (h1 : DataW.Trod enc Try.prog W 0 (fun _ => true) true t v1 d1 p1) (hv1 : Value.okWide Try.prog W .any base t v1)
    (h2 : DataW.Trod enc Try.prog W 0 (fun _ => true) true t2 v2 d2 p2) (hv2 : Value.okWide Try.prog W .any base t2 v2) :
    Calls Try.prog 7 #[v0, v1, v2] W fun e w' => e = .returned (.bool true) ∧ Below W.heap.size W w' := by
  subst ht ht2
  obtain ⟨a, b, rfl, _⟩ := arr2_ints Try.underlying34 Try.underlying3 (by kernel_rfl) (by kernel_rfl) hv0 h0
  obtain ⟨a', b', rfl, _⟩ := arr2_ints Try.underlying34 Try.underlying3 (by kernel_rfl) (by kernel_rfl) hv1 h1
  obtain ⟨p, p', rfl, _⟩ := arr2_strings Try.underlying35 Try.underlying9 (by kernel_rfl) (by kernel_rfl) hv2 h2
  exact apart_calls a b a' b' p p' W


open Go.ChangeShapes Go.WideShapes Go.ChangeAt
open Go.ChangeMaps (open_string shut_string)
theorem frameApart_own : ownKnob Try.prog.godebug = none := by kernel_rfl
theorem frameApart_laidOut : laidOutB Try.prog = true := by kernel_rfl
set_option maxRecDepth 100000 in
theorem frameApart_lifted (os : Os) (started : os.Started) (H : Type) (enc : TypeId × Value → H) :
    ReturnsInHanded {} Try.checked os 7 .any (Rows.frameApartSpec.pre6 enc Try.prog Try.f7 Rows.frameApartRow.domain false) (Rows.frameApartSpec.post enc Try.prog Try.f7 false true false false) := by
  refine returnsInHanded_of_change (C := Try.checked) frameApart_own started (by kernel_rfl) Try.func7
    (ChangeSpec.witness6 (enc := enc) (C := Try.checked) false ⟨#[], #[.agg #[.int .i64 0, .int .i64 0], .agg #[.int .i64 0, .int .i64 0], .agg #[.string ⟨#[]⟩, .string ⟨#[]⟩]], []⟩ 8 (by kernel_rfl) (by kernel_rfl) (by kernel_rfl) (by kernel_rfl)) ?_
  intro W base args ds gs before hval0 hW hcnd _
  have hval : ∀ (j : Nat) t v, Try.f7.params[j]? = some t → args[j]? = some v → Value.okWide Try.prog W .any base t v := hval0
  have hW' := hW
  obtain ⟨p, q, hA0, hV, rfl, hfz, hnd⟩ := hW
  have hA : DataW.TrodAll enc Try.prog W 0 (fun _ => true) true Try.f7.params.toList args.toList ds p := hA0
  rw [Try.params7] at hA hval
  obtain ⟨v0, vs0, d0, ds0, p0, q0, hargs, rfl, rfl, h0, r0⟩ := trodAll_cons hA
  obtain ⟨v1, vs1, d1, ds1, p1, q1, rfl, rfl, rfl, h1, r1⟩ := trodAll_cons r0
  obtain ⟨v2, vs2, d2, ds2, p2, q2, rfl, rfl, rfl, h2, r2⟩ := trodAll_cons r1
  obtain ⟨rfl, rfl, rfl⟩ := trodAll_nil r2
  obtain rfl : args = #[v0, v1, v2] := by cases args; simp_all
  obtain ⟨rfl, rfl⟩ := trodVars_none hV
  have k0 := h0
  have lt0 : ∀ x ∈ p0, x.block < W.heap.size := by obtain ⟨m, hm⟩ := k0; exact DataW.trod_lt m _ _ _ hm
  have vl0 := hval 0 34 v0 rfl rfl
  have h0m := h0
  have k1 := h1
  have lt1 : ∀ x ∈ p1, x.block < W.heap.size := by obtain ⟨m, hm⟩ := k1; exact DataW.trod_lt m _ _ _ hm
  have vl1 := hval 1 34 v1 rfl rfl
  have h1m := h1
  have k2 := h2
  have lt2 : ∀ x ∈ p2, x.block < W.heap.size := by obtain ⟨m, hm⟩ := k2; exact DataW.trod_lt m _ _ _ hm
  have vl2 := hval 2 35 v2 rfl rfl
  have h2m := h2
  clear hA0 hval0
  refine (apart_walk v0 v1 v2 W _ _ H enc _ _ _ _ _ _ base rfl rfl h0 vl0 h1 vl1 h2 vl2).mono fun e W' ⟨he, bel⟩ => ?_
  subst he
  exact ⟨_, rfl, _, _, _, [], _, [], hW', trodAll_mk1 (shut_bool Try.underlying4 _), (trodAll_cons_mk (Below.trod frameApart_laidOut (by kernel_rfl) (of_decide_eq_true (by kernel_rfl)) k0 bel lt0) (trodAll_cons_mk (Below.trod frameApart_laidOut (by kernel_rfl) (of_decide_eq_true (by kernel_rfl)) k1 bel lt1) (trodAll_cons_mk (Below.trod frameApart_laidOut (by kernel_rfl) (of_decide_eq_true (by kernel_rfl)) k2 bel lt2) trodAll_mk0))), rfl, bel.frame _, fun h => by cases h⟩

theorem frameApart_holds : Rows.FrameApartSaid :=
  OpenClaim.holds_of_wide 7 Try.f7 rfl rfl rfl rfl rfl rfl rfl ⟨rfl, rfl, rfl, rfl, rfl⟩ rfl rfl rfl rfl rfl (by kernel_rfl) Try.func7 (by kernel_rfl)
    (of_decide_eq_true (by kernel_rfl)) (by unfold Func.isWrapper; first | (rw [if_pos (by decide +kernel)]; kernel_rfl) | (rw [if_neg (by decide +kernel)]; exact ⟨rfl, rfl⟩))
    (fun os started H enc _ => frameApart_lifted os started H enc)
#print axioms frameApart_holds
end Go.Proofs.Ytlkohndfimdkeaa
