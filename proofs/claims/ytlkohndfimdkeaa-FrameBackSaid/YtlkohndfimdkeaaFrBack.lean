/-
  A record that is put is got as it was: the law FrameBack returns true for every three numbers and every string. No condition.
-/
import Derived.Test.YtlkohndfimdkeaaFrAwake
import Derived.Test.YtlkohndfimdkeaaArr
import Derived.Test.YtlkohndfimdkeaaRows
import Derived.ProofKit
import Derived.OpenShut
import Derived.ShutString
import Derived.ChangeOld
namespace Go.Proofs.Ytlkohndfimdkeaa
open Go.RowKit Crc Fr

theorem sec_get (a b c : Int) (p : ByteArray) (w : World) (h1 : 128 ≤ c) (h2 : c ≤ 1024) (g0 : 0 ≤ a) (hg : a ≤ 4294967295) (s0 : 0 ≤ b) (hs : b ≤ 4294967295) (hp : (p.size : Int) ≤ c - 14) :
    Calls Try.prog 13 #[.string (secB a.toNat b.toNat p c.toNat)] w fun e w' => e = .returned (.tuple #[.int .i64 a, .int .i64 b, .string p, .bool true]) ∧ Below w.heap.size w w' := by
  have hok := sec_ok a.toNat b.toNat p c.toNat (by omega) (by omega) (by omega) (by omega) (by omega)
  have h := get_any (secB a.toNat b.toNat p c.toNat) w (by rw [secB_size _ _ _ _ (by omega)]; omega)
  unfold genI seqI payB at h
  rw [hok, sec_gen _ _ _ _ (by omega), sec_seq _ _ _ _ (by omega), sec_pay _ _ _ _ (by omega)] at h
  simp only [if_true] at h
  rw [show ((a.toNat : Nat) : Int) = a by omega, show ((b.toNat : Nat) : Int) = b by omega] at h
  exact h

set_option maxRecDepth 100000 in
set_option maxHeartbeats 2000000 in
theorem back_calls (a b c : Int) (s : ByteArray) (w : World) :
    Calls Try.prog 5 #[.agg #[.int .i64 a, .int .i64 b, .int .i64 c], .string s] w fun e w' => e = .returned (.bool true) ∧ Below w.heap.size w w' := by
  by_cases hs : s.size ≤ 2000
  · have hg : decide ((s.size : Int) > 2000) = false := decide_eq_false (by omega)
    by_cases he : errI a b s c = 0
    · have hr : ¬ (c < 128 ∨ 1024 < c ∨ a < 0 ∨ 4294967295 < a ∨ b < 0 ∨ 4294967295 < b) := by
        intro h; unfold errI at he; rw [if_pos h] at he; omega
      have hl : ¬ (c - 14 < (s.size : Int)) := by
        intro h; unfold errI at he; rw [if_neg hr, if_pos h] at he; omega
      have hz := secB_size a.toNat b.toNat s c.toNat (by omega)
      have hzi : ((secB a.toNat b.toNat s c.toNat).size : Int) = c := by rw [hz]; omega
      have HP := Lib.hid fun w => put_yes a b c s w (by omega) (by omega) (by omega) (by omega) (by omega) (by omega) (by omega)
      have HG := Lib.hid fun w => sec_get a b c s w (by omega) (by omega) (by omega) (by omega) (by omega) (by omega) (by omega)
      clear hr hl he hz
      go_enter Try.func5, Try.ntmps5
      go_wp2_with fail
      (with_reducible refine (fawake_any _).mono ?_); rintro _ w1 ⟨rfl, hb1⟩
      have k0 := keep (a := ⟨w.heap.size, 0, none⟩) (v := .int .i64 a) (by simp [go_sem]) hb1
      have k1 := keep (a := ⟨w.heap.size, 1, none⟩) (v := .int .i64 b) (by simp [go_sem]) hb1
      have k2 := keep (a := ⟨w.heap.size, 2, none⟩) (v := .int .i64 c) (by simp [go_sem]) hb1
      go_wp2_with fail
      (with_reducible refine (HP.out _).mono ?_); rintro _ w2 ⟨rfl, hb2⟩
      have l0 := keep k0 hb2
      have l1 := keep k1 hb2
      have l2 := keep k2 hb2
      clear k0 k1 k2
      go_wp2_with fail
      (with_reducible refine (HG.out _).mono ?_); rintro _ w3 ⟨rfl, hb3⟩
      have m0 := keep l0 hb3
      have m1 := keep l1 hb3
      have m2 := keep l2 hb3
      clear l0 l1 l2
      go_wp2
      go_ret
      exact ⟨rfl, bthen (bthen (bthen (balloc (Below.refl _ _) _) hb1) hb2) hb3⟩
    · have ho : outB a b s c = ⟨#[]⟩ := by unfold outB; rw [if_neg he]
      have HP := Lib.hid fun w => put_any4 a b c s w
      rw [ho] at HP
      have he1 : (errI a b s c == 0) = false := by simpa using he
      have he2 : (errI a b s c != 0) = true := by simpa using he
      clear he ho
      go_enter Try.func5, Try.ntmps5
      go_wp2_with fail
      (with_reducible refine (fawake_any _).mono ?_); rintro _ w1 ⟨rfl, hb1⟩
      have k0 := keep (a := ⟨w.heap.size, 0, none⟩) (v := .int .i64 a) (by simp [go_sem]) hb1
      have k1 := keep (a := ⟨w.heap.size, 1, none⟩) (v := .int .i64 b) (by simp [go_sem]) hb1
      have k2 := keep (a := ⟨w.heap.size, 2, none⟩) (v := .int .i64 c) (by simp [go_sem]) hb1
      go_wp2_with fail
      (with_reducible refine (HP.out _).mono ?_); rintro _ w2 ⟨rfl, hb2⟩
      go_wp2
      go_ret
      exact ⟨rfl, bthen (bthen (balloc (Below.refl _ _) _) hb1) hb2⟩
  · have hg : decide ((s.size : Int) > 2000) = true := decide_eq_true (by omega)
    go_enter Try.func5, Try.ntmps5
    go_wp2_with fail
    (with_reducible refine (fawake_any _).mono ?_); rintro _ w1 ⟨rfl, hb1⟩
    go_wp2_with fail
    (with_reducible refine (fawake_any _).mono ?_); rintro _ w2 ⟨rfl, hb2⟩
    go_wp2
    go_ret
    exact ⟨rfl, bthen (bthen (balloc (Below.refl _ _) _) hb1) hb2⟩

theorem back_walk (v : Value) (s : ByteArray) (W : World) (t : TypeId) (H : Type) (enc : TypeId × Value → H) (d : DataW H) (ps : List MemPlace) (base : Nat)
    (ht : t = 22) (h : DataW.Trod enc Try.prog W 0 (fun _ => true) true t v d ps) (hval : Value.okWide Try.prog W .any base t v) :
    Calls Try.prog 5 #[v, .string s] W fun e w' => e = .returned (.bool true) ∧ Below W.heap.size W w' := by
  subst ht
  obtain ⟨a, b, c, rfl, _⟩ := arr3_ints Try.underlying22 Try.underlying3 (by kernel_rfl) (by kernel_rfl) hval h
  exact back_calls a b c s W


open Go.ChangeShapes Go.WideShapes Go.ChangeAt
open Go.ChangeMaps (open_string shut_string)
theorem frameBack_own : ownKnob Try.prog.godebug = none := by kernel_rfl
theorem frameBack_laidOut : laidOutB Try.prog = true := by kernel_rfl
set_option maxRecDepth 100000 in
theorem frameBack_lifted (os : Os) (started : os.Started) (H : Type) (enc : TypeId × Value → H) :
    ReturnsInHanded {} Try.checked os 5 .any (Rows.frameBackSpec.pre6 enc Try.prog Try.f5 Rows.frameBackRow.domain false) (Rows.frameBackSpec.post enc Try.prog Try.f5 false true false false) := by
  refine returnsInHanded_of_change (C := Try.checked) frameBack_own started (by kernel_rfl) Try.func5
    (ChangeSpec.witness6 (enc := enc) (C := Try.checked) false ⟨#[], #[.agg #[.int .i64 0, .int .i64 0, .int .i64 0], .string ⟨#[]⟩], []⟩ 8 (by kernel_rfl) (by kernel_rfl) (by kernel_rfl) (by kernel_rfl)) ?_
  intro W base args ds gs before hval0 hW hcnd _
  have hval : ∀ (j : Nat) t v, Try.f5.params[j]? = some t → args[j]? = some v → Value.okWide Try.prog W .any base t v := hval0
  have hW' := hW
  obtain ⟨p, q, hA0, hV, rfl, hfz, hnd⟩ := hW
  have hA : DataW.TrodAll enc Try.prog W 0 (fun _ => true) true Try.f5.params.toList args.toList ds p := hA0
  rw [Try.params5] at hA hval
  obtain ⟨v0, vs0, d0, ds0, p0, q0, hargs, rfl, rfl, h0, r0⟩ := trodAll_cons hA
  obtain ⟨v1, vs1, d1, ds1, p1, q1, rfl, rfl, rfl, h1, r1⟩ := trodAll_cons r0
  obtain ⟨rfl, rfl, rfl⟩ := trodAll_nil r1
  obtain rfl : args = #[v0, v1] := by cases args; simp_all
  obtain ⟨rfl, rfl⟩ := trodVars_none hV
  have k0 := h0
  have lt0 : ∀ x ∈ p0, x.block < W.heap.size := by obtain ⟨m, hm⟩ := k0; exact DataW.trod_lt m _ _ _ hm
  have vl0 := hval 0 22 v0 rfl rfl
  have h0m := h0
  obtain ⟨a1, rfl, rfl, rfl, w1⟩ := open_string Try.underlying9 (hval 1 9 v1 rfl rfl) h1
  clear hA0 hval0
  refine (back_walk v0 a1 W _ H enc _ _ base rfl h0 vl0).mono fun e W' ⟨he, bel⟩ => ?_
  subst he
  exact ⟨_, rfl, _, _, _, [], _, [], hW', trodAll_mk1 (shut_bool Try.underlying4 _), (trodAll_cons_mk (Below.trod frameBack_laidOut (by kernel_rfl) (of_decide_eq_true (by kernel_rfl)) k0 bel lt0) (trodAll_cons_mk (shut_string Try.underlying9 w1) trodAll_mk0)), rfl, bel.frame _, fun h => by cases h⟩

theorem frameBack_holds : Rows.FrameBackSaid :=
  OpenClaim.holds_of_wide 5 Try.f5 rfl rfl rfl rfl rfl rfl rfl ⟨rfl, rfl, rfl, rfl, rfl⟩ rfl rfl rfl rfl rfl (by kernel_rfl) Try.func5 (by kernel_rfl)
    (of_decide_eq_true (by kernel_rfl)) (by unfold Func.isWrapper; first | (rw [if_pos (by decide +kernel)]; kernel_rfl) | (rw [if_neg (by decide +kernel)]; exact ⟨rfl, rfl⟩))
    (fun os started H enc _ => frameBack_lifted os started H enc)
#print axioms frameBack_holds
end Go.Proofs.Ytlkohndfimdkeaa
