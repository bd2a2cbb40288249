/-
  Any bytes have the sum that the document says, and any sum has the bytes that it says: the law CrcSums returns true for every string and every number of 32 bits. No condition.
-/
import Derived.Test.YtbjolcinnhpebaaCrcAwake
import Derived.Test.YtbjolcinnhpebaaRows
import Derived.ProofKit
import Derived.OpenShut
import Derived.ShutString
import Derived.ChangeOld
namespace Go.Proofs.Ytbjolcinnhpebaa
open Go.RowKit Crc

set_option maxHeartbeats 1000000 in
theorem sums_walk (s : ByteArray) (x : Int) (w : World) (hx0 : 0 ≤ x) (hx1 : x < 4294967296) :
    Calls Try.prog 3 #[.string s, .int .u32 x] w fun e w' => e = .returned (.bool true) ∧ Below w.heap.size w w' := by
  by_cases hs : s.size ≤ 400
  · have hs1 : s.size ≤ maxLen := by unfold maxLen; omega
    have hg : decide ((s.size : Int) > 400) = false := by simp; omega
    go_enter Try.func3, Try.ntmps3
    go_wp2_with fail
    (with_reducible refine (awake_any _).mono ?_); rintro _ w1 ⟨rfl, hb1⟩
    go_wp2_with fail
    (with_reducible refine (sum_one _ s _ hs1 (by simp [go_sem])).mono ?_); rintro _ w' ⟨rfl, rfl⟩
    go_wp2_with fail
    (with_reducible refine (rsum_any s _ hs1).mono ?_); rintro _ w' ⟨rfl, rfl⟩
    go_wp2_with fail
    (with_reducible refine (put_any _ _ hx0 hx1).mono ?_); rintro _ w2 ⟨rfl, hb2⟩
    go_wp2_with fail
    (with_reducible refine (rput_any _ _ hx0 hx1).mono ?_); rintro _ w3 ⟨rfl, hb3⟩
    go_wp2
    go_ret
    exact ⟨rfl, ((hb1.alloc hb1.size _).trans (hb2.mono (by simp; have := hb1.size; omega))).trans (hb3.mono (by have h1 := hb1.size; have h2 := hb2.size; simp at h2; omega))⟩
  · have hg : decide ((s.size : Int) > 400) = true := by simp; omega
    go_enter Try.func3, Try.ntmps3
    go_wp2_with fail
    (with_reducible refine (awake_any _).mono ?_); rintro _ w1 ⟨rfl, hb1⟩
    go_wp2_with fail
    (with_reducible refine (awake_any _).mono ?_); rintro _ w2 ⟨rfl, hb2⟩
    go_wp2
    go_ret
    exact ⟨rfl, hb1.trans (hb2.mono hb1.size)⟩


open Go.ChangeShapes Go.WideShapes Go.ChangeAt
open Go.ChangeMaps (open_string shut_string)
theorem crcSums_own : ownKnob Try.prog.godebug = none := by kernel_rfl
theorem crcSums_laidOut : laidOutB Try.prog = true := by kernel_rfl
set_option maxRecDepth 100000 in
theorem crcSums_lifted (os : Os) (started : os.Started) (H : Type) (enc : TypeId × Value → H) :
    ReturnsInHanded {} Try.checked os 3 .any (Rows.crcSumsSpec.pre6 enc Try.prog Try.f3 Rows.crcSumsRow.domain false) (Rows.crcSumsSpec.post enc Try.prog Try.f3 false true false false) := by
  refine returnsInHanded_of_change (C := Try.checked) crcSums_own started (by kernel_rfl) Try.func3
    (ChangeSpec.witness6 (enc := enc) (C := Try.checked) false ⟨#[], #[.string ⟨#[]⟩, .int .u32 0], []⟩ 8 (by kernel_rfl) (by kernel_rfl) (by kernel_rfl) (by kernel_rfl)) ?_
  intro W base args ds gs before hval0 hW hcnd _
  have hval : ∀ (j : Nat) t v, Try.f3.params[j]? = some t → args[j]? = some v → Value.okWide Try.prog W .any base t v := hval0
  have hW' := hW
  obtain ⟨p, q, hA0, hV, rfl, hfz, hnd⟩ := hW
  have hA : DataW.TrodAll enc Try.prog W 0 (fun _ => true) true Try.f3.params.toList args.toList ds p := hA0
  rw [Try.params3] at hA hval
  obtain ⟨v0, vs0, d0, ds0, p0, q0, hargs, rfl, rfl, h0, r0⟩ := trodAll_cons hA
  obtain ⟨v1, vs1, d1, ds1, p1, q1, rfl, rfl, rfl, h1, r1⟩ := trodAll_cons r0
  obtain ⟨rfl, rfl, rfl⟩ := trodAll_nil r1
  obtain rfl : args = #[v0, v1] := by cases args; simp_all
  obtain ⟨rfl, rfl⟩ := trodVars_none hV
  obtain ⟨a0, rfl, rfl, rfl, w0⟩ := open_string Try.underlying9 (hval 0 9 v0 rfl rfl) h0
  obtain ⟨a1, rfl, rfl, rfl, w1⟩ := open_int Try.underlying22 (hval 1 22 v1 rfl rfl) h1
  have w1' := w1
  simp [Lit.wf, show IntKind.u32.min = 0 from rfl, show IntKind.u32.max = 4294967295 from rfl] at w1'
  clear hA0 hval0
  refine (sums_walk a0 a1 W (by omega) (by omega)).mono fun e W' ⟨he, bel⟩ => ?_
  subst he
  exact ⟨_, rfl, _, _, _, [], _, [], hW', trodAll_mk1 (shut_bool Try.underlying4 _), (trodAll_cons_mk (shut_string Try.underlying9 w0) (trodAll_cons_mk (shut_int Try.underlying22 w1) trodAll_mk0)), rfl, bel.frame _, fun h => by cases h⟩

theorem crcSums_holds : Rows.CrcSumsSaid :=
  OpenClaim.holds_of_wide 3 Try.f3 rfl rfl rfl rfl rfl rfl rfl ⟨rfl, rfl, rfl, rfl, rfl⟩ rfl rfl rfl rfl rfl (by kernel_rfl) Try.func3 (by kernel_rfl)
    (of_decide_eq_true (by kernel_rfl)) (by unfold Func.isWrapper; first | (rw [if_pos (by decide +kernel)]; kernel_rfl) | (rw [if_neg (by decide +kernel)]; exact ⟨rfl, rfl⟩))
    (fun os started H enc _ => crcSums_lifted os started H enc)
#print axioms crcSums_holds
end Go.Proofs.Ytbjolcinnhpebaa
