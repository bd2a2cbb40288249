/-
  A sector's record that is got is put as that sector: the law FrameOne returns true for every string. No condition.
-/
import Derived.Test.YtlkohndfimdkeaaFrAwake
import Derived.Test.YtlkohndfimdkeaaRows
import Derived.ProofKit
import Derived.OpenShut
import Derived.ShutString
import Derived.ChangeOld
namespace Go.Proofs.Ytlkohndfimdkeaa
open Go.RowKit Crc Fr

/-- A record that is got, put again. -/
theorem put_again (s : ByteArray) (w : World) (h : okB s = true) :
    Calls Try.prog 9 #[.int .i64 (genI s), .int .i64 (seqI s), .string (payB s), .int .i64 s.size] w fun e w' => e = .returned (.tuple #[.string s, .int .i64 0]) ∧ Below w.heap.size w w' := by
  have h' := h
  unfold okB at h'
  simp only [Bool.and_eq_true, decide_eq_true_eq] at h'
  obtain ⟨⟨⟨h1, h2⟩, h3⟩, h4⟩ := h'
  unfold genI seqI payB
  rw [h]
  have hp : (payOf s).size = lenOf s := by unfold payOf; rw [extract_size _ _ _ (by omega) (by omega)]; omega
  have hc := put_sec (genOf s) (seqOf s) s.size (payOf s) w h1 h2 (val4 s 2 6 (by omega) rfl) (val4 s 6 10 (by omega) rfl) (by rw [hp]; exact h3)
  rw [h4] at hc
  exact hc

set_option maxHeartbeats 2000000 in
theorem one_walk (s : ByteArray) (w : World) :
    Calls Try.prog 6 #[.string s] w fun e w' => e = .returned (.bool true) ∧ Below w.heap.size w w' := by
  by_cases hs : s.size ≤ 2000
  · have hg : decide ((s.size : Int) > 2000) = false := decide_eq_false (by omega)
    cases hok : okB s
    · have HR := Lib.hid (zero_results s hok)
      clear hok
      go_enter Try.func6, Try.ntmps6
      go_wp2_with fail
      (with_reducible refine (fawake_any _).mono ?_); rintro _ w1 ⟨rfl, hb1⟩
      go_wp2_with fail
      (with_reducible refine (get_any s _ (by omega)).mono ?_); rintro _ w2 ⟨rfl, hb2⟩
      rw [HR.out]
      go_wp2
      go_ret
      exact ⟨rfl, bthen hb1 hb2⟩
    · have HP := Lib.hid fun w => put_again s w hok
      go_enter Try.func6, Try.ntmps6
      go_wp2_with fail
      (with_reducible refine (fawake_any _).mono ?_); rintro _ w1 ⟨rfl, hb1⟩
      go_wp2_with fail
      (with_reducible refine (get_any s _ (by omega)).mono ?_); rintro _ w2 ⟨rfl, hb2⟩
      go_wp2_with fail
      (with_reducible refine (HP.out _).mono ?_); rintro _ w3 ⟨rfl, hb3⟩
      go_wp2
      go_ret
      exact ⟨rfl, bthen (bthen hb1 hb2) hb3⟩
  · have hg : decide ((s.size : Int) > 2000) = true := decide_eq_true (by omega)
    go_enter Try.func6, Try.ntmps6
    go_wp2_with fail
    (with_reducible refine (fawake_any _).mono ?_); rintro _ w1 ⟨rfl, hb1⟩
    go_wp2_with fail
    (with_reducible refine (fawake_any _).mono ?_); rintro _ w2 ⟨rfl, hb2⟩
    go_wp2
    go_ret
    exact ⟨rfl, bthen hb1 hb2⟩


open Go.ChangeShapes Go.WideShapes Go.ChangeAt
open Go.ChangeMaps (open_string shut_string)
theorem frameOne_own : ownKnob Try.prog.godebug = none := by kernel_rfl
theorem frameOne_laidOut : laidOutB Try.prog = true := by kernel_rfl
set_option maxRecDepth 100000 in
theorem frameOne_lifted (os : Os) (started : os.Started) (H : Type) (enc : TypeId × Value → H) :
    ReturnsInHanded {} Try.checked os 6 .any (Rows.frameOneSpec.pre6 enc Try.prog Try.f6 Rows.frameOneRow.domain false) (Rows.frameOneSpec.post enc Try.prog Try.f6 false true false false) := by
  refine returnsInHanded_of_change (C := Try.checked) frameOne_own started (by kernel_rfl) Try.func6
    (ChangeSpec.witness6 (enc := enc) (C := Try.checked) false ⟨#[], #[.string ⟨#[]⟩], []⟩ 8 (by kernel_rfl) (by kernel_rfl) (by kernel_rfl) (by kernel_rfl)) ?_
  intro W base args ds gs before hval0 hW hcnd _
  have hval : ∀ (j : Nat) t v, Try.f6.params[j]? = some t → args[j]? = some v → Value.okWide Try.prog W .any base t v := hval0
  have hW' := hW
  obtain ⟨p, q, hA0, hV, rfl, hfz, hnd⟩ := hW
  have hA : DataW.TrodAll enc Try.prog W 0 (fun _ => true) true Try.f6.params.toList args.toList ds p := hA0
  rw [Try.params6] at hA hval
  obtain ⟨v0, vs0, d0, ds0, p0, q0, hargs, rfl, rfl, h0, r0⟩ := trodAll_cons hA
  obtain ⟨rfl, rfl, rfl⟩ := trodAll_nil r0
  obtain rfl : args = #[v0] := by cases args; simp_all
  obtain ⟨rfl, rfl⟩ := trodVars_none hV
  obtain ⟨a0, rfl, rfl, rfl, w0⟩ := open_string Try.underlying9 (hval 0 9 v0 rfl rfl) h0
  clear hA0 hval0
  refine (one_walk a0 W).mono fun e W' ⟨he, bel⟩ => ?_
  subst he
  exact ⟨_, rfl, _, _, _, [], _, [], hW', trodAll_mk1 (shut_bool Try.underlying4 _), (trodAll_cons_mk (shut_string Try.underlying9 w0) trodAll_mk0), rfl, bel.frame _, fun h => by cases h⟩

theorem frameOne_holds : Rows.FrameOneSaid :=
  OpenClaim.holds_of_wide 6 Try.f6 rfl rfl rfl rfl rfl rfl rfl ⟨rfl, rfl, rfl, rfl, rfl⟩ rfl rfl rfl rfl rfl (by kernel_rfl) Try.func6 (by kernel_rfl)
    (of_decide_eq_true (by kernel_rfl)) (by unfold Func.isWrapper; first | (rw [if_pos (by decide +kernel)]; kernel_rfl) | (rw [if_neg (by decide +kernel)]; exact ⟨rfl, rfl⟩))
    (fun os started H enc _ => frameOne_lifted os started H enc)
#print axioms frameOne_holds
end Go.Proofs.Ytlkohndfimdkeaa
