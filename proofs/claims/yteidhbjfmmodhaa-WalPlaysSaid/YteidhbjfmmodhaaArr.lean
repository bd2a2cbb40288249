/- Arrays by value, opened. -/
import Derived.Test.YteidhbjfmmodhaaProg
import Derived.OpenShut
import Derived.ProofKit
namespace Go.Proofs.Yteidhbjfmmodhaa
open Go.WideShapes

section
variable {H : Type} {enc : TypeId × Value → H} {P : Program} {w : World} {base b0 : Nat} {spare : Nat → Bool} {held : Bool} {t e : TypeId} {v : Value} {d : DataW H} {ps : List MemPlace} {r : Reach}
theorem arr_open (n : Nat) (ht : P.underlying t = some (.array n e)) (he : P.cellsOf e = 1) (hc : P.cellsOf t = n) (hval : Value.okWide P w r b0 t v) (h : DataW.Trod enc P w base spare held t v d ps) :
    ∃ cs : List Value, v = .agg cs.toArray ∧ cs.length = n ∧ ∀ i (hi : i < cs.length), ∃ m x, DataW.trod enc P w base spare held m e [cs[i]] = some x := by
  unfold Value.okWide at hval
  rw [ht] at hval
  obtain ⟨cs, rfl, hsz, _⟩ := hval
  rw [hc] at hsz
  obtain ⟨fuel, hf⟩ := h
  obtain ⟨xs, m, _, _, hl, hxl, hx⟩ := DataW.trod_array ht hf
  refine ⟨cs.toList, by simp, by simpa using hsz, fun i hi => ?_⟩
  have hi' : i < n := by rw [Array.length_toList] at hi; omega
  have := hx i hi'
  rw [he, Nat.mul_one] at this
  have hcs : ((Value.agg cs).cells.toList.drop i).take 1 = [cs.toList[i]] := by
    show (cs.toList.drop i).take 1 = _
    rw [List.drop_eq_getElem_cons hi]; rfl
  rw [hcs] at this
  refine ⟨m, xs[i]'(by omega), ?_⟩
  rw [this]; simp [show i < xs.length by omega]
theorem arr3_ints (ht : P.underlying t = some (.array 3 e)) (hu : P.underlying e = some (.int .i64)) (he : P.cellsOf e = 1) (hc : P.cellsOf t = 3) (hval : Value.okWide P w r b0 t v) (h : DataW.Trod enc P w base spare held t v d ps) :
    ∃ a b c : Int, v = .agg #[.int .i64 a, .int .i64 b, .int .i64 c] ∧ (Lit.int .i64 a).wf = true ∧ (Lit.int .i64 b).wf = true ∧ (Lit.int .i64 c).wf = true := by
  obtain ⟨cs, rfl, hl, hx⟩ := arr_open 3 ht he hc hval h
  match cs, hl, hx with
  | [x, y, z], _, hx =>
    obtain ⟨m0, x0, h0⟩ := hx 0 (by simp)
    obtain ⟨m1, x1, h1⟩ := hx 1 (by simp)
    obtain ⟨m2, x2, h2⟩ := hx 2 (by simp)
    obtain ⟨a, ha, _, wa⟩ := DataW.trod_int hu h0
    obtain ⟨b, hb, _, wb⟩ := DataW.trod_int hu h1
    obtain ⟨c, hc, _, wc⟩ := DataW.trod_int hu h2
    simp at ha hb hc
    exact ⟨a, b, c, by rw [ha, hb, hc], wa, wb, wc⟩
theorem arr2_ints (ht : P.underlying t = some (.array 2 e)) (hu : P.underlying e = some (.int .i64)) (he : P.cellsOf e = 1) (hc : P.cellsOf t = 2) (hval : Value.okWide P w r b0 t v) (h : DataW.Trod enc P w base spare held t v d ps) :
    ∃ a b : Int, v = .agg #[.int .i64 a, .int .i64 b] ∧ (Lit.int .i64 a).wf = true ∧ (Lit.int .i64 b).wf = true := by
  obtain ⟨cs, rfl, hl, hx⟩ := arr_open 2 ht he hc hval h
  match cs, hl, hx with
  | [x, y], _, hx =>
    obtain ⟨m0, x0, h0⟩ := hx 0 (by simp)
    obtain ⟨m1, x1, h1⟩ := hx 1 (by simp)
    obtain ⟨a, ha, _, wa⟩ := DataW.trod_int hu h0
    obtain ⟨b, hb, _, wb⟩ := DataW.trod_int hu h1
    simp at ha hb
    exact ⟨a, b, by rw [ha, hb], wa, wb⟩
theorem arr2_strings (ht : P.underlying t = some (.array 2 e)) (hu : P.underlying e = some .string) (he : P.cellsOf e = 1) (hc : P.cellsOf t = 2) (hval : Value.okWide P w r b0 t v) (h : DataW.Trod enc P w base spare held t v d ps) :
    ∃ a b : ByteArray, v = .agg #[.string a, .string b] ∧ a.size ≤ maxLen ∧ b.size ≤ maxLen := by
  obtain ⟨cs, rfl, hl, hx⟩ := arr_open 2 ht he hc hval h
  match cs, hl, hx with
  | [x, y], _, hx =>
    obtain ⟨m0, x0, h0⟩ := hx 0 (by simp)
    obtain ⟨m1, x1, h1⟩ := hx 1 (by simp)
    obtain ⟨a, ha, _, wa⟩ := DataW.trod_string hu h0
    obtain ⟨b, hb, _, wb⟩ := DataW.trod_string hu h1
    simp at ha hb
    exact ⟨a, b, by rw [ha, hb], wa, wb⟩
end
end Go.Proofs.Yteidhbjfmmodhaa
