/- Slices of structs that a statement is given, opened. -/
import Derived.Test.YteidhbjfmmodhaaProg
import Derived.OpenShut
import Derived.ProofKit
import Derived.ChangeArms
import Derived.WideShapes
import Derived.Test.YteidhbjfmmodhaaMod
namespace Go.Proofs.Yteidhbjfmmodhaa
open Go Go.RowKit Go.WideShapes

theorem add_plain (b o k : Nat) : (⟨b, o, none⟩ : Addr).add k = ⟨b, o + k, none⟩ := by unfold Addr.add; split <;> simp_all
theorem plain_of_cell {W : World} {x : Addr} {v : Value} (h : W.cell? x = some v) : x.spot = none ∧ x.block < W.heap.size := by
  constructor
  · unfold World.cell? at h
    split at h
    · split at h
      · cases h
      · rename_i hs; simpa using hs
    · cases h
  · exact lt_of_cell h

section
variable {H : Type} {enc : TypeId × Value → H} {P : Program} {w : World} {base b0 : Nat} {spare : Nat → Bool} {held : Bool} {t e : TypeId} {v : Value} {d : DataW H} {ps : List MemPlace} {r : Reach}
/-- A slice's elements: each a row of cells that reads as the element's type. -/
theorem slice_open (c : Nat) (ht : P.underlying t = some (.slice e)) (hc : P.cellsOf e = c) (hc0 : 0 < c) (hval : Value.okWide P w r b0 t v) (h : DataW.Trod enc P w base spare held t v d ps) :
    ∃ a n cap, v = .slice a n cap ∧ (n = 0 ∨ ∃ b o, a = some ⟨b, o, none⟩ ∧ b < w.heap.size ∧
      ∀ k, k < n → ∃ m cs y, DataW.trod enc P w base spare held m e cs = some y ∧ cs.length = c ∧ ∀ i, i < c → w.cell? ⟨b, o + k * c + i, none⟩ = cs[i]?) := by
  obtain ⟨a, n, cap, rfl⟩ := okWide_slice ht hval
  obtain ⟨fuel, hf⟩ := h
  refine ⟨a, n, cap, rfl, ?_⟩
  rcases DataW.trod_slice ht hf with ⟨hcs, _⟩ | ⟨x, len, cap', elems, rest, m, _, hcs, _, hb, hl, hm, hlen, hel, _, _⟩
  · simp [Value.cells] at hcs
    exact .inl hcs.2.1
  · simp [Value.cells] at hcs
    obtain ⟨rfl, rfl, rfl⟩ := hcs
    by_cases h0 : n = 0
    · exact .inl h0
    refine .inr ?_
    have each : ∀ k, k < n → ∃ cs y, DataW.trod enc P w base spare held m e cs = some y ∧ cs.length = c ∧ ∀ i, i < c → w.cell? ((x.add (k * c)).add i) = cs[i]? := by
      intro k hk
      have h1 := hel k hk
      rw [hc] at h1
      have h2 : elems[k]? = some (elems[k]'(by omega)) := List.getElem?_eq_getElem _
      rw [h2, Option.bind_eq_some_iff] at h1
      obtain ⟨cs, h3, h4⟩ := h1
      obtain ⟨_, h5, h6⟩ := World.cells?_some h3
      exact ⟨cs, _, h4, h5, h6⟩
    have hx : x.spot = none ∧ x.block < w.heap.size := by
      obtain ⟨cs, y, _, h5, h6⟩ := each 0 (by omega)
      have h7 := h6 0 hc0
      rw [List.getElem?_eq_getElem (by omega)] at h7
      have h8 := plain_of_cell h7
      have : (x.add (0 * c)).add 0 = x := by rw [Nat.zero_mul]; rfl
      rw [this] at h8
      exact h8
    obtain ⟨b, o, sp⟩ := x
    obtain ⟨hsp, hbl⟩ := hx
    simp only at hsp hbl
    subst hsp
    refine ⟨b, o, rfl, hbl, fun k hk => ?_⟩
    obtain ⟨cs, y, h4, h5, h6⟩ := each k hk
    refine ⟨m, cs, y, h4, h5, fun i hi => ?_⟩
    have := h6 i hi
    rw [add_plain, add_plain] at this
    exact this

/-- A leaf of a struct: one cell. -/
theorem leaf_int {m : Nat} {cs : List Value} {y : DataW H × List MemPlace} {k : IntKind} (i : Nat) (hi : i < cs.length) (hu : P.underlying e = some (.int k)) (h : DataW.trod enc P w base spare held m e ((cs.drop i).take 1) = some y) :
    ∃ n, cs[i] = .int k n ∧ (Lit.int k n).wf = true := by
  obtain ⟨n, h1, _, h2⟩ := DataW.trod_int hu h
  rw [List.drop_eq_getElem_cons hi, List.take_succ_cons] at h1
  have h1 := (List.cons.inj h1).1
  exact ⟨n, h1, h2⟩
theorem leaf_bool {m : Nat} {cs : List Value} {y : DataW H × List MemPlace} (i : Nat) (hi : i < cs.length) (hu : P.underlying e = some .bool) (h : DataW.trod enc P w base spare held m e ((cs.drop i).take 1) = some y) :
    ∃ n, cs[i] = .bool n := by
  obtain ⟨n, h1, _⟩ := DataW.trod_bool hu h
  rw [List.drop_eq_getElem_cons hi, List.take_succ_cons] at h1
  have h1 := (List.cons.inj h1).1
  exact ⟨n, h1⟩
theorem leaf_string {m : Nat} {cs : List Value} {y : DataW H × List MemPlace} (i : Nat) (hi : i < cs.length) (hu : P.underlying e = some .string) (h : DataW.trod enc P w base spare held m e ((cs.drop i).take 1) = some y) :
    ∃ s, cs[i] = .string s ∧ s.size ≤ maxLen := by
  obtain ⟨s, h1, _, h2⟩ := DataW.trod_string hu h
  rw [List.drop_eq_getElem_cons hi, List.take_succ_cons] at h1
  have h1 := (List.cons.inj h1).1
  exact ⟨s, h1, h2⟩
theorem field_trod {fs : Array Field} {m : Nat} {cs : List Value} {y : DataW H × List MemPlace} (ht : P.underlying t = some (.struct fs)) (h : DataW.trod enc P w base spare held m t cs = some y) (i : Nat) (hi : i < fs.size) (c : Nat) (hc : P.cellsOf fs[i].type = c) :
    ∃ m' y', DataW.trod enc P w base spare held m' fs[i].type ((cs.drop fs[i].offset).take c) = some y' := by
  obtain ⟨xs, n, _, _, _, hl, hx⟩ := DataW.trod_struct ht h
  have := hx i fs[i] (by simp [hi])
  rw [hc] at this
  exact ⟨n, xs[i]'(by omega), by rw [this]; simp⟩
theorem i64_of_wf {n : Int} (h : (Lit.int .i64 n).wf = true) : -9223372036854775808 ≤ n ∧ n ≤ 9223372036854775807 := by
  simpa [Lit.wf, show IntKind.i64.min = -9223372036854775808 from rfl, show IntKind.i64.max = 9223372036854775807 from rfl] using h
theorem u64_of_wf {n : Int} (h : (Lit.int .u64 n).wf = true) : 0 ≤ n ∧ n ≤ 18446744073709551615 := by
  simpa [Lit.wf, show IntKind.u64.min = 0 from rfl, show IntKind.u64.max = 18446744073709551615 from rfl] using h
end
end Go.Proofs.Yteidhbjfmmodhaa
