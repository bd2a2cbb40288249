/- A slice of strings that a statement is given. -/
import Derived.Test.YteidhbjfmmodhaaWalRow
import Derived.SliceStrings
import Derived.WideShapes
namespace Go.Proofs.Yteidhbjfmmodhaa
open Go.RowKit Crc Fr Go.WideShapes

/-- The strings of a slice that was given. -/
def ArgStrs (W : World) (a : Option Addr) (l : List ByteArray) : Prop :=
  l = [] ∨ ∃ b o, a = some ⟨b, o, none⟩ ∧ b < W.heap.size ∧ ∀ k (h : k < l.length), W.cell? ⟨b, o + k, none⟩ = some (.string l[k])

theorem add_plain (b o k : Nat) : (⟨b, o, none⟩ : Addr).add k = ⟨b, o + k, none⟩ := by unfold Addr.add; split <;> simp_all
theorem plain_of_cell {W : World} {x : Addr} {v : Value} (h : W.cell? x = some v) : x.spot = none ∧ x.block < W.heap.size := by
  constructor
  · unfold World.cell? at h
    split at h
    · split at h
      · cases h
      · rename_i hs; simpa using hs
    · cases h
  · exact lt_of_cell h
set_option maxRecDepth 100000 in
theorem open_argstrs (v : Value) (W : World) (H : Type) (enc : TypeId × Value → H) (d : DataW H) (ps : List MemPlace) (base : Nat)
    (h : DataW.Trod enc Try.prog W 0 (fun _ => true) true 31 v d ps) (hval : Value.okWide Try.prog W .any base 31 v) :
    ∃ a l cap, v = .slice a l.length cap ∧ ArgStrs W a l := by
  obtain ⟨a, n, cap, rfl⟩ := okWide_slice Try.underlying31 hval
  obtain ⟨fuel, hf⟩ := h
  rcases Go.ChangeShapes.open_strings Try.underlying31 Try.underlying9 (by kernel_rfl) hf with ⟨hcs, _⟩ | ⟨x, l, c, ss, hcs, _, hl, hm, hz, hx, hcell, hwz⟩
  · simp [Value.cells] at hcs
    obtain ⟨rfl, rfl, rfl⟩ := hcs
    exact ⟨none, [], 0, rfl, .inl rfl⟩
  · simp [Value.cells] at hcs
    obtain ⟨rfl, rfl, rfl⟩ := hcs
    by_cases h0 : n = 0
    · subst h0; exact ⟨some x, [], cap, rfl, .inl rfl⟩
    · have hz' : ss.length = cap := by simpa using hz
      have h1 := hcell 0 (by omega)
      have h2 := plain_of_cell h1
      obtain ⟨b, o, sp⟩ := x
      have hx0 : sp = none := h2.1
      subst hx0
      have hlen : (ss.take n).length = n := by rw [List.length_take]; omega
      refine ⟨some ⟨b, o, none⟩, ss.take n, cap, by rw [hlen], .inr ⟨b, o, rfl, h2.2, fun k hk => ?_⟩⟩
      have hk' : k < n := by omega
      have := hcell k (by omega)
      rw [add_plain] at this
      rw [this, List.getElem_take]
      simp [List.getD, List.getElem?_eq_getElem (show k < ss.length by omega)]
end Go.Proofs.Yteidhbjfmmodhaa
