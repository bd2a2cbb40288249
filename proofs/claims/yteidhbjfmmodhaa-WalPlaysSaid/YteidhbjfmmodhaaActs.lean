/- A slice of acts that a statement is given. -/
import Derived.Test.YteidhbjfmmodhaaWalRow
import Derived.Test.YteidhbjfmmodhaaArgs
namespace Go.Proofs.Yteidhbjfmmodhaa
open Go.RowKit Crc Fr Go.WideShapes

structure Act7 where
  kind : Int
  text : ByteArray
  n : Int
  keep : Nat
def Act7.fits (a : Act7) : Prop := a.text.size ≤ maxLen ∧ -9223372036854775808 ≤ a.n ∧ a.n ≤ 9223372036854775807 ∧ a.keep ≤ 18446744073709551615
/-- The acts of a slice that was given. -/
def ArgActs (W : World) (a : Option Addr) (l : List Act7) : Prop :=
  l = [] ∨ ∃ b o, a = some ⟨b, o, none⟩ ∧ b < W.heap.size ∧ ∀ k (h : k < l.length), l[k].fits ∧
    W.cell? ⟨b, o + k * 4, none⟩ = some (.int .i64 l[k].kind) ∧ W.cell? ⟨b, o + k * 4 + 1, none⟩ = some (.string l[k].text) ∧ W.cell? ⟨b, o + k * 4 + 2, none⟩ = some (.int .i64 l[k].n) ∧ W.cell? ⟨b, o + k * 4 + 3, none⟩ = some (.int .u64 l[k].keep)

theorem ArgActs.mod {W W' : World} {a : Option Addr} {l : List Act7} (h : ArgActs W a l) (hm : Mod [] W W') : ArgActs W' a l := by
  rcases h with h | ⟨b, o, h1, h2, h3⟩
  · exact .inl h
  · refine .inr ⟨b, o, h1, Nat.lt_of_lt_of_le h2 hm.size, fun k hk => ?_⟩
    obtain ⟨g, g0, g1, g2, g3⟩ := h3 k hk
    exact ⟨g, hm.cell g0 (by simp), hm.cell g1 (by simp), hm.cell g2 (by simp), hm.cell g3 (by simp)⟩

set_option maxRecDepth 100000 in
theorem act_open {H : Type} {enc : TypeId × Value → H} {w : World} {base m : Nat} {spare : Nat → Bool} {held : Bool} {cs : List Value} {y : DataW H × List MemPlace}
    (h : DataW.trod enc Try.prog w base spare held m 38 cs = some y) (hl : cs.length = 4) :
    ∃ x : Act7, cs = [.int .i64 x.kind, .string x.text, .int .i64 x.n, .int .u64 x.keep] ∧ x.fits := by
  obtain ⟨_, _, h0⟩ := field_trod Try.underlying38 h 0 (by decide) 1 (by kernel_rfl)
  obtain ⟨_, _, h1⟩ := field_trod Try.underlying38 h 1 (by decide) 1 (by kernel_rfl)
  obtain ⟨_, _, h2⟩ := field_trod Try.underlying38 h 2 (by decide) 1 (by kernel_rfl)
  obtain ⟨_, _, h3⟩ := field_trod Try.underlying38 h 3 (by decide) 1 (by kernel_rfl)
  obtain ⟨k, e0, _⟩ := leaf_int 0 (by omega) Try.underlying3 h0
  obtain ⟨s, e1, w1⟩ := leaf_string 1 (by omega) Try.underlying9 h1
  obtain ⟨n, e2, w2⟩ := leaf_int 2 (by omega) Try.underlying3 h2
  obtain ⟨p, e3, w3⟩ := leaf_int 3 (by omega) Try.underlying36 h3
  have g2 := i64_of_wf w2
  have g3 := u64_of_wf w3
  match cs, hl, e0, e1, e2, e3 with
  | [a, b, c, d], _, e0, e1, e2, e3 =>
    simp at e0 e1 e2 e3
    refine ⟨⟨k, s, n, p.toNat⟩, ?_, w1, g2.1, g2.2, by show p.toNat ≤ _; omega⟩
    rw [e0, e1, e2, e3]
    show _ = [_, _, _, Value.int .u64 (p.toNat : Int)]
    rw [Int.toNat_of_nonneg g3.1]

set_option maxRecDepth 100000 in
theorem open_argacts (v : Value) (W : World) (H : Type) (enc : TypeId × Value → H) (d : DataW H) (ps : List MemPlace) (base : Nat)
    (h : DataW.Trod enc Try.prog W 0 (fun _ => true) true 23 v d ps) (hval : Value.okWide Try.prog W .any base 23 v) :
    ∃ a l cap, v = .slice a l.length cap ∧ ArgActs W a l := by
  obtain ⟨a, n, cap, rfl, h1⟩ := slice_open 4 Try.underlying23 (by kernel_rfl) (by omega) hval h
  rcases h1 with rfl | ⟨b, o, rfl, hb, hc⟩
  · exact ⟨a, [], cap, rfl, .inl rfl⟩
  · have each : ∀ k, ∃ x : Act7, k < n → x.fits ∧
        W.cell? ⟨b, o + k * 4, none⟩ = some (.int .i64 x.kind) ∧ W.cell? ⟨b, o + k * 4 + 1, none⟩ = some (.string x.text) ∧ W.cell? ⟨b, o + k * 4 + 2, none⟩ = some (.int .i64 x.n) ∧ W.cell? ⟨b, o + k * 4 + 3, none⟩ = some (.int .u64 x.keep) := by
      intro k
      by_cases hk : k < n
      · obtain ⟨m, cs, y, h2, h3, h4⟩ := hc k hk
        obtain ⟨x, rfl, hf⟩ := act_open h2 h3
        exact ⟨x, fun _ => ⟨hf, h4 0 (by omega), h4 1 (by omega), h4 2 (by omega), h4 3 (by omega)⟩⟩
      · exact ⟨⟨0, ⟨#[]⟩, 0, 0⟩, fun h => absurd h hk⟩
    obtain ⟨f, hf⟩ := Classical.axiomOfChoice each
    refine ⟨some ⟨b, o, none⟩, (List.range n).map f, cap, by simp, .inr ⟨b, o, rfl, hb, fun k hk => ?_⟩⟩
    have hk' : k < n := by simpa using hk
    have := hf k hk'
    simp only [List.getElem_map, List.getElem_range]
    exact this
end Go.Proofs.Yteidhbjfmmodhaa
