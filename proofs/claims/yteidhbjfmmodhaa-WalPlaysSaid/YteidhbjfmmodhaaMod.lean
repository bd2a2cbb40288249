/- What a call does to memory that was there: it turns some blocks alone; and blocks of cells, known whole. -/
import Derived.Below
import Derived.Deep.Draws
import Derived.Laws.World
import Derived.Lib.Hide
namespace Go.Proofs.Yteidhbjfmmodhaa
open Go Go.RowKit

/-- Of what was there only the blocks of the list may have turned. -/
structure Mod (S : List Nat) (w w' : World) : Prop where
  os : w'.os = w.os
  tape : w'.tape = w.tape
  output : w'.output = w.output
  size : w.heap.size ≤ w'.heap.size
  block : ∀ k, k < w.heap.size → k ∉ S → w'.heap[k]? = w.heap[k]?

theorem Mod.refl (S : List Nat) (w : World) : Mod S w w := ⟨rfl, rfl, rfl, Nat.le_refl _, fun _ _ _ => rfl⟩
theorem Mod.trans {S : List Nat} {a b c : World} (h : Mod S a b) (k : Mod S b c) : Mod S a c :=
  ⟨k.os.trans h.os, k.tape.trans h.tape, k.output.trans h.output, Nat.le_trans h.size k.size, fun i hi hs => (k.block i (Nat.lt_of_lt_of_le hi h.size) hs).trans (h.block i hi hs)⟩
theorem Mod.mono {S S' : List Nat} {a b : World} (h : Mod S a b) (hs : ∀ x ∈ S, x ∈ S') : Mod S' a b :=
  ⟨h.os, h.tape, h.output, h.size, fun i hi hn => h.block i hi (fun hm => hn (hs i hm))⟩
theorem Mod.of_below {S : List Nat} {a b : World} (h : Below a.heap.size a b) : Mod S a b := ⟨h.os, h.tape, h.output, h.size, fun i hi _ => h.block i hi⟩
theorem Mod.below {a b : World} (h : Mod [] a b) : Below a.heap.size a b := ⟨h.os, h.tape, h.output, h.size, fun i hi => h.block i hi (by simp)⟩
theorem Mod.setCell {S : List Nat} {a w : World} (h : Mod S a w) {p : Addr} (hp : p.block ∈ S) (u : Value) : Mod S a (w.setCell p u) :=
  h.trans ⟨rfl, rfl, rfl, by simp [World.setCell], fun k _ hk => Below.heap_setCell _ _ _ _ (fun e => hk (e ▸ hp))⟩
/-- A store into a block that is new since a. -/
theorem Mod.setNew {S : List Nat} {a w : World} (h : Mod S a w) {p : Addr} (hp : a.heap.size ≤ p.block) (u : Value) : Mod S a (w.setCell p u) :=
  ⟨h.os, h.tape, h.output, by have := h.size; simpa [World.setCell] using this, fun k hk hn => by
    rw [Below.heap_setCell _ _ _ _ (by omega)]; exact h.block k hk hn⟩
theorem Mod.alloc {S : List Nat} {a w : World} (h : Mod S a w) (o : Obj) : Mod S a (w.alloc o) :=
  h.trans ⟨rfl, rfl, rfl, by simp, fun k hk _ => Below.heap_alloc _ _ _ hk⟩
theorem Mod.drew {S : List Nat} {a w : World} (h : Mod S a w) : Mod S a w.drew := ⟨h.os, h.tape, h.output, h.size, h.block⟩
theorem Mod.drewN {S : List Nat} {a w : World} (h : Mod S a w) (n : Nat) : Mod S a (w.drewN n) := ⟨h.os, h.tape, h.output, h.size, h.block⟩
theorem Mod.then {S : List Nat} {a b c : World} (h : Mod S a b) (k : Below b.heap.size b c) : Mod S a c := h.trans (Mod.of_below k)
theorem Mod.grown {S : List Nat} {a w w' : World} {row : Option Nat} (h : Mod S a w) (hg : w.grownBy w' row) (hr : ∀ k, row = some k → a.heap.size ≤ k) : Mod S a w' :=
  ⟨hg.os.trans h.os, hg.tape.trans h.tape, hg.output.trans h.output, Nat.le_trans h.size hg.size, fun k hk hn => (hg.block k (Nat.lt_of_lt_of_le hk h.size) (fun e => by have := hr k e.symm; omega)).trans (h.block k hk hn)⟩
theorem Mod.heap {S : List Nat} {w w' : World} (h : Mod S w w') {k : Nat} {o : Obj} (hk : w.heap[k]? = some o) (hn : k ∉ S) : w'.heap[k]? = some o := by
  rw [h.block k (by rcases Nat.lt_or_ge k w.heap.size with h1 | h1; · exact h1
                    · rw [Array.getElem?_eq_none h1] at hk; cases hk) hn]; exact hk
theorem lt_of_heap {w : World} {k : Nat} {o : Obj} (hk : w.heap[k]? = some o) : k < w.heap.size := by
  rcases Nat.lt_or_ge k w.heap.size with h1 | h1
  · exact h1
  · rw [Array.getElem?_eq_none h1] at hk; cases hk
theorem lt_of_cell {w : World} {a : Addr} {v : Value} (h : w.cell? a = some v) : a.block < w.heap.size := by
  rcases Nat.lt_or_ge a.block w.heap.size with h1 | h1
  · exact h1
  · unfold World.cell? at h
    rw [Array.getElem?_eq_none h1] at h
    cases h
theorem Mod.cell {S : List Nat} {w w' : World} (h : Mod S w w') {a : Addr} {v : Value} (hc : w.cell? a = some v) (hn : a.block ∉ S) : w'.cell? a = some v := by
  rw [World.cell?_of_block (w := w) (h.block a.block (lt_of_cell hc) hn)]; exact hc
/-- Blocks that are new since W may turn. -/
theorem below_mod {S : List Nat} {W a b : World} (h : Below W.heap.size W a) (k : Mod S a b) (hs : ∀ s ∈ S, W.heap.size ≤ s) : Below W.heap.size W b :=
  h.trans ⟨k.os, k.tape, k.output, k.size, fun i hi => k.block i (Nat.lt_of_lt_of_le hi h.size) (fun hm => by have := hs i hm; omega)⟩

/-! Blocks known whole. -/
def Blk (w : World) (b : Nat) (cs : List Value) (T : TypeId) : Prop := w.heap[b]? = some (.cells cs.toArray T (0, 0))
theorem Blk.lt {w : World} {b : Nat} {cs : List Value} {T : TypeId} (h : Blk w b cs T) : b < w.heap.size := lt_of_heap h
theorem Blk.cell {w : World} {b : Nat} {cs : List Value} {T : TypeId} (h : Blk w b cs T) (i : Nat) : w.cell? ⟨b, i, none⟩ = cs[i]? := by
  unfold World.cell?
  rw [show (⟨b, i, none⟩ : Addr).block = b from rfl, show w.heap[b]? = _ from h]
  simp
theorem Blk.free {w : World} {b : Nat} {cs : List Value} {T : TypeId} (h : Blk w b cs T) (i : Nat) : w.frozen? ⟨b, i, none⟩ = false := by
  unfold World.frozen?
  rw [show (⟨b, i, none⟩ : Addr).block = b from rfl, show w.heap[b]? = _ from h]
  simp
theorem Blk.mod {S : List Nat} {w w' : World} {b : Nat} {cs : List Value} {T : TypeId} (h : Blk w b cs T) (hm : Mod S w w') (hn : b ∉ S) : Blk w' b cs T := hm.heap h hn
theorem Blk.set {w : World} {b : Nat} {cs : List Value} {T : TypeId} (h : Blk w b cs T) (i : Nat) (v : Value) : Blk (w.setCell ⟨b, i, none⟩ v) b (cs.set i v) T := by
  unfold Blk at *
  show (w.heap.modify b _)[b]? = _
  rw [Array.getElem?_modify, if_pos rfl, h]
  simp
theorem Blk.setOther {w : World} {b : Nat} {cs : List Value} {T : TypeId} (h : Blk w b cs T) {p : Addr} (hp : p.block ≠ b) (v : Value) : Blk (w.setCell p v) b cs T := by
  unfold Blk at *
  rw [Below.heap_setCell _ _ _ _ (fun e => hp e.symm)]; exact h
theorem Blk.alloc {w : World} {b : Nat} {cs : List Value} {T : TypeId} (h : Blk w b cs T) (o : Obj) : Blk (w.alloc o) b cs T := by
  unfold Blk at *
  rw [Below.heap_alloc _ _ _ (lt_of_heap h)]; exact h
theorem Blk.drew {w : World} {b : Nat} {cs : List Value} {T : TypeId} (h : Blk w b cs T) : Blk w.drew b cs T := h
theorem Blk.drewN {w : World} {b : Nat} {cs : List Value} {T : TypeId} (h : Blk w b cs T) (n : Nat) : Blk (w.drewN n) b cs T := h
theorem Blk.new (w : World) (cs : List Value) (T : TypeId) : Blk (w.alloc (.cells cs.toArray T)) w.heap.size cs T := by
  unfold Blk
  show (w.heap.push _)[w.heap.size]? = _
  simp
theorem Blk.cells3 {w : World} {b : Nat} {x y z : Value} {T : TypeId} (h : Blk w b [x, y, z] T) :
    w.cell? ⟨b, 0, none⟩ = some x ∧ w.cell? ⟨b, 1, none⟩ = some y ∧ w.cell? ⟨b, 2, none⟩ = some z ∧ ∀ i, w.frozen? ⟨b, i, none⟩ = false :=
  ⟨h.cell 0, h.cell 1, h.cell 2, h.free⟩
theorem Blk.cells4 {w : World} {b : Nat} {x y z u : Value} {T : TypeId} (h : Blk w b [x, y, z, u] T) :
    w.cell? ⟨b, 0, none⟩ = some x ∧ w.cell? ⟨b, 1, none⟩ = some y ∧ w.cell? ⟨b, 2, none⟩ = some z ∧ w.cell? ⟨b, 3, none⟩ = some u ∧ ∀ i, w.frozen? ⟨b, i, none⟩ = false :=
  ⟨h.cell 0, h.cell 1, h.cell 2, h.cell 3, h.free⟩
theorem Blk.cells5 {w : World} {b : Nat} {x y z u t : Value} {T : TypeId} (h : Blk w b [x, y, z, u, t] T) :
    w.cell? ⟨b, 0, none⟩ = some x ∧ w.cell? ⟨b, 1, none⟩ = some y ∧ w.cell? ⟨b, 2, none⟩ = some z ∧ w.cell? ⟨b, 3, none⟩ = some u ∧ w.cell? ⟨b, 4, none⟩ = some t ∧ ∀ i, w.frozen? ⟨b, i, none⟩ = false :=
  ⟨h.cell 0, h.cell 1, h.cell 2, h.cell 3, h.cell 4, h.free⟩
theorem Blk.cells6 {w : World} {b : Nat} {x y z u t r : Value} {T : TypeId} (h : Blk w b [x, y, z, u, t, r] T) :
    w.cell? ⟨b, 0, none⟩ = some x ∧ w.cell? ⟨b, 1, none⟩ = some y ∧ w.cell? ⟨b, 2, none⟩ = some z ∧ w.cell? ⟨b, 3, none⟩ = some u ∧ w.cell? ⟨b, 4, none⟩ = some t ∧ w.cell? ⟨b, 5, none⟩ = some r ∧ ∀ i, w.frozen? ⟨b, i, none⟩ = false :=
  ⟨h.cell 0, h.cell 1, h.cell 2, h.cell 3, h.cell 4, h.cell 5, h.free⟩
end Go.Proofs.Yteidhbjfmmodhaa
