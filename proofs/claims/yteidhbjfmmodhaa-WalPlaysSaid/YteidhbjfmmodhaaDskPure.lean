/- A disk and a log as plain machines. -/
import Derived.Test.YteidhbjfmmodhaaFuse
import Derived.Test.YteidhbjfmmodhaaFrPure
namespace Go.Proofs.Yteidhbjfmmodhaa
open Fr Crc

/-- A sector of a list. -/
def sect (l : List ByteArray) (i : Nat) : ByteArray := l.getD i ⟨#[]⟩
theorem sect_mem {l : List ByteArray} {i : Nat} (h : i < l.length) : sect l i ∈ l := by unfold sect; simp [List.getD, h]
theorem sect_set {l : List ByteArray} {i : Nat} (b : ByteArray) (h : i < l.length) : sect (l.set i b) i = b := by unfold sect; simp [List.getD, h]
theorem sect_other {l : List ByteArray} {i j : Nat} (b : ByteArray) (h : i ≠ j) : sect (l.set i b) j = sect l j := by unfold sect; simp [List.getD, List.getElem?_set_ne h]
/-- A disk: a sector's bytes, what lasts, the write that isn't flushed, the fuse. -/
structure D where
  size : Nat
  last : List ByteArray
  opn : Option (Nat × ByteArray)
  fuse : F
namespace D
def now (d : D) : List ByteArray := match d.opn with | none => d.last | some (i, b) => d.last.set i b
def half (d : D) : Nat := d.last.length / 2
def spend (d : D) : D := { d with fuse := d.fuse.spend }
def write (d : D) (i : Nat) (b : ByteArray) : D := if d.fuse.stop then d.spend else { d.spend with opn := some (i, b) }
def flush (d : D) : D := if d.fuse.stop then d.spend else { d.spend with last := d.now, opn := none }
/-- A sector of which some bytes are new. -/
def mix (size torn : Nat) (b old : ByteArray) : ByteArray := b.extract 0 (min torn size) ++ old.extract (min torn size) old.size
def crash (d : D) (keep torn : Nat) : D :=
  { size := d.size, opn := none, fuse := d.fuse.reset,
    last := match d.opn with | none => d.last | some (i, b) => if keep % 2 = 1 then d.last.set i (mix d.size torn b (sect d.last i)) else d.last }
structure Fits (d : D) : Prop where
  s1 : 128 ≤ d.size
  s2 : d.size ≤ 1024
  n1 : 4 ≤ d.last.length
  n2 : d.last.length ≤ 1024
  each : ∀ s ∈ d.last, s.size = d.size
  opn : ∀ i b, d.opn = some (i, b) → i < d.last.length ∧ b.size = d.size
theorem now_length (d : D) : d.now.length = d.last.length := by unfold now; split <;> simp
theorem Fits.now {d : D} (h : d.Fits) : ∀ s ∈ d.now, s.size = d.size := by
  intro s hs
  unfold D.now at hs
  split at hs
  · exact h.each s hs
  · rename_i i b hob
    rcases List.mem_or_eq_of_mem_set hs with h1 | h1
    · exact h.each s h1
    · rw [h1]; exact (h.opn i b hob).2
theorem Fits.spend {d : D} (h : d.Fits) : d.spend.Fits := ⟨h.s1, h.s2, h.n1, h.n2, h.each, h.opn⟩
theorem Fits.write {d : D} (h : d.Fits) (i : Nat) (b : ByteArray) (hi : i < d.last.length) (hb : b.size = d.size) : (d.write i b).Fits := by
  unfold D.write
  split
  · exact h.spend
  · exact ⟨h.s1, h.s2, h.n1, h.n2, h.each, fun j c hj => by simp at hj; obtain ⟨rfl, rfl⟩ := hj; exact ⟨hi, hb⟩⟩
theorem Fits.flush {d : D} (h : d.Fits) : d.flush.Fits := by
  unfold D.flush
  split
  · exact h.spend
  · exact ⟨h.s1, h.s2, by show 4 ≤ d.now.length; rw [now_length]; exact h.n1, by show d.now.length ≤ 1024; rw [now_length]; exact h.n2, h.now, fun j c hj => by cases hj⟩
theorem mix_size (size torn : Nat) (b old : ByteArray) (h1 : b.size = size) (h2 : old.size = size) : (mix size torn b old).size = size := by
  unfold mix
  rw [ByteArray.size_append, ByteArray.size_extract, ByteArray.size_extract]
  omega
theorem Fits.crash {d : D} (h : d.Fits) (keep torn : Nat) : (d.crash keep torn).Fits := by
  have hl : (d.crash keep torn).last.length = d.last.length := by
    unfold D.crash
    simp only
    split
    · rfl
    · split <;> simp
  refine ⟨h.s1, h.s2, by rw [hl]; exact h.n1, by rw [hl]; exact h.n2, ?_, fun i b hi => by cases hi⟩
  intro s hs
  show s.size = d.size
  unfold D.crash at hs
  simp only at hs
  split at hs
  · exact h.each s hs
  · rename_i i b hob
    split at hs
    · rcases List.mem_or_eq_of_mem_set hs with h1 | h1
      · exact h.each s h1
      · rw [h1]
        have hi := (h.opn i b hob).1
        refine mix_size _ _ _ _ (h.opn i b hob).2 (h.each _ (sect_mem hi))
    · exact h.each s hs
end D
end Go.Proofs.Yteidhbjfmmodhaa
