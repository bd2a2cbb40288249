/- Rows of strings beside a sound log. -/
import Derived.Test.YteidhbjfmmodhaaWalAwake
namespace Go.Proofs.Yteidhbjfmmodhaa
open Go.RowKit Crc Fr

theorem DiskI.far {S : List Nat} {w w' : World} {bd bs bf : Nat} {d : D} {av : List Nat} (h : DiskI w bd bs bf d av) (ho : d.opn = none) (hm : Mod S w w') (h1 : bd ∉ S) (h2 : bs ∉ S) (h3 : bf ∉ S) : DiskI w' bd bs bf d av := by
  obtain ⟨⟨os, k1, k2⟩, k3, k4, k5, k6, k7⟩ := h
  rw [ho] at k2
  refine ⟨⟨os, k1.mod hm h1, ?_⟩, k3.mod hm h2, k4.mod hm h3, k5, k6, k7⟩
  rw [ho]; exact k2
theorem Obj.far {S : List Nat} {w w' : World} {bw bd bs bf : Nat} {d : D} {l : Lg} {av : List Nat} (h : Obj w bw bd bs bf d l av) (hm : Mod S w w') (hs : ∀ x ∈ [bd, bs, bf, bw], x ∉ S) : Obj w' bw bd bs bf d l av :=
  ⟨h.log.mod hm (hs bw (by simp)), h.disk.far h.snd.opn hm (hs bd (by simp)) (hs bs (by simp)) (hs bf (by simp)), h.snd, h.mem, fun x hx => Nat.lt_of_lt_of_le (h.lt x hx) hm.size⟩
theorem Obj.lts {w : World} {bw bd bs bf : Nat} {d : D} {l : Lg} {av : List Nat} (h : Obj w bw bd bs bf d l av) : ∀ x ∈ [bd, bs, bf, bw], x < w.heap.size := by
  have h1 := h.disk.lts
  have h2 := h.lt _ h.mem
  intro x hx
  simp at hx
  rcases hx with e | e | e | e <;> rw [e]
  · exact h1.1
  · exact h1.2.1
  · exact h1.2.2
  · exact h2
/-- A row of one string that was just laid. -/
theorem one_row (w : World) (x : ByteArray) : (w.alloc (.cells #[.string x] 9)).ownsRow w.heap.size 9 1 (.slice (some ⟨w.heap.size, 0, none⟩) 1 1) 1 [.string x] :=
  ⟨rfl, .inr ⟨w.heap.size, 1, #[.string x], rfl, Nat.le_refl _, by show (w.heap.push _)[w.heap.size]? = _; simp, Nat.le_refl _, by simp [maxLen], rfl, rfl⟩⟩
/-- What an append to a row turns. -/
theorem grown_mod {w w' : World} {base : Nat} {e : TypeId} {size n : Nat} {v : Value} {xs : List Value} (h : w.ownsRow base e size v n xs) (hg : w.grownBy w' v.ownBlock) : ∃ S : List Nat, Mod S w w' ∧ ∀ x ∈ S, base ≤ x := by
  obtain ⟨_, h2⟩ := h
  rcases h2 with ⟨rfl, _⟩ | ⟨g, cap, cur, rfl, hb, _⟩
  · exact ⟨[], ⟨hg.os, hg.tape, hg.output, hg.size, fun k hk _ => hg.block k hk (by simp [Value.ownBlock])⟩, by simp⟩
  · exact ⟨[g], ⟨hg.os, hg.tape, hg.output, hg.size, fun k hk hn => hg.block k hk (by simp [Value.ownBlock]; intro e; exact hn (by simp [e]))⟩, by simp; exact hb⟩
end Go.Proofs.Yteidhbjfmmodhaa
