/- The walks over the fuse, and over its reference: both are one plain machine. -/
import Derived.Test.YteidhbjfmmodhaaProg
import Derived.Test.YteidhbjfmmodhaaMod
import Derived.WalkKit
import Derived.WalkSpells
import Derived.WalkLawsBesides
namespace Go.Proofs.Yteidhbjfmmodhaa
open Go.RowKit

/-- A fuse: how many calls it bears (none: any), whether it is blown, how many were borne. -/
structure F where
  left : Option Nat
  blown : Bool
  count : Int
def F.leftI (f : F) : Int := match f.left with | none => -1 | some n => (n : Int)
def F.stop (f : F) : Bool := f.blown || f.left == some 0
def F.spend (f : F) : F := if f.stop then { f with blown := true } else { left := f.left.map (· - 1), blown := f.blown, count := wrap64 (f.count + 1) }
def F.arm (f : F) (n : Int) : F := { left := some n.toNat, blown := false, count := f.count }
def F.reset (f : F) : F := { left := none, blown := false, count := f.count }
def F.fits (f : F) : Prop := ∀ n, f.left = some n → (n : Int) ≤ 9223372036854775807
def F.new : F := { left := none, blown := false, count := 0 }

abbrev ptr (b : Nat) : Value := .pointer (some ⟨b, 0, none⟩)

/-- The program's fuse, in memory. -/
structure FuseI (w : World) (b : Nat) (f : F) : Prop where
  blk : Blk w b [.int .i64 f.leftI, .bool f.blown, .int .i64 f.count] 58
  fits : f.fits
theorem FuseI.mod {S : List Nat} {w w' : World} {b : Nat} {f : F} (h : FuseI w b f) (hm : Mod S w w') (hn : b ∉ S) : FuseI w' b f := ⟨h.blk.mod hm hn, h.fits⟩

theorem F.fits_spend {f : F} (h : f.fits) : f.spend.fits := by
  unfold F.spend
  split
  · exact h
  · intro n hn
    cases hl : f.left with
    | none => rw [hl] at hn; cases hn
    | some m => rw [hl] at hn; simp at hn; have := h m hl; omega

set_option maxHeartbeats 1000000 in
theorem spend_any (b : Nat) (f : F) (w : World) (h : FuseI w b f) :
    Calls Try.prog 55 #[ptr b] w fun e w' => e = .returned (.bool (!f.stop)) ∧ FuseI w' b f.spend ∧ Mod [b] w w' := by
  obtain ⟨hb, hf⟩ := h
  obtain ⟨c0, c1, c2, fz⟩ := hb.cells3
  have HB := Lib.hid hb
  have HF := Lib.hid hf
  have hM := (Mod.refl [b] w).setCell (p := ⟨b, 0, none⟩) (by simp)
  have HM := Lib.hid hM
  clear hb hf hM
  obtain ⟨left, blown, count⟩ := f
  cases blown
  · cases left with
    | none =>
      simp only [F.leftI] at c0
      go_enter Try.func55, Try.ntmps55
      go_wp2
      go_ret
      refine ⟨rfl, ⟨?_, F.fits_spend HF.out⟩, (Mod.refl [b] w).setCell (by simp) _⟩
      exact HB.out.set 2 _
    | some n =>
      cases n with
      | zero =>
        simp only [F.leftI] at c0
        go_enter Try.func55, Try.ntmps55
        go_wp2
        go_ret
        refine ⟨rfl, ⟨?_, F.fits_spend HF.out⟩, (Mod.refl [b] w).setCell (by simp) _⟩
        exact HB.out.set 1 _
      | succ k =>
        have hk : ((k + 1 : Nat) : Int) ≤ 9223372036854775807 := HF.out (k + 1) rfl
        have HK := Lib.hid hk
        clear hk
        obtain ⟨m, hm⟩ : ∃ m : Int, m = ((k + 1 : Nat) : Int) := ⟨_, rfl⟩
        have c0' : w.cell? ⟨b, 0, none⟩ = some (.int .i64 m) := by rw [hm]; exact c0
        have hm0 : 0 < m := by omega
        have h1 : (m == 0) = false := by simp; omega
        have HW := Lib.hid (show wrap64 (m - 1) = (k : Int) by have := HK.out; rw [IntWalk.wrap64_in _ (by omega)]; omega)
        clear c0 hm
        go_enter Try.func55, Try.ntmps55
        go_wp2
        go_ret
        rw [HW.out]
        refine ⟨rfl, ⟨?_, F.fits_spend HF.out⟩, ((Mod.refl [b] w).setCell (by simp) _).setCell (by simp) _⟩
        exact (HB.out.set 0 _).set 2 _
  · go_enter Try.func55, Try.ntmps55
    go_wp2
    go_ret
    refine ⟨rfl, ⟨?_, F.fits_spend HF.out⟩, (Mod.refl [b] w).setCell (by simp) _⟩
    exact HB.out.set 1 _

set_option maxHeartbeats 1000000 in
theorem arm_any (b : Nat) (f : F) (n : Int) (w : World) (h : FuseI w b f) (hn : n ≤ 9223372036854775807) :
    Calls Try.prog 25 #[ptr b, .int .i64 n] w fun e w' => e = .returned (.tuple #[]) ∧ FuseI w' b (f.arm n) ∧ Mod [b] w w' := by
  obtain ⟨hb, hf⟩ := h
  obtain ⟨c0, c1, c2, fz⟩ := hb.cells3
  have HB := Lib.hid hb
  have HF := Lib.hid hf
  have HN := Lib.hid hn
  clear hb hf hn
  have hfit : (f.arm n).fits := by
    intro m hm
    simp [F.arm] at hm
    have := HN.out
    omega
  have HT := Lib.hid hfit
  clear hfit
  by_cases h0 : 0 ≤ n
  · have HX := Lib.hid (show (f.arm n).leftI = n by simp [F.arm, F.leftI]; omega)
    go_enter Try.func25, Try.ntmps25
    go_wp2
    go_end0
    refine ⟨rfl, ⟨?_, HT.out⟩, ((Mod.refl [b] w).setCell (by simp) _).setCell (by simp) _⟩
    rw [HX.out]
    exact (HB.out.set 0 _).set 1 _
  · have h1 : n < 0 := by omega
    have HX := Lib.hid (show (f.arm n).leftI = 0 by simp [F.arm, F.leftI]; omega)
    clear h0
    go_enter Try.func25, Try.ntmps25
    go_wp2
    go_end0
    refine ⟨rfl, ⟨?_, HT.out⟩, ((Mod.refl [b] w).setCell (by simp) _).setCell (by simp) _⟩
    rw [HX.out]
    exact (HB.out.set 0 _).set 1 _

set_option maxHeartbeats 1000000 in
theorem reset_any (b : Nat) (f : F) (w : World) (h : FuseI w b f) :
    Calls Try.prog 46 #[ptr b] w fun e w' => e = .returned (.tuple #[]) ∧ FuseI w' b f.reset ∧ Mod [b] w w' := by
  obtain ⟨hb, hf⟩ := h
  obtain ⟨c0, c1, c2, fz⟩ := hb.cells3
  have HB := Lib.hid hb
  clear hb hf
  go_enter Try.func46, Try.ntmps46
  go_wp2
  go_end0
  refine ⟨rfl, ⟨?_, fun n hn => by cases hn⟩, ((Mod.refl [b] w).setCell (by simp) _).setCell (by simp) _⟩
  exact (HB.out.set 0 _).set 1 _

set_option maxHeartbeats 1000000 in
theorem fnew_any (w : World) :
    Calls Try.prog 8 #[] w fun e w' => ∃ b, e = .returned (ptr b) ∧ w.heap.size ≤ b ∧ FuseI w' b F.new ∧ Mod [] w w' := by
  go_enter Try.func8, Try.ntmps8
  go_wp2
  go_ret
  exact ⟨_, rfl, Nat.le_refl _, ⟨Blk.new _ [.int .i64 (-1), .bool false, .int .i64 0] _, fun n hn => by cases hn⟩, (Mod.refl _ _).alloc _⟩

set_option maxHeartbeats 1000000 in
theorem count_any (b : Nat) (f : F) (w : World) (h : FuseI w b f) :
    Calls Try.prog 19 #[ptr b] w fun e w' => e = .returned (.int .i64 f.count) ∧ w' = w := by
  obtain ⟨hb, hf⟩ := h
  obtain ⟨c0, c1, c2, fz⟩ := hb.cells3
  clear hb hf
  go_enter Try.func19, Try.ntmps19
  go_wp2
  go_ret
  exact ⟨rfl, rfl⟩

/-- The reference's fuse, in memory. -/
structure FuseR (w : World) (b : Nat) (f : F) : Prop where
  blk : ∃ l : Int, Blk w b [.bool f.left.isSome, .int .i64 l, .bool f.blown, .int .i64 f.count] 46 ∧ ∀ n, f.left = some n → l = (n : Int)
  fits : f.fits
theorem FuseR.mod {S : List Nat} {w w' : World} {b : Nat} {f : F} (h : FuseR w b f) (hm : Mod S w w') (hn : b ∉ S) : FuseR w' b f := by
  obtain ⟨⟨l, hb, hl⟩, hf⟩ := h
  exact ⟨⟨l, hb.mod hm hn, hl⟩, hf⟩

set_option maxHeartbeats 1000000 in
theorem rspend_any (b : Nat) (f : F) (w : World) (h : FuseR w b f) :
    Calls Try.prog 62 #[ptr b] w fun e w' => e = .returned (.bool (!f.stop)) ∧ FuseR w' b f.spend ∧ Mod [b] w w' := by
  obtain ⟨⟨l, hb, hl⟩, hf⟩ := h
  obtain ⟨c0, c1, c2, c3, fz⟩ := hb.cells4
  have HB := Lib.hid hb
  have HF := Lib.hid hf
  clear hb hf
  obtain ⟨left, blown, count⟩ := f
  cases left with
  | none =>
    clear hl
    cases blown
    · go_enter Try.func62, Try.ntmps62
      go_wp2
      go_ret
      refine ⟨rfl, ⟨⟨l, ?_, fun n hn => by cases hn⟩, F.fits_spend HF.out⟩, (Mod.refl [b] w).setCell (by simp) _⟩
      exact HB.out.set 3 _
    · go_enter Try.func62, Try.ntmps62
      go_wp2
      go_ret
      exact ⟨rfl, ⟨⟨l, HB.out, fun n hn => by cases hn⟩, F.fits_spend HF.out⟩, Mod.refl [b] w⟩
  | some n =>
    obtain rfl := hl n rfl
    clear hl
    cases n with
    | zero =>
      go_enter Try.func62, Try.ntmps62
      go_wp2
      go_ret
      refine ⟨by cases blown <;> rfl, ⟨⟨0, ?_, fun n hn => by cases blown <;> (simp [F.spend, F.stop] at hn; omega)⟩, F.fits_spend HF.out⟩, (Mod.refl [b] w).setCell (by simp) _⟩
      cases blown <;> exact HB.out.set 2 _
    | succ k =>
      have hk : ((k + 1 : Nat) : Int) ≤ 9223372036854775807 := HF.out (k + 1) rfl
      have h1 : ((((k + 1 : Nat) : Int)) == 0) = false := by simp; omega
      cases blown
      · have HW := Lib.hid (show wrap64 (k : Int) = (k : Int) by rw [IntWalk.wrap64_in _ (by omega)])
        clear hk
        go_enter Try.func62, Try.ntmps62
        go_wp2
        go_ret
        rw [HW.out]
        refine ⟨rfl, ⟨⟨k, ?_, fun n hn => by simp [F.spend, F.stop] at hn; omega⟩, F.fits_spend HF.out⟩, ((Mod.refl [b] w).setCell (by simp) _).setCell (by simp) _⟩
        exact (HB.out.set 1 _).set 3 _
      · clear hk
        go_enter Try.func62, Try.ntmps62
        go_wp2
        go_ret
        exact ⟨rfl, ⟨⟨_, HB.out, fun n hn => by simp [F.spend, F.stop] at hn; omega⟩, F.fits_spend HF.out⟩, Mod.refl [b] w⟩

set_option maxHeartbeats 1000000 in
theorem rarm_any (b : Nat) (f : F) (n : Int) (w : World) (h : FuseR w b f) (hn : n ≤ 9223372036854775807) :
    Calls Try.prog 26 #[ptr b, .int .i64 n] w fun e w' => e = .returned (.tuple #[]) ∧ FuseR w' b (f.arm n) ∧ Mod [b] w w' := by
  obtain ⟨⟨l, hb, hl⟩, hf⟩ := h
  obtain ⟨c0, c1, c2, c3, fz⟩ := hb.cells4
  have HB := Lib.hid hb
  have HT := Lib.hid (show (f.arm n).fits from fun m hm => by simp [F.arm] at hm; omega)
  clear hb hf hl hn
  by_cases h0 : 0 ≤ n
  · go_enter Try.func26, Try.ntmps26
    go_wp2
    go_end0
    refine ⟨rfl, ⟨⟨n, ?_, fun m hm => by simp [F.arm] at hm; omega⟩, HT.out⟩, (((Mod.refl [b] w).setCell (by simp) _).setCell (by simp) _).setCell (by simp) _⟩
    exact ((HB.out.set 0 _).set 1 _).set 2 _
  · have h1 : n < 0 := by omega
    clear h0
    go_enter Try.func26, Try.ntmps26
    go_wp2
    go_end0
    refine ⟨rfl, ⟨⟨0, ?_, fun m hm => by simp [F.arm] at hm; omega⟩, HT.out⟩, (((Mod.refl [b] w).setCell (by simp) _).setCell (by simp) _).setCell (by simp) _⟩
    exact ((HB.out.set 0 _).set 1 _).set 2 _

set_option maxHeartbeats 1000000 in
theorem rreset_any (b : Nat) (f : F) (w : World) (h : FuseR w b f) :
    Calls Try.prog 48 #[ptr b] w fun e w' => e = .returned (.tuple #[]) ∧ FuseR w' b f.reset ∧ Mod [b] w w' := by
  obtain ⟨⟨l, hb, hl⟩, hf⟩ := h
  obtain ⟨c0, c1, c2, c3, fz⟩ := hb.cells4
  have HB := Lib.hid hb
  clear hb hf hl
  go_enter Try.func48, Try.ntmps48
  go_wp2
  go_end0
  refine ⟨rfl, ⟨⟨l, ?_, fun n hn => by cases hn⟩, fun n hn => by cases hn⟩, ((Mod.refl [b] w).setCell (by simp) _).setCell (by simp) _⟩
  exact (HB.out.set 0 _).set 2 _
end Go.Proofs.Yteidhbjfmmodhaa
