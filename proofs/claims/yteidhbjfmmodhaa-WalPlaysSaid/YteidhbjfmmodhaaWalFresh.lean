/- A fresh disk's log. -/
import Derived.Test.YteidhbjfmmodhaaWalInv
import Derived.Test.YteidhbjfmmodhaaDisk2
namespace Go.Proofs.Yteidhbjfmmodhaa
open Fr Crc

theorem valL_zeros : ∀ k, valL (List.replicate k 0) = 0
  | 0 => rfl
  | k + 1 => by rw [List.replicate_succ, valL_cons, valL_zeros k]; simp
theorem zB_val (n i j : Nat) : valS ((zB n).extract i j) = 0 := by
  unfold valS
  rw [extract_list]
  show valL ((((Lib.repeatL [0] n).toArray.toList).drop i).take (j - i)) = 0
  rw [List.toList_toArray, repeat_one, List.drop_replicate, List.take_replicate]
  exact valL_zeros _
theorem zB_gen (n : Nat) : genOf (zB n) = 0 := zB_val _ _ _
theorem zB_seq (n : Nat) : seqOf (zB n) = 0 := zB_val _ _ _
theorem zB_pay (n : Nat) : payOf (zB n) ≠ headS := by
  intro e
  have := congrArg ByteArray.size e
  unfold payOf lenOf at this
  rw [zB_val, ByteArray.size_extract] at this
  have h4 : headS.size = 4 := rfl
  omega

theorem new_sect (size n : Int) (f : F) (i : Nat) (hi : i < (dNew size n f).last.length) : sect (dNew size n f).now i = zB (sizeOfI size) := by
  have : (dNew size n f).now = List.replicate (lenOfI n) (zB (sizeOfI size)) := rfl
  rw [this]
  have hi' : i < lenOfI n := by simpa [dNew] using hi
  unfold sect
  simp [List.getD, hi']
theorem new_headN (size n : Int) (f : F) (a : Nat) (ha : a ≤ 1) : headN (dNew size n f) a = 0 := by
  have hf := dNew_fits size n f
  have := at_lt (seq := 0) hf ha (by have := half_two hf; omega)
  rw [Nat.add_zero] at this
  unfold headN
  rw [new_sect _ _ _ _ this]
  rw [if_neg (by simp [zB_pay])]
theorem new_good (size n : Int) (f : F) (a g q : Nat) (ha : a ≤ 1) (hq : q < (dNew size n f).half) (h0 : q ≠ 0) : good (dNew size n f) a g q = false := by
  have hf := dNew_fits size n f
  unfold good
  rw [new_sect _ _ _ _ (at_lt hf ha hq), zB_seq]
  have : (0 == q) = false := by simp; omega
  rw [this]; simp
def fresh0 (size n : Int) (f : F) : D := lay (dNew size n f) 0 1 0 headS
def freshL : Lg := { area := 0, gen := 1, recs := [], broken := false }
theorem fresh_sound (size n : Int) (f : F) (h : f.left = none ∧ f.blown = false) : Sound (fresh0 size n f) freshL := by
  have hf := dNew_fits size n f
  have h2 := half_two hf
  have hs : Safe (dNew size n f) := h
  have ho : (dNew size n f).opn = none := rfl
  have hp : (headS.size : Int) ≤ ((dNew size n f).size : Int) - 14 := by have := hf.s1; have : headS.size = 4 := rfl; omega
  have hh := lay_headN hs hf ho (area := 0) (seq := 0) (by omega) (by omega) (gen := 1) (by omega) hp
  have hg := lay_good hs hf ho (area := 0) (seq := 0) (by omega) (by omega) (gen := 1) (by omega) hp
  refine ⟨lay_fits hf (by omega) (by omega) hp, lay_safe hs _ _ _ _, lay_opn _ _ _ _ _ (lay_ok hs _ _ _ _), rfl, by show 0 ≤ 1; omega, by show 1 ≤ 1; omega, by show 1 ≤ 4294967295; omega, ?_, ?_, ?_, ?_, ?_, ?_⟩
  · show headN _ 0 = 1
    unfold fresh0
    rw [hh 0 (by omega), if_pos ⟨rfl, rfl⟩, if_pos rfl]
  · show headN _ (1 - 0) < 1
    unfold fresh0
    rw [hh (1 - 0) (by omega), if_neg (by omega), new_headN _ _ _ _ (by omega)]
    omega
  · show ([] : List ByteArray).length + 1 ≤ _
    unfold fresh0
    rw [lay_half]; simp; omega
  · intro k hk
    exact absurd hk (Nat.not_lt_zero _)
  · intro k hk1 hk2
    show good _ 0 1 k = false
    have hk' : 0 < k := hk1
    unfold fresh0 at hk2 ⊢
    rw [lay_half] at hk2
    rw [hg _ _ _ (by omega) hk2, if_neg (by omega)]
    exact new_good _ _ _ _ _ _ (by omega) hk2 (by omega)
  · show ∀ i, i < (fresh0 size n f).last.length → okB (sect (fresh0 size n f).now i) = true → genOf (sect (fresh0 size n f).now i) ≤ 1
    refine lay_gens hs hf ho (by omega) (by omega) (by omega) hp 1 (Nat.le_refl _) (fun i hi _ => ?_)
    rw [new_sect _ _ _ _ hi, zB_gen]
    omega
theorem fresh_open (size n : Int) (f : F) (h : f.left = none ∧ f.blown = false) : openOk (dNew size n f) = true ∧ openD (dNew size n f) = fresh0 size n f ∧ openL (dNew size n f) = freshL := by
  have hs : Safe (dNew size n f) := h
  have hf := dNew_fits size n f
  have h1 : opn1 (dNew size n f) = dNew size n f := rfl
  have h2 : ((dNew size n f).opn.isSome && (dNew size n f).fuse.stop) = false := rfl
  have h3 : genN (opn1 (dNew size n f)) = 0 := by
    rw [h1]; unfold genN
    rw [new_headN _ _ _ _ (by omega), new_headN _ _ _ _ (by omega)]; rfl
  have h4 : areaN (opn1 (dNew size n f)) = 0 := by
    rw [h1]; unfold areaN
    rw [new_headN _ _ _ _ (by omega), new_headN _ _ _ _ (by omega)]; rfl
  have hD : openD (dNew size n f) = fresh0 size n f := by unfold openD; rw [h2, if_neg (by simp), if_pos h3, h1]; rfl
  have hG : openGen (dNew size n f) = 1 := by unfold openGen; rw [if_pos h3]
  refine ⟨by unfold openOk; rw [h2, if_neg (by simp), if_pos h3, h1]; exact lay_ok hs _ _ _ _, hD, ?_⟩
  unfold openL
  rw [hD, hG, h4]
  have := (fresh_sound size n f h).listed
  show ({ area := 0, gen := 1, recs := recsOf (fresh0 size n f) freshL.area freshL.gen, broken := false } : Lg) = freshL
  rw [this]; rfl
end Go.Proofs.Yteidhbjfmmodhaa
