/- The walks over the check sum's Right and the reference's Flip. -/
import Derived.Test.YtbjolcinnhpebaaCrcRef
import Derived.Test.YtbjolcinnhpebaaOrd
import Derived.Deep.QuietTactic
import Derived.BigQuiet
namespace Go.Proofs.Ytbjolcinnhpebaa
open Go.RowKit Crc

set_option maxHeartbeats 1000000 in
theorem right_short (s : ByteArray) (w : World) (hs : s.size < 4) :
    Calls Try.prog 13 #[.string s] w fun e w' => e = .returned (.bool false) ∧ Below w.heap.size w w' := by
  have hg : decide (4 ≤ (s.size : Int)) = false := by simp; omega
  go_enter Try.func13, Try.ntmps13
  go_wp2
  go_quiet (fail)
  go_wp2
  go_ret
  exact ⟨rfl, Ord.below_drewN (Below.refl _ _) _⟩

def rightB (s : ByteArray) : Bool := decide (4 ≤ s.size) && ((s.extract (s.size - 4) s.size).toList == (putI (smS (s.extract 0 (s.size - 4)))).toList)
set_option maxHeartbeats 1000000 in
theorem right_long (s : ByteArray) (w : World) (hs : 4 ≤ s.size) (hs2 : s.size ≤ maxLen) :
    Calls Try.prog 13 #[.string s] w fun e w' => e = .returned (.bool (rightB s)) ∧ Below w.heap.size w w' := by
  have hsum := sum_one w.heap.size (s.extract 0 (s.size - 4)) ((w.alloc (.cells #[.string (s.extract 0 (s.size - 4))] 9)).drew) (by simp; omega) (by simp [go_sem])
  have hr := smS_range (s.extract 0 (s.size - 4))
  obtain ⟨hr0, hr1⟩ := hr
  have HS := Lib.hid hsum
  clear hsum
  have hB : ((s.extract (s.size - 4) s.size).toList == (putI (smS (s.extract 0 (s.size - 4)))).toList) = rightB s := by simp [rightB, hs]
  have HB := Lib.hid hB
  clear hB
  unfold maxLen at hs2
  have hg : decide (4 ≤ (s.size : Int)) = true := by simp; omega
  go_enter Try.func13, Try.ntmps13
  go_wp2
  refine Ord.wp_region_ord (fun _ => True) [([0, 1, 2, 3, 4, 5, 6, 7, 8], 9), ([], 10), ([], 11)] [12, 13, 14] (by kernel_rfl) (by kernel_rfl) trivial ?_
  refine Ord.wpOrd_seg [_, _, _, _, _, _, _, _, _] _ rfl rfl ?_
  simp only [List.getElem_toArray, List.getElem_cons_zero, List.getElem_cons_succ]
  repeat go_big_quiet_step (fail)
  refine wpQuiet_nil ?_
  go_wp2
  refine ⟨trivial, ?_⟩
  refine Ord.wpOrd_seg [] _ rfl rfl ?_
  simp only [List.getElem_toArray, List.getElem_cons_zero, List.getElem_cons_succ]
  refine wpQuiet_nil ?_
  go_wp2_with (go_at_call 9; (with_reducible refine HS.out.mono ?_); rintro e w' ⟨rfl, rfl⟩)
  refine ⟨trivial, ?_⟩
  refine Ord.wpOrd_seg [] _ rfl rfl ?_
  simp only [List.getElem_toArray, List.getElem_cons_zero, List.getElem_cons_succ]
  refine wpQuiet_nil ?_
  go_wp2_with (go_at_call 11; (with_reducible refine (put_any _ _ hr0 hr1).mono ?_); rintro e w' ⟨rfl, hb⟩)
  refine ⟨trivial, ?_⟩
  refine Ord.wpOrd_last [_, _, _] rfl ?_
  simp only [List.getElem_toArray, List.getElem_cons_zero, List.getElem_cons_succ]
  repeat go_big_quiet_step (fail)
  refine wpQuiet_nil ?_
  go_wp2
  go_ret
  exact ⟨congrArg (fun z => Ending.returned (.bool z)) HB.out, ((((Below.refl _ _).alloc (Nat.le_refl _) _).drew).trans (hb.mono (by simp)))⟩
end Go.Proofs.Ytbjolcinnhpebaa
