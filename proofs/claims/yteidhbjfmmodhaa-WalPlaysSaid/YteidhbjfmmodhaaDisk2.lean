/- The walks over the disk: a new one. -/
import Derived.Test.YteidhbjfmmodhaaDisk
import Derived.Test.YteidhbjfmmodhaaFrWalk
import Derived.Deep.OwnRows
namespace Go.Proofs.Yteidhbjfmmodhaa
open Go.RowKit Crc Fr

theorem info_str : (Try.prog.info? 9).map (fun i => (i.zero, i.size, i.bytes)) = some (some (.string ⟨#[]⟩), 1, 16) := by kernel_rfl
theorem made_list (z : Value) (n : Nat) : madeCells #[z] n = (List.replicate n z).toArray := by
  apply Array.ext
  · simp [size_madeCells]
  · intro i h1 h2
    simp [madeCells]
    have : i % 1 = 0 := Nat.mod_one i
    simp [this]

/-- The first k sectors are noughts. -/
def zs (s n k : Nat) : List ByteArray := List.replicate k (zB s) ++ List.replicate (n - k) ⟨#[]⟩
theorem zs_length (s n k : Nat) (h : k ≤ n) : (zs s n k).length = n := by simp [zs]; omega
theorem zs_set (s n k : Nat) (h : k < n) : (zs s n k).set k (zB s) = zs s n (k + 1) := by
  unfold zs
  rw [List.set_append_right _ _ (by simp)]
  simp only [List.length_replicate, Nat.sub_self]
  rw [show n - k = (n - (k + 1)) + 1 by omega]
  rw [List.replicate_succ (n := n - (k + 1)), List.set_cons_zero, List.replicate_succ' (n := k), List.append_assoc]
  rfl
theorem zs_all (s n : Nat) : zs s n n = List.replicate n (zB s) := by simp [zs]
def sizeOfI (size : Int) : Nat := (min (max size 128) 1024).toNat
def lenOfI (n : Int) : Nat := (min (max n 4) 1024).toNat
def dNew (size n : Int) (f : F) : D := { size := sizeOfI size, last := List.replicate (lenOfI n) (zB (sizeOfI size)), opn := none, fuse := f }
theorem dNew_fits (size n : Int) (f : F) : (dNew size n f).Fits := by
  refine ⟨?_, ?_, ?_, ?_, ?_, fun i b h => by cases h⟩
  · simp [dNew, sizeOfI]; omega
  · simp [dNew, sizeOfI]; omega
  · simp [dNew, lenOfI]; omega
  · simp [dNew, lenOfI]; omega
  · intro s hs
    simp [dNew] at hs
    rw [hs.2, zB_size]
    rfl

set_option maxRecDepth 100000 in
set_option maxHeartbeats 2000000 in
theorem dnew_any (size n : Int) (bf : Nat) (f : F) (w : World) (hf : FuseI w bf f) :
    Calls Try.prog 11 #[.int .i64 size, .int .i64 n, ptr bf] w fun e w' => ∃ bd bs, e = .returned (ptr bd) ∧ w.heap.size ≤ bd ∧ w.heap.size ≤ bs ∧ DiskI w' bd bs bf (dNew size n f) [] ∧ Mod [] w w' := by
  have hfit := dNew_fits size n f
  have HFT := Lib.hid hfit
  have HF := Lib.hid hf
  clear hf hfit
  obtain ⟨s, hs⟩ : ∃ s : Nat, s = sizeOfI size := ⟨_, rfl⟩
  obtain ⟨k, hk⟩ : ∃ k : Nat, k = lenOfI n := ⟨_, rfl⟩
  have HS := Lib.hid (show min (max size 128) 1024 = (s : Int) by rw [hs]; unfold sizeOfI; omega)
  have HK := Lib.hid (show min (max n 4) 1024 = (k : Int) by rw [hk]; unfold lenOfI; omega)
  have HS2 := Lib.hid (show s ≤ 1024 by rw [hs]; unfold sizeOfI; omega)
  have hk1 : k ≤ 1024 := by rw [hk]; unfold lenOfI; omega
  have HE := Lib.hid (And.intro hs hk)
  have hmk := Lib.hid (fun W : World => run_make_row' (P := Try.prog) 31 9 (.string ⟨#[]⟩) 16 Try.underlying31 info_str rfl .i64 .i64 k (by omega) (by omega) W)
  have HK2 := Lib.hid hk1
  clear hs hk hk1
  go_enter Try.func11, Try.ntmps11
  go_wp2
  rw [HK.out, HS.out, hmk.out, made_list]
  go_wp2
  obtain ⟨b, hb⟩ : ∃ b, b = w.heap.size := ⟨_, rfl⟩
  have HB := Lib.hid hb
  rw [← hb]
  clear hb
  go_loopw [8, 27] (fun v i wr => ∃ j : Nat, j ≤ k ∧ i = .int .i64 j ∧ Blk wr b [.int .i64 s, .slice (some ⟨b + 1, 0, none⟩) k k, .slice none 0 0, ptr bf] 61 ∧ Blk wr (b + 1) ((zs s k j).map Value.string) 9 ∧ Mod [] w wr) (fun _ i _ => k - (intOf i).toNat)
  case atStart =>
    refine ⟨0, Nat.zero_le _, rfl, ?_, ?_, ?_⟩
    · rw [HB.out]; exact (Blk.new w [.int .i64 s, .slice (some ⟨w.heap.size + 1, 0, none⟩) k k, .slice none 0 0, ptr bf] _).alloc _
    · have h1 := Blk.new (w.alloc (.cells #[.int .i64 s, .slice (some ⟨b + 1, 0, none⟩) k k, .slice none 0 0, ptr bf] 61)) (List.replicate k (.string ⟨#[]⟩)) 9
      simp only [World.size_alloc, List.toArray_replicate, ← HB.out] at h1
      have h2 : List.map Value.string (zs s k 0) = List.replicate k (.string ⟨#[]⟩) := by simp [zs]
      rw [h2]
      exact h1
    · exact ((Mod.refl [] w).alloc _).alloc _
  case round =>
    obtain ⟨j, hj, rfl, hbd, hbs, hm⟩ := hrel
    by_cases hlt : j < k
    · obtain ⟨c0, c1, c2, c3, fz⟩ := hbd.cells4
      have HWJ := Lib.hid (show wrap64 ((j : Int) + 1) = ((j + 1 : Nat) : Int) by have := HK2.out; rw [IntWalk.wrap64_in _ (by omega)]; omega)
      have HBD := Lib.hid hbd
      have HBS2 := Lib.hid hbs
      have HM := Lib.hid hm
      clear hbd hbs hm c2 c3 fz
      go_wp2
      refine Ord.wp_region_ord (fun w' => w'.cell? ⟨b, 0, none⟩ = some (.int .i64 s) ∧ w'.cell? ⟨b, 1, none⟩ = some (.slice (some ⟨b + 1, 0, none⟩) k k)) [([0, 1, 2, 3, 4, 5, 6, 7, 8], 9), ([10], 11)] [] (by kernel_rfl) (by kernel_rfl) ⟨c0, c1⟩ ?_
      refine Ord.wpOrd_seg [_, _, _, _, _, _, _, _, _] _ rfl rfl ?_
      simp only [List.getElem_toArray, List.getElem_cons_zero, List.getElem_cons_succ]
      repeat first | go_big_quiet_skip | (go_big_quiet_want; go_big_quiet_op; first | go_big_quiet_on | (apply Exists.intro; refine ⟨fun _ => ?_, ?_⟩; (focus (intros; first | rfl | (simp only [*]; rfl) | (simp [*]; rfl))); go_big_quiet_on))
      refine wpQuiet_nil ?_
      go_wp2_with fail
      (with_reducible refine (repeat_zeros s _ (by have := HS2.out; omega)).mono ?_); rintro _ w2 ⟨rfl, hb2⟩
      have hm2 : Mod [] wr w2 := ((Mod.refl [] wr).drew).then hb2
      have q0 := hm2.cell c0 (by simp)
      have q1 := hm2.cell c1 (by simp)
      have hbs2 := HBS2.out.mod hm2 (by simp)
      have g1 := hbs2.free j
      have g2 : w2.cell? ⟨b + 1, j, none⟩ = some (.string (sect (zs s k j) j)) := secs_cell hbs2 j (by rw [zs_length s k j hj]; exact hlt)
      have HM2 := Lib.hid hm2
      have HBS3 := Lib.hid hbs2
      have HX := Lib.hid (And.intro g1 g2)
      clear hb2 hm2 hbs2 g1 g2 c0 c1
      go_wp2
      refine ⟨⟨q0, q1⟩, ?_⟩
      refine Ord.wpOrd_seg [_] _ rfl rfl ?_
      simp only [List.getElem_toArray, List.getElem_cons_zero, List.getElem_cons_succ]
      repeat first | go_big_quiet_skip | (go_big_quiet_want; go_big_quiet_op; first | go_big_quiet_on | (apply Exists.intro; refine ⟨fun _ => ?_, ?_⟩; (focus (intros; first | rfl | (simp only [*]; rfl) | (simp [*]; rfl))); go_big_quiet_on))
      refine wpQuiet_nil ?_
      obtain ⟨g1, g2⟩ := HX.out
      go_wp2
      refine ⟨⟨?_, ?_⟩, ?_⟩
      · rw [World.cell?_setCell_other (h := by intro e; cases e <;> omega)]; exact q0
      · rw [World.cell?_setCell_other (h := by intro e; cases e <;> omega)]; exact q1
      refine Ord.wpOrd_last [] rfl ?_
      refine wpQuiet_nil ?_
      go_wp2
      go_roundw
      case rel =>
        refine ⟨j + 1, by omega, by rw [HWJ.out], ?_, ?_, (HM.out.trans HM2.out).setNew (by have := HB.out; simp; omega) _⟩
        · exact (HBD.out.mod HM2.out (by simp)).setOther (by simp) _
        · rw [← zs_set s k j hlt, List.map_set]
          exact HBS3.out.set j _
      case measure =>
        show k - (intOf (.int .i64 (wrap64 ((j : Int) + 1)))).toNat < k - (intOf (.int .i64 (j : Int))).toNat
        rw [HWJ.out]
        simp only [intOf, Int.toNat_natCast]
        exact Nat.sub_lt_sub_left hlt (Nat.lt_succ_self j)
    · obtain rfl : j = k := by omega
      have HBD := Lib.hid hbd
      have HBS2 := Lib.hid hbs
      have HM := Lib.hid hm
      clear hbd hbs hm
      go_wp2
      go_ret
      obtain ⟨e1, e2⟩ := HE.out
      have hb0 := HB.out
      have hf0 := HF.out.blk.lt
      refine ⟨b, b + 1, rfl, by omega, by omega, ⟨⟨.slice none 0 0, ?_, rfl⟩, ?_, ?_, ⟨by omega, by omega, by omega⟩, ⟨by simp, by simp, by simp⟩, HFT.out⟩, HM.out⟩
      · have := HBD.out
        rw [e1, e2] at this
        simp only [dNew, List.length_replicate]
        exact this
      · have := HBS2.out
        rw [zs_all, e1, e2] at this
        exact this
      · exact HF.out.mod HM.out (by simp)
end Go.Proofs.Yteidhbjfmmodhaa
