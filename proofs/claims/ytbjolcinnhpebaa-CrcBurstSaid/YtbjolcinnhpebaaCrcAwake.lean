/- The walk over the statements' own first function: it tells true. -/
import Derived.Test.YtbjolcinnhpebaaCrcMore
namespace Go.Proofs.Ytbjolcinnhpebaa
open Go.RowKit Crc

theorem bcell {W w1 : World} (hb : Below W.heap.size W w1) : (∀ b o, b < W.heap.size → w1.cell? ⟨b, o, none⟩ = W.cell? ⟨b, o, none⟩) ∧ (∀ b o, b < W.heap.size → w1.frozen? ⟨b, o, none⟩ = W.frozen? ⟨b, o, none⟩) :=
  ⟨fun b o h => hb.cell (p := ⟨b, o, none⟩) h, fun b o h => hb.frozen (p := ⟨b, o, none⟩) h⟩

theorem aw1 (b : Nat) (w : World) (h0 : w.cell? ⟨b, 0, none⟩ = some (.string ⟨#[49, 50, 51, 52]⟩)) (h1 : w.cell? ⟨b, 1, none⟩ = some (.string ⟨#[]⟩)) (h2 : w.cell? ⟨b, 2, none⟩ = some (.string ⟨#[53, 54, 55, 56, 57]⟩)) :
    Calls Try.prog 9 #[.slice (some ⟨b, 0, none⟩) 3 3] w fun e w' => e = .returned (.int .u32 4236843288) ∧ w' = w := by
  have h := sum_some b 0 3 [⟨#[49, 50, 51, 52]⟩, ⟨#[]⟩, ⟨#[53, 54, 55, 56, 57]⟩] w (by simp [maxLen])
    (by intro s hs; simp at hs; rcases hs with rfl | rfl | rfl <;> simp [maxLen, ByteArray.size])
    (by intro k hk; simp at hk
        have : k = 0 ∨ k = 1 ∨ k = 2 := by omega
        rcases this with rfl | rfl | rfl <;> simpa)
  have e : smI (cat [⟨#[49, 50, 51, 52]⟩, ⟨#[]⟩, ⟨#[53, 54, 55, 56, 57]⟩]) = 4236843288 := by decide +kernel
  rw [e] at h
  exact h
theorem aw2 (w : World) : Calls Try.prog 9 #[.slice none 0 0] w fun e w' => e = .returned (.int .u32 0) ∧ w' = w := by
  have h := sum_nil w
  rw [show smI [] = 0 by decide +kernel] at h
  exact h
theorem aw3 (w : World) : Calls Try.prog 11 #[.int .u32 16909060] w fun e w' => e = .returned (.string ⟨#[1, 2, 3, 4]⟩) ∧ Below w.heap.size w w' := by
  have h := put_any 16909060 w (by omega) (by omega)
  rw [show putI 16909060 = ⟨#[1, 2, 3, 4]⟩ by decide +kernel] at h
  exact h
theorem aw4 (w : World) : Calls Try.prog 13 #[.string ⟨#[49, 50, 51, 52, 53, 54, 55, 56, 57, 252, 137, 25, 24]⟩] w fun e w' => e = .returned (.bool true) ∧ Below w.heap.size w w' := by
  have h := right_long ⟨#[49, 50, 51, 52, 53, 54, 55, 56, 57, 252, 137, 25, 24]⟩ w (by decide) (by simp [maxLen, ByteArray.size])
  rw [show rightB ⟨#[49, 50, 51, 52, 53, 54, 55, 56, 57, 252, 137, 25, 24]⟩ = true by decide +kernel] at h
  exact h
theorem aw5 (w : World) : Calls Try.prog 13 #[.string ⟨#[49, 50, 51, 52, 53, 54, 55, 56, 57]⟩] w fun e w' => e = .returned (.bool false) ∧ Below w.heap.size w w' := by
  have h := right_long ⟨#[49, 50, 51, 52, 53, 54, 55, 56, 57]⟩ w (by decide) (by simp [maxLen, ByteArray.size])
  rw [show rightB ⟨#[49, 50, 51, 52, 53, 54, 55, 56, 57]⟩ = false by decide +kernel] at h
  exact h
theorem aw6 (w : World) : Calls Try.prog 15 #[.int .u32 0, .int .i64 1] w fun e w' => e = .returned (.int .u32 2985771083) ∧ w' = w := by
  have h := noughts_any 0 1 w (by omega) (by omega) (by omega) (by omega)
  rw [show noughtsI 0 (1 : Int).toNat = 2985771083 by decide +kernel] at h
  exact h
theorem aw7 (b : Nat) (w : World) (h0 : w.cell? ⟨b, 0, none⟩ = some (.string ⟨#[0]⟩)) :
    Calls Try.prog 9 #[.slice (some ⟨b, 0, none⟩) 1 1] w fun e w' => e = .returned (.int .u32 2985771083) ∧ w' = w := by
  have h := sum_one b ⟨#[0]⟩ w (by simp [maxLen, ByteArray.size]) h0
  rw [show smS ⟨#[0]⟩ = 2985771083 by decide +kernel] at h
  exact h
theorem aw8 (w : World) : Calls Try.prog 15 #[.int .u32 7, .int .i64 0] w fun e w' => e = .returned (.int .u32 7) ∧ w' = w := by
  have h := noughts_any 7 0 w (by omega) (by omega) (by omega) (by omega)
  rw [show noughtsI 7 (0 : Int).toNat = 7 by decide +kernel] at h
  exact h

set_option maxHeartbeats 1000000 in
theorem awake_any (w : World) : Calls Try.prog 8 #[] w fun e w' => e = .returned (.bool true) ∧ Below w.heap.size w w' := by
  go_enter Try.func8, Try.ntmps8
  go_wp2_with (go_at_call 9; (with_reducible refine (aw1 _ _ (by simp [go_sem]) (by simp [go_sem]) (by simp [go_sem])).mono ?_); rintro e w' ⟨rfl, rfl⟩)
  go_wp2_with (go_at_call 9; (with_reducible refine (aw2 _).mono ?_); rintro e w' ⟨rfl, rfl⟩)
  go_wp2_with (go_at_call 11; (with_reducible refine (aw3 _).mono ?_); rintro e w1 ⟨rfl, hb1⟩)
  go_wp2_with (go_at_call 13; (with_reducible refine (aw4 _).mono ?_); rintro e w2 ⟨rfl, hb2⟩)
  go_wp2_with (go_at_call 13; (with_reducible refine (aw5 _).mono ?_); rintro e w3 ⟨rfl, hb3⟩)
  go_wp2_with (go_at_call 15; (with_reducible refine (aw6 _).mono ?_); rintro e w' ⟨rfl, rfl⟩)
  go_wp2_with (go_at_call 9; (with_reducible refine (aw7 _ _ (by simp [go_sem])).mono ?_); rintro e w' ⟨rfl, rfl⟩)
  go_wp2_with (go_at_call 15; (with_reducible refine (aw8 _).mono ?_); rintro e w' ⟨rfl, rfl⟩)
  go_ret
  have hz := (((Below.refl w.heap.size w).alloc (Nat.le_refl _) (.cells #[.string ⟨#[49, 50, 51, 52]⟩, .string ⟨#[]⟩, .string ⟨#[53, 54, 55, 56, 57]⟩] 9)).trans (hb1.mono (by simp))).trans (hb2.mono (by have := hb1.size; simp at this; omega))
  have hy := hz.trans (hb3.mono (by have := hz.size; omega))
  exact ⟨rfl, hy.alloc hy.size _⟩
end Go.Proofs.Ytbjolcinnhpebaa
