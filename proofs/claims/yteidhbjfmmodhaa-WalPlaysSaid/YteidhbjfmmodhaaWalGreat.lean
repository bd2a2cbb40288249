/- The walk over the statements' bound. -/
import Derived.Test.YteidhbjfmmodhaaActs
namespace Go.Proofs.Yteidhbjfmmodhaa
open Go.RowKit Crc Fr

def greatB (y : Int) (l : List Act7) : Bool := decide (40 < l.length) || decide (24 < y) || l.any fun a => decide (1200 < a.text.size)

set_option maxRecDepth 100000 in
set_option maxHeartbeats 2000000 in
theorem great_any (x y : Int) (a : Option Addr) (cap : Nat) (l : List Act7) (w : World) (hl : ArgActs w a l) :
    Calls Try.prog 10 #[.agg #[.int .i64 x, .int .i64 y], .slice a l.length cap] w fun e w' => e = .returned (.bool (greatB y l)) ∧ Mod [] w w' := by
  obtain ⟨g, hg⟩ : ∃ g, g = greatB y l := ⟨_, rfl⟩
  have HG := Lib.hid hg
  have HA := Lib.hid hl
  rw [← hg]
  clear hg hl
  by_cases h1 : 40 < l.length
  · have g1 : decide (40 < (l.length : Int)) = true := decide_eq_true (by omega)
    obtain rfl : g = true := by rw [HG.out]; unfold greatB; simp [h1]
    clear h1
    go_enter Try.func10, Try.ntmps10
    go_wp2
    go_ret
    exact ⟨rfl, (Mod.refl [] _).alloc _⟩
  by_cases h2 : 24 < y
  · have g1 : decide (40 < (l.length : Int)) = false := decide_eq_false (by omega)
    have g2 : decide (24 < y) = true := decide_eq_true (by omega)
    obtain rfl : g = true := by rw [HG.out]; unfold greatB; simp [h2]
    clear h1 h2
    go_enter Try.func10, Try.ntmps10
    go_wp2
    go_ret
    exact ⟨rfl, (Mod.refl [] _).alloc _⟩
  have g1 : decide (40 < (l.length : Int)) = false := decide_eq_false (by omega)
  have g2 : decide (24 < y) = false := decide_eq_false (by omega)
  have HGG := Lib.hid (show greatB y l = l.any fun a => decide (1200 < a.text.size) by unfold greatB; simp [h1, h2])
  have HN := Lib.hid h1
  clear h1 h2
  go_enter Try.func10, Try.ntmps10
  go_wp2_with fail
  clear g1 g2
  have HGE := Lib.hid (HG.out.trans HGG.out)
  clear HG HGG
  go_loopw [17] (fun i wr => ∃ k : Nat, i = .int .i64 k ∧ k ≤ l.length ∧ (∀ q, q < k → ∀ (hq : q < l.length), l[q].text.size ≤ 1200) ∧ Mod [] w wr) (fun i _ => l.length - (intOf i).toNat)
  case atStart => exact ⟨0, rfl, Nat.zero_le _, fun q hq => absurd hq (Nat.not_lt_zero _), (Mod.refl [] _).alloc _⟩
  case round =>
    obtain ⟨k, rfl, hk, hall, hm⟩ := hrel
    have HM := Lib.hid hm
    have HALL := Lib.hid hall
    clear hall hm
    by_cases hlt : k < l.length
    · rcases HA.out with e | ⟨b, o, rfl, hb, hc⟩
      · rw [e] at hlt; exact absurd hlt (Nat.not_lt_zero _)
      obtain ⟨act, hact⟩ : ∃ act, act = l[k] := ⟨_, rfl⟩
      obtain ⟨_, c0, c1, c2, c3⟩ := hc k hlt
      rw [← hact] at c0 c1 c2 c3
      have q0 := HM.out.cell c0 (by simp)
      have q1 := HM.out.cell c1 (by simp)
      have q2 := HM.out.cell c2 (by simp)
      have q3 := HM.out.cell c3 (by simp)
      have HWK := Lib.hid (show wrap64 ((k : Int) + 1) = ((k + 1 : Nat) : Int) by have := HN.out; rw [IntWalk.wrap64_in _ (by omega)]; omega)
      have HLT := Lib.hid hlt
      have HACT := Lib.hid hact
      clear hc hb c0 c1 c2 c3 hact
      by_cases h3 : 1200 < act.text.size
      · have g3 : decide (1200 < (act.text.size : Int)) = true := decide_eq_true (by omega)
        obtain rfl : g = true := by
          rw [HGE.out, List.any_eq_true]
          exact ⟨act, by rw [HACT.out]; exact List.getElem_mem _, by simp [h3]⟩
        clear h3
        go_wp2
        go_ret
        exact ⟨rfl, HM.out.alloc _⟩
      · have g3 : decide (1200 < (act.text.size : Int)) = false := decide_eq_false (by omega)
        have H3 := Lib.hid h3
        clear h3
        go_wp2
        go_roundw
        case rel =>
          refine ⟨k + 1, by rw [HWK.out], HLT.out, fun q hq hql => ?_, HM.out.alloc _⟩
          by_cases e : q < k
          · exact HALL.out q e hql
          · obtain rfl : q = k := by omega
            rw [← HACT.out]
            have := H3.out
            omega
        case measure =>
          show l.length - (intOf (.int .i64 (wrap64 ((k : Int) + 1)))).toNat < l.length - (intOf (.int .i64 (k : Int))).toNat
          rw [HWK.out]
          simp only [intOf, Int.toNat_natCast]
          have := HLT.out
          omega
    · have hle : (l.length : Int) ≤ (k : Int) := by omega
      obtain rfl : g = false := by
        rw [HGE.out, List.any_eq_false]
        intro x hx
        obtain ⟨q, hq, rfl⟩ := List.getElem_of_mem hx
        have := HALL.out q (by omega) hq
        simp; omega
      clear hlt
      go_wp2
      go_ret
      exact ⟨rfl, HM.out⟩
end Go.Proofs.Yteidhbjfmmodhaa
