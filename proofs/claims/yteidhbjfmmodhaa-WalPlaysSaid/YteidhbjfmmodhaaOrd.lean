/- A region that draws its order, whose loud operations wait for one another: one walk serves every order.
   The operations that only yield a value (in every world of a class) are taken first, a loud one comes up alone. -/
import Derived.OrdersHeld
import Derived.Deep.Quiet
import Derived.Deep.QuietTactic
import Derived.BigQuiet
import Derived.KernelRfl
import Derived.Below
namespace Go.Proofs.Yteidhbjfmmodhaa.Ord
open Go

/-- Operations that yield a value, if they end. -/
def valueOp : Op → Bool
  | .move _ | .assign _ | .pick .. | .nilCheck _ | .load .. | .build .. | .binOp .. | .unOp .. | .convert .. | .slice .. | .fieldAddr .. | .field .. | .indexAddr .. | .index .. | .extract .. => true
  | .call c => match c.callee with | .builtin .len | .builtin .min | .builtin .max => true | _ => false
  | _ => false

theorem value_andThen {α : Type} {f : α → Value} {r : Result α} {w' : World} {n : Next} (hr : (r.andThen fun a w' => Result.ok (Next.value (f a)) w') = .ok n w') : ∃ u, n = .value u := by
  cases r with
  | ok v w1 => simp [Result.andThen] at hr; exact ⟨_, hr.1.symm⟩
  | halt x w1 => simp [Result.andThen] at hr

theorem andThen_ok {α β : Type} {r : Result α} {f : α → World → Result β} {b : β} {w' : World} (h : r.andThen f = .ok b w') : ∃ a w1, r = .ok a w1 ∧ f a w1 = .ok b w' := by
  cases r with
  | ok v w1 => exact ⟨v, w1, rfl, h⟩
  | halt x w1 => simp [Result.andThen] at h

theorem valueOp_spec {ρ : Operand → Value} {o : Oper} {P : Program} {w w' : World} {n : Next} (h : valueOp o.op = true) (hr : (execOp ρ o).run P w = .ok n w') : ∃ u, n = .value u := by
  obtain ⟨dst, op, type, pos, after, guard⟩ := o
  simp only at h
  cases op <;> simp only [valueOp, Bool.false_eq_true] at h <;> simp only [execOp] at hr
  case call c =>
    cases hc : c.callee with
    | builtin b =>
      rw [hc] at h
      simp only [resolve, hc] at hr
      cases b <;> simp at h <;> simp [invoke, builtin] at hr
      all_goals exact value_andThen (f := id) hr
    | invoke r m => rw [hc] at h; simp at h
    | value f => rw [hc] at h; simp at h
  case nilCheck x =>
    split at hr
    · simp [go_sem] at hr
    · simp [go_sem] at hr
    · simp [go_sem] at hr
    · split at hr
      · simp [go_sem] at hr
      · simp only [Sem.run_bind] at hr
        obtain ⟨a, w1, h1, h2⟩ := andThen_ok hr
        obtain ⟨a2, w2, h3, h4⟩ := andThen_ok h2
        split at h4
        · simp at h4
        · simp at h4; exact ⟨_, h4.1.symm⟩
      · simp at hr; exact ⟨_, hr.1.symm⟩
    · simp at hr; exact ⟨_, hr.1.symm⟩
  all_goals first
    | (simp only [Sem.run_bind, Sem.run_pure] at hr; exact value_andThen (f := id) hr)
    | (simp only [Sem.run_bind, Sem.run_pure] at hr; exact value_andThen hr)
    | (simp at hr; exact ⟨_, hr.1.symm⟩)

/-- No panic is borne. -/
def NP (Q : Exit → Act → World → Prop) : Exit → Act → World → Prop
  | .panic _, _, _ => False
  | e, a, w => Q e a w

def pick (ops : Array Oper) (l : List Nat) : List Oper := l.filterMap fun i => ops[i]?

def heldB (md : Region.Mode) (ops : Array Oper) : List Nat → Array Bool → (Array Bool → Bool) → Bool
  | [], listed, k => k listed
  | i :: l, listed, k =>
    (match ops[i]? with | some o => valueOp o.op | none => false) && Region.free md ops listed i && (Region.ready md ops listed).contains i
      && heldB md ops l (listed.setIfInBounds i true) k

def ordB (md : Region.Mode) (ops : Array Oper) : List (List Nat × Nat) → List Nat → Array Bool → Bool
  | [], last, listed => heldB md ops last listed fun listed => (Region.ready md ops listed).isEmpty
  | (l, i) :: rest, last, listed => heldB md ops l listed fun listed =>
      (Region.ready md ops listed == [i]) && (ops[i]?).isSome && ordB md ops rest last (listed.setIfInBounds i true)

def stepsN : List (List Nat × Nat) → List Nat → Nat
  | [], last => last.length
  | (l, _) :: rest, last => l.length + 1 + stepsN rest last

section
variable {P : Program} {ops : Array Oper} {md : Region.Mode} {C : World → Prop} {Q : Exit → Act → World → Prop}

/-- The walk. -/
def wpOrd (P : Program) (ops : Array Oper) (C : World → Prop) (Q : Exit → Act → World → Prop) : List (List Nat × Nat) → List Nat → Act → World → Prop
  | [], last, a, w => wpQuiet P ops C (fun a' => Q .normal a' w) (pick ops last) a
  | (l, i) :: rest, last, a, w => wpQuiet P ops C (fun a' => wpList P ops (Exit.then (fun a'' w'' => C w'' ∧ wpOrd P ops C Q rest last a'' w'') (NP Q)) (pick ops [i]) a' w) (pick ops l) a

theorem held_sound {w : World} (hs : Region.noSelect ops = true) (hC : C w) {K : Act → Prop} {k : Array Bool → Bool} {m : Nat}
    (hK : ∀ (a : Act) (listed : Array Bool) (fuel : Nat), m ≤ fuel → k listed = true → K a → wpAnyH P md ops (NP Q) C fuel listed a w) :
    ∀ (l : List Nat) (listed : Array Bool) (a : Act) (fuel : Nat), l.length + m ≤ fuel → heldB md ops l listed k = true → wpQuiet P ops C K (pick ops l) a →
      wpAnyH P md ops (NP Q) C fuel listed a w := by
  intro l
  induction l with
  | nil => intro listed a fuel hf hb h; exact hK a listed fuel (by simpa using hf) hb h
  | cons i l ih =>
    intro listed a fuel hf hb h
    cases hoi : ops[i]? with
    | none => simp [heldB, hoi] at hb
    | some o =>
      simp only [heldB, hoi, Bool.and_eq_true] at hb
      obtain ⟨⟨⟨hv, hfree⟩, hr⟩, hb⟩ := hb
      have hp : pick ops (i :: l) = o :: pick ops l := by simp [pick, hoi]
      rw [hp] at h
      simp only [List.length_cons] at hf
      obtain ⟨fuel, rfl⟩ : ∃ f, fuel = f + 1 := ⟨fuel - 1, by omega⟩
      unfold wpQuiet at h
      by_cases hw : Region.wanted o (yielded ops a.tmps) = true
      · rw [if_pos hw] at h
        obtain ⟨v, h1, h2⟩ := h
        refine wpAnyH_take (v := v) hoi hs hfree hr (fun _ _ _ h => h) (.inl ⟨hw, fun w1 hw1 => ?_⟩) hC (ih _ _ fuel (by omega) hb h2)
        have h3 := h1 w1 hw1
        unfold Oper.quietAt at h3
        generalize hrun : (execOp a.eval o).run P w1 = r at *
        cases r with
        | ok n w2 =>
          obtain ⟨u, rfl⟩ := valueOp_spec hv hrun
          simp only [Oper.quietUpon] at h3
          rw [h3.1, h3.2]
        | halt x w2 => simp only [Oper.quietUpon] at h3
      · rw [if_neg hw] at h
        exact wpAnyH_take (v := undef) hoi hs hfree hr (fun _ _ _ h => h) (.inr ⟨by simpa using hw, rfl⟩) hC (ih _ _ fuel (by omega) hb h)

theorem ord_sound (hs : Region.noSelect ops = true) : ∀ (segs : List (List Nat × Nat)) (last : List Nat) (listed : Array Bool) (a : Act) (w : World) (fuel : Nat),
    stepsN segs last ≤ fuel → ordB md ops segs last listed = true → C w → wpOrd P ops C Q segs last a w → wpAnyH P md ops (NP Q) C fuel listed a w := by
  intro segs
  induction segs with
  | nil =>
    intro last listed a w fuel hf hb hC h
    refine held_sound hs hC (m := 0) (fun a' listed' fuel' _ hk hq => ?_) last listed a fuel (by simpa [stepsN] using hf) hb h
    exact wpAnyH_done (Q := NP Q) (by simpa using hk) (show NP Q .normal a' w from hq) fuel'
  | cons s rest ih =>
    obtain ⟨l, i⟩ := s
    intro last listed a w fuel hf hb hC h
    simp only [stepsN] at hf
    refine held_sound hs hC (m := 1 + stepsN rest last) (fun a' listed' fuel' hf' hk hq => ?_) l listed a fuel (by omega) hb h
    simp only [Bool.and_eq_true, beq_iff_eq] at hk
    obtain ⟨⟨hr, ho⟩, hb'⟩ := hk
    obtain ⟨o, hoi⟩ := Option.isSome_iff_exists.1 ho
    obtain ⟨fuel', rfl⟩ : ∃ f, fuel' = f + 1 := ⟨fuel' - 1, by omega⟩
    refine wpAnyH_all hr (by simp) (fun j hj => ?_)
    obtain rfl : j = i := by simpa using hj
    have hp : pick ops [j] = [o] := by simp [pick, hoi]
    rw [hp] at hq
    unfold wpList at hq
    unfold wpOp
    simp only [hoi]
    split
    · rename_i hw
      rw [if_pos hw] at hq
      rcases hq with hq | ⟨hq, hout⟩
      · refine .inl ?_
        have hQQ : ∀ (r : Result Next), o.upon P a' (wpList P ops (Exit.then (fun a'' w'' => C w'' ∧ wpOrd P ops C Q rest last a'' w'') (NP Q)) []) (Exit.then (fun a'' w'' => C w'' ∧ wpOrd P ops C Q rest last a'' w'') (NP Q)) r →
            o.upon P a' (fun a' w' => C w' ∧ wpAnyH P md ops (NP Q) C fuel' (listed'.setIfInBounds j true) a' w') (NP Q) r := by
          intro r hr
          have step : ∀ a'' w'', wpList P ops (Exit.then (fun a'' w'' => C w'' ∧ wpOrd P ops C Q rest last a'' w'') (NP Q)) [] a'' w'' → C w'' ∧ wpAnyH P md ops (NP Q) C fuel' (listed'.setIfInBounds j true) a'' w'' := by
            intro a'' w'' h2
            have h2' : C w'' ∧ wpOrd P ops C Q rest last a'' w'' := h2
            exact ⟨h2'.1, ih last _ a'' w'' fuel' (by omega) hb' h2'.1 h2'.2⟩
          cases r with
          | ok n w2 =>
            cases n <;> simp only [Oper.upon] at hr ⊢
            case value u => exact step _ _ hr
            case skip => exact step _ _ hr
            case defer d => exact step _ _ hr
            case enter f args =>
              refine Calls.mono hr fun e w3 he => ?_
              cases e with
              | returned u => exact step _ _ he
              | panicked c => exact he
              | outgrown => exact he
            case row row args => exact Rows.mono hr fun u w3 he => step _ _ he
          | halt x w2 =>
            cases x <;> simp only [Oper.upon] at hr ⊢
            case panic u => exact hr
        exact hQQ _ hq
      · exact .inr ⟨hq, hout⟩
    · rename_i hw
      rw [if_neg hw] at hq
      have hq' : C w ∧ wpOrd P ops C Q rest last (a'.put o.dst undef) w := hq
      exact ⟨hq'.1, ih last _ _ w fuel' (by omega) hb' hq'.1 hq'.2⟩

/-- A region that draws: walked in the order that the lists say. -/
theorem wp_region_ord {id : Nat} {l : List Oper} {a : Act} {w : World} (C : World → Prop) (segs : List (List Nat × Nat)) (last : List Nat) (hm : P.follows .mixedOrders = true)
    (hs : (Region.noSelect l.toArray && ordB .any l.toArray segs last (Array.replicate l.toArray.size false) && decide (stepsN segs last ≤ l.toArray.size)) = true)
    (hC : C w.drew) (h : wpOrd P l.toArray C Q segs last a w.drew) : (Code.region id l.toArray true).wp P Q a w := by
  simp only [Bool.and_eq_true, decide_eq_true_eq] at hs
  refine Code.wp_mono (Q := NP Q) (fun e a w he => ?_) (wp_region_held (S := C) hm (ord_sound hs.1.1 segs last _ a _ _ hs.2 hs.1.2 hC h))
  cases e <;> first | exact he | exact he.elim

theorem wpOrd_last {last : List Nat} {a : Act} {w : World} (L : List Oper) (hL : pick ops last = L) (h : wpQuiet P ops C (fun a' => Q .normal a' w) L a) : wpOrd P ops C Q [] last a w := by
  subst hL; exact h
theorem wpOrd_seg {l : List Nat} {i : Nat} {rest : List (List Nat × Nat)} {last : List Nat} {a : Act} {w : World} (L : List Oper) (o : Oper) (hL : pick ops l = L) (ho : pick ops [i] = [o])
    (h : wpQuiet P ops C (fun a' => wpList P ops (Exit.then (fun a'' w'' => C w'' ∧ wpOrd P ops C Q rest last a'' w'') (NP Q)) [o] a' w) L a) : wpOrd P ops C Q ((l, i) :: rest) last a w := by
  subst hL
  have h' := h
  rw [← ho] at h'
  exact h'
end
open Go.RowKit in
theorem below_drewN {B : Nat} {a w : World} (h : Below B a w) (n : Nat) : Below B a (w.drewN n) := ⟨h.os, h.tape, h.output, h.size, h.block⟩
end Go.Proofs.Yteidhbjfmmodhaa.Ord
