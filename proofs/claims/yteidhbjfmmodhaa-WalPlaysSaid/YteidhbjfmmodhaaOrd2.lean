/- A region that draws its order and ends in stores: the class of worlds is asked only as long as an operation that was taken first may still come up. -/
import Derived.Test.YteidhbjfmmodhaaOrd
namespace Go.Proofs.Yteidhbjfmmodhaa.Ord
open Go

/-- The class, if it is asked. -/
structure Need (b : Bool) (C : Prop) : Prop where
  out : b = false → C
theorem Need.yes {C : Prop} (h : C) : Need false C := ⟨fun _ => h⟩
theorem Need.no {C : Prop} : Need true C := ⟨fun h => nomatch h⟩

def preds (md : Region.Mode) (o : Oper) : List Nat := o.after.toList.filterMap fun e => if Region.binds md e then some e.on else none
/-- All that must have come up where these have. -/
def sweep (md : Region.Mode) (ops : Array Oper) : Nat → List Nat → List Nat
  | 0, s => s
  | n + 1, s => sweep md ops n (if s.contains n then (match ops[n]? with | some o => preds md o ++ s | none => s) else s)
def lateB (md : Region.Mode) (ops : Array Oper) (late : List Nat) : Bool :=
  late.all fun L => match ops[L]? with
    | none => false
    | some o => (fun s => (List.range ops.size).all fun k => late.contains k || s.contains k) (sweep md ops ops.size (preds md o))

/-- What has come up, came up behind all that it waits for. -/
def Closed (md : Region.Mode) (ops : Array Oper) (listed : Array Bool) : Prop :=
  ∀ k o, ops[k]? = some o → listed.getD k false = true → ∀ x ∈ preds md o, listed.getD x false = true
theorem mem_preds {md : Region.Mode} {o : Oper} {x : Nat} (h : x ∈ preds md o) : ∃ e ∈ o.after, Region.binds md e = true ∧ e.on = x := by
  unfold preds at h
  rw [List.mem_filterMap] at h
  obtain ⟨e, he, h1⟩ := h
  split at h1
  · rename_i hb
    exact ⟨e, by simpa using he, hb, by simpa using h1⟩
  · cases h1
theorem set_listed {listed : Array Bool} {j x : Nat} (h : listed.getD x false = true) : (listed.setIfInBounds j true).getD x false = true := by
  rw [Array.getD_eq_getD_getElem?] at h ⊢
  rw [Array.getElem?_setIfInBounds]
  split
  · split
    · rfl
    · rename_i h1 h2
      subst h1
      rw [Array.getElem?_eq_none (by omega)] at h
      exact h
  · exact h
theorem listed_set {listed : Array Bool} {j x : Nat} (h : (listed.setIfInBounds j true).getD x false = true) : x = j ∨ listed.getD x false = true := by
  rw [Array.getD_eq_getD_getElem?] at h ⊢
  rw [Array.getElem?_setIfInBounds] at h
  split at h
  · rename_i h1; exact .inl h1.symm
  · exact .inr h
theorem Closed.set {md : Region.Mode} {ops : Array Oper} {listed : Array Bool} (h : Closed md ops listed) {j : Nat} (hj : j ∈ Region.ready md ops listed) : Closed md ops (listed.setIfInBounds j true) := by
  intro k o ho hk x hx
  rcases listed_set hk with rfl | hk
  · obtain ⟨_, oj, hoj, hall⟩ := mem_ready.1 hj
    rw [ho] at hoj
    obtain rfl := Option.some.inj hoj
    obtain ⟨e, he, hb, rfl⟩ := mem_preds hx
    exact set_listed (hall e he hb)
  · exact set_listed (h k o ho hk x hx)
theorem Closed.start (md : Region.Mode) (ops : Array Oper) (n : Nat) : Closed md ops (Array.replicate n false) := by
  intro k o _ hk
  rw [Array.getD_eq_getD_getElem?, Array.getElem?_replicate] at hk
  split at hk <;> simp at hk
theorem sweep_listed {md : Region.Mode} {ops : Array Oper} {listed : Array Bool} (h : Closed md ops listed) : ∀ (n : Nat) (s : List Nat), (∀ x ∈ s, listed.getD x false = true) → ∀ x ∈ sweep md ops n s, listed.getD x false = true
  | 0, _, hs => hs
  | n + 1, s, hs => by
    refine sweep_listed h n _ ?_
    split
    · rename_i hc
      split
      · rename_i o ho
        intro x hx
        rcases List.mem_append.1 hx with hx | hx
        · exact h n o ho (hs n (by simpa using hc)) x hx
        · exact hs x hx
      · exact hs
    · exact hs

section
variable {P : Program} {ops : Array Oper} {md : Region.Mode} {C : World → Prop} {Q : Exit → Act → World → Prop}

def wpAnyL (P : Program) (md : Region.Mode) (ops : Array Oper) (Q : Exit → Act → World → Prop) (C : World → Prop) (late : List Nat) : Nat → Array Bool → Act → World → Prop
  | 0, listed, a, w => Region.ready md ops listed = [] ∧ Q .normal a w
  | fuel + 1, listed, a, w =>
    (Region.ready md ops listed = [] → Q .normal a w) ∧
    ∀ i ∈ Region.ready md ops listed, wpOp P ops Q i (fun a' w' => Need (late.contains i) (C w') ∧ wpAnyL P md ops Q C late fuel (listed.setIfInBounds i true) a' w') a w

theorem wpAny_of_late {late : List Nat} : ∀ (fuel : Nat) (listed : Array Bool) (a : Act) (w : World), wpAnyL P md ops Q C late fuel listed a w → wpAny P md ops Q fuel listed a w
  | 0, _, _, _, h => h
  | fuel + 1, _, _, _, h => ⟨h.1, fun i hi => wpOp_mono (fun a' w' h' => wpAny_of_late fuel _ a' w' h'.2) (h.2 i hi)⟩

theorem late_not {late : List Nat} (hl : lateB md ops late = true) {i j : Nat} {listed : Array Bool} {oi : Oper} (hcl : Closed md ops listed) (hi : ops[i]? = some oi) (hil : late.contains i = false) (hri : i ∈ Region.ready md ops listed) (hrj : j ∈ Region.ready md ops listed) : late.contains j = false := by
  cases hj : late.contains j with
  | false => rfl
  | true =>
    exfalso
    obtain ⟨hiun, _⟩ := mem_ready.1 hri
    obtain ⟨_, oj, hoj, hall⟩ := mem_ready.1 hrj
    unfold lateB at hl
    rw [List.all_eq_true] at hl
    have h1 := hl j (by simpa using hj)
    rw [hoj] at h1
    simp only [List.all_eq_true] at h1
    have hisz : i < ops.size := (Array.getElem?_eq_some_iff.1 hi).1
    have h2 := h1 i (List.mem_range.2 hisz)
    rw [hil, Bool.false_or] at h2
    have h4 := sweep_listed hcl ops.size (preds md oj) (fun x hx => by
      obtain ⟨e, he, hb, rfl⟩ := mem_preds hx
      exact hall e he hb) i (by simpa using h2)
    rw [Array.getD_eq_getD_getElem?] at h4 hiun
    rcases Nat.lt_or_ge i listed.size with h' | h'
    · simp [h'] at hiun h4; rw [hiun] at h4; cases h4
    · simp [Array.getElem?_eq_none h'] at h4

theorem wpAnyL_first {late : List Nat} (hl : lateB md ops late = true) {i : Nat} {oi : Oper} {v : Value} (hi : ops[i]? = some oi) (hil : late.contains i = false) (hsel : ∀ (j : Nat) (o : Oper) cs b, ops[j]? = some o → o.op ≠ .select cs b)
    (hQ : ∀ c a w, Q (.panic c) (a.put oi.dst v) w → Q (.panic c) a w) :
    ∀ (fuel : Nat) (listed : Array Bool) (a : Act) (w : World), Closed md ops listed →
      (∀ j oj, ops[j]? = some oj → j ≠ i → listed.getD j true = false → (∀ e ∈ oj.after, Region.binds md e = true → e.on ≠ i) → oi.apart ops oj = true) →
      i ∈ Region.ready md ops listed → YieldsIf P ops C oi v a → C w →
      wpAnyL P md ops Q C late fuel (listed.setIfInBounds i true) (a.put oi.dst v) w → wpAnyL P md ops Q C late (fuel + 1) listed a w := by
  intro fuel
  induction fuel with
  | zero =>
    intro listed a w _ _ hr hy hS H
    refine ⟨fun h => (by rw [h] at hr; cases hr), fun j hj => ?_⟩
    by_cases hji : j = i
    · subst hji; exact hy.wpOp hi hS ⟨⟨fun _ => hS⟩, H⟩
    · have := ready_mono hj hji
      rw [H.1] at this
      cases this
  | succ fuel ih =>
    intro listed a w hcl hfree hr hy hS H
    refine ⟨fun h => (by rw [h] at hr; cases hr), fun j hj => ?_⟩
    by_cases hji : j = i
    · subst hji; exact hy.wpOp hi hS ⟨⟨fun _ => hS⟩, H⟩
    · have hjl := late_not hl hcl hi hil hr hj
      have h1 := H.2 j (ready_mono hj hji)
      obtain ⟨hjun, oj, hoj, hall⟩ := mem_ready.1 hj
      have hnot : ∀ e ∈ oj.after, Region.binds md e = true → e.on ≠ i := fun e he hb heq => by
        have h1 := hall e he hb
        have h0 := (mem_ready.1 hr).1
        rw [heq] at h1
        rcases Nat.lt_or_ge i listed.size with h' | h'
        · simp [h'] at h0 h1; rw [h0] at h1; cases h1
        · simp [Array.getElem?_eq_none h'] at h1
      have h2 := wpOp_putIf hoj (hfree j oj hoj hji hjun hnot) (fun cs b => hsel i oi cs b hi) (fun cs b => hsel j oj cs b hoj) hQ hy h1
      have hfree' : ∀ k ok, ops[k]? = some ok → k ≠ i → (listed.setIfInBounds j true).getD k true = false →
          (∀ e ∈ ok.after, Region.binds md e = true → e.on ≠ i) → oi.apart ops ok = true := fun k ok hk hki hun hno => by
        refine hfree k ok hk hki ?_ hno
        by_cases hjk : j = k
        · subst hjk; exact hjun
        · rw [getD_set_ne true hjk] at hun; exact hun
      refine wpOp_mono (fun a' w' h3 => ⟨h3.2.1, ih (listed.setIfInBounds j true) a' w' (hcl.set hj) hfree' (ready_mono hr (Ne.symm hji)) h3.1 (h3.2.1.out hjl) ?_⟩) h2
      rw [Array.setIfInBounds_comm _ _ hji]
      exact h3.2.2

theorem wpAnyL_take {late : List Nat} (hl : lateB md ops late = true) {i : Nat} {oi : Oper} {v : Value} {fuel : Nat} {listed : Array Bool} {a : Act} {w : World} (hcl : Closed md ops listed) (hi : ops[i]? = some oi) (hil : late.contains i = false)
    (hs : Region.noSelect ops = true) (hf : Region.free md ops listed i = true) (hr : (Region.ready md ops listed).contains i = true)
    (hQ : ∀ c a w, Q (.panic c) (a.put oi.dst v) w → Q (.panic c) a w) (hy : YieldsIf P ops C oi v a) (hS : C w)
    (h : wpAnyL P md ops Q C late fuel (listed.setIfInBounds i true) (a.put oi.dst v) w) : wpAnyL P md ops Q C late (fuel + 1) listed a w :=
  wpAnyL_first hl hi hil (Region.noSelect_spec hs) hQ fuel listed a w hcl (Region.free_spec hi hf) (by simpa using hr) hy hS h

def heldLB (md : Region.Mode) (ops : Array Oper) (late : List Nat) : List Nat → Array Bool → (Array Bool → Bool) → Bool
  | [], listed, k => k listed
  | i :: l, listed, k =>
    (match ops[i]? with | some o => valueOp o.op | none => false) && !late.contains i && Region.free md ops listed i && (Region.ready md ops listed).contains i
      && heldLB md ops late l (listed.setIfInBounds i true) k

/-- Behind a late operation nothing is taken first. -/
def ordLB (md : Region.Mode) (ops : Array Oper) (late : List Nat) : List (List Nat × Nat) → Array Bool → Bool → Bool
  | [], listed, _ => (Region.ready md ops listed).isEmpty
  | (l, i) :: rest, listed, was => (!was || l.isEmpty) && heldLB md ops late l listed fun listed =>
      (Region.ready md ops listed == [i]) && (ops[i]?).isSome && ordLB md ops late rest (listed.setIfInBounds i true) (late.contains i)

def stepsL : List (List Nat × Nat) → Nat
  | [] => 0
  | (l, _) :: rest => l.length + 1 + stepsL rest

def wpOrdL (P : Program) (ops : Array Oper) (C : World → Prop) (late : List Nat) (Q : Exit → Act → World → Prop) : List (List Nat × Nat) → Act → World → Prop
  | [], a, w => Q .normal a w
  | (l, i) :: rest, a, w => wpQuiet P ops C (fun a' => wpList P ops (Exit.then (fun a'' w'' => Need (late.contains i) (C w'') ∧ wpOrdL P ops C late Q rest a'' w'') (NP Q)) (pick ops [i]) a' w) (pick ops l) a

theorem heldL_sound {late : List Nat} (hlt : lateB md ops late = true) {w : World} (hs : Region.noSelect ops = true) {K : Act → Prop} {k : Array Bool → Bool} {m : Nat}
    (hK : ∀ (a : Act) (listed : Array Bool) (fuel : Nat), Closed md ops listed → m ≤ fuel → k listed = true → K a → wpAnyL P md ops (NP Q) C late fuel listed a w) :
    ∀ (l : List Nat) (listed : Array Bool) (a : Act) (fuel : Nat), Closed md ops listed → (l ≠ [] → C w) → l.length + m ≤ fuel → heldLB md ops late l listed k = true → wpQuiet P ops C K (pick ops l) a →
      wpAnyL P md ops (NP Q) C late fuel listed a w := by
  intro l
  induction l with
  | nil => intro listed a fuel hcl _ hf hb h; exact hK a listed fuel hcl (by simpa using hf) hb h
  | cons i l ih =>
    intro listed a fuel hcl hC hf hb h
    have hC' := hC (by simp)
    cases hoi : ops[i]? with
    | none => simp [heldLB, hoi] at hb
    | some o =>
      simp only [heldLB, hoi, Bool.and_eq_true, Bool.not_eq_true'] at hb
      obtain ⟨⟨⟨⟨hv, hil⟩, hfree⟩, hr⟩, hb⟩ := hb
      have hp : pick ops (i :: l) = o :: pick ops l := by simp [pick, hoi]
      rw [hp] at h
      simp only [List.length_cons] at hf
      obtain ⟨fuel, rfl⟩ : ∃ f, fuel = f + 1 := ⟨fuel - 1, by omega⟩
      unfold wpQuiet at h
      by_cases hw : Region.wanted o (yielded ops a.tmps) = true
      · rw [if_pos hw] at h
        obtain ⟨v, h1, h2⟩ := h
        refine wpAnyL_take (v := v) hlt hcl hoi hil hs hfree hr (fun _ _ _ h => h) (.inl ⟨hw, fun w1 hw1 => ?_⟩) hC' (ih _ _ fuel (hcl.set (by simpa using hr)) (fun _ => hC') (by omega) hb h2)
        have h3 := h1 w1 hw1
        unfold Oper.quietAt at h3
        generalize hrun : (execOp a.eval o).run P w1 = r at *
        cases r with
        | ok n w2 =>
          obtain ⟨u, rfl⟩ := valueOp_spec hv hrun
          simp only [Oper.quietUpon] at h3
          rw [h3.1, h3.2]
        | halt x w2 => simp only [Oper.quietUpon] at h3
      · rw [if_neg hw] at h
        exact wpAnyL_take (v := undef) hlt hcl hoi hil hs hfree hr (fun _ _ _ h => h) (.inr ⟨by simpa using hw, rfl⟩) hC' (ih _ _ fuel (hcl.set (by simpa using hr)) (fun _ => hC') (by omega) hb h)

theorem ordL_sound {late : List Nat} (hlt : lateB md ops late = true) (hs : Region.noSelect ops = true) : ∀ (segs : List (List Nat × Nat)) (listed : Array Bool) (was : Bool) (a : Act) (w : World) (fuel : Nat),
    Closed md ops listed → stepsL segs ≤ fuel → ordLB md ops late segs listed was = true → Need was (C w) → wpOrdL P ops C late Q segs a w → wpAnyL P md ops (NP Q) C late fuel listed a w := by
  intro segs
  induction segs with
  | nil =>
    intro listed was a w fuel hcl hf hb hC h
    have hr : Region.ready md ops listed = [] := by simpa [ordLB] using hb
    cases fuel with
    | zero => exact ⟨hr, show NP Q .normal a w from h⟩
    | succ n => exact ⟨fun _ => (show NP Q .normal a w from h), by rw [hr]; simp⟩
  | cons s rest ih =>
    obtain ⟨l, i⟩ := s
    intro listed was a w fuel hcl hf hb hC h
    simp only [stepsL] at hf
    simp only [ordLB, Bool.and_eq_true] at hb
    have hCl : l ≠ [] → C w := by
      intro hne
      refine hC.out ?_
      cases was with
      | false => rfl
      | true => exfalso; have := hb.1; simp at this; exact hne this
    refine heldL_sound hlt hs (m := 1 + stepsL rest) (fun a' listed' fuel' hcl' hf' hk hq => ?_) l listed a fuel hcl hCl (by omega) hb.2 h
    simp only [Bool.and_eq_true, beq_iff_eq] at hk
    obtain ⟨⟨hr, ho⟩, hb'⟩ := hk
    obtain ⟨o, hoi⟩ := Option.isSome_iff_exists.1 ho
    obtain ⟨fuel', rfl⟩ : ∃ f, fuel' = f + 1 := ⟨fuel' - 1, by omega⟩
    refine ⟨fun h0 => (by rw [hr] at h0; cases h0), fun j hj => ?_⟩
    have hj0 := hj
    obtain rfl : j = i := by rw [hr] at hj0; simpa using hj0
    have hp : pick ops [j] = [o] := by simp [pick, hoi]
    rw [hp] at hq
    unfold wpList at hq
    unfold wpOp
    simp only [hoi]
    split
    · rename_i hw
      rw [if_pos hw] at hq
      rcases hq with hq | ⟨hq, hout⟩
      · refine .inl ?_
        have hQQ : ∀ (r : Result Next), o.upon P a' (wpList P ops (Exit.then (fun a'' w'' => Need (late.contains j) (C w'') ∧ wpOrdL P ops C late Q rest a'' w'') (NP Q)) []) (Exit.then (fun a'' w'' => Need (late.contains j) (C w'') ∧ wpOrdL P ops C late Q rest a'' w'') (NP Q)) r →
            o.upon P a' (fun a' w' => Need (late.contains j) (C w') ∧ wpAnyL P md ops (NP Q) C late fuel' (listed'.setIfInBounds j true) a' w') (NP Q) r := by
          intro r hr
          have step : ∀ a'' w'', wpList P ops (Exit.then (fun a'' w'' => Need (late.contains j) (C w'') ∧ wpOrdL P ops C late Q rest a'' w'') (NP Q)) [] a'' w'' → Need (late.contains j) (C w'') ∧ wpAnyL P md ops (NP Q) C late fuel' (listed'.setIfInBounds j true) a'' w'' := by
            intro a'' w'' h2
            have h2' : Need (late.contains j) (C w'') ∧ wpOrdL P ops C late Q rest a'' w'' := h2
            exact ⟨h2'.1, ih _ _ a'' w'' fuel' (hcl'.set hj) (by omega) hb' h2'.1 h2'.2⟩
          cases r with
          | ok n w2 =>
            cases n <;> simp only [Oper.upon] at hr ⊢
            case value u => exact step _ _ hr
            case skip => exact step _ _ hr
            case defer d => exact step _ _ hr
            case enter f args =>
              refine Calls.mono hr fun e w3 he => ?_
              cases e with
              | returned u => exact step _ _ he
              | panicked c => exact he
              | outgrown => exact he
            case row row args => exact Rows.mono hr fun u w3 he => step _ _ he
          | halt x w2 =>
            cases x <;> simp only [Oper.upon] at hr ⊢
            case panic u => exact hr
        exact hQQ _ hq
      · exact .inr ⟨hq, hout⟩
    · rename_i hw
      rw [if_neg hw] at hq
      have hq' : Need (late.contains j) (C w) ∧ wpOrdL P ops C late Q rest (a'.put o.dst undef) w := hq
      exact ⟨hq'.1, ih _ _ _ w fuel' (hcl'.set hj) (by omega) hb' hq'.1 hq'.2⟩

/-- A region that draws, and ends in stores: walked in the order that the lists say. -/
theorem wp_region_late {id : Nat} {l : List Oper} {a : Act} {w : World} (C : World → Prop) (late : List Nat) (segs : List (List Nat × Nat)) (hm : P.follows .mixedOrders = true)
    (hs : (Region.noSelect l.toArray && lateB .any l.toArray late && ordLB .any l.toArray late segs (Array.replicate l.toArray.size false) false && decide (stepsL segs ≤ l.toArray.size)) = true)
    (hC : C w.drew) (h : wpOrdL P l.toArray C late Q segs a w.drew) : (Code.region id l.toArray true).wp P Q a w := by
  simp only [Bool.and_eq_true, decide_eq_true_eq] at hs
  refine Code.wp_mono (Q := NP Q) (fun e a w he => ?_) (wp_region_any hm (wpAny_of_late _ _ _ _ (ordL_sound hs.1.1.2 hs.1.1.1 segs _ false a _ _ (Closed.start _ _ _) hs.2 hs.1.2 ⟨fun _ => hC⟩ h)))
  cases e <;> first | exact he | exact he.elim

theorem wpOrdL_nil {late : List Nat} {a : Act} {w : World} (h : Q .normal a w) : wpOrdL P ops C late Q [] a w := h
theorem wpOrdL_seg {late : List Nat} {l : List Nat} {i : Nat} {rest : List (List Nat × Nat)} {a : Act} {w : World} (L : List Oper) (o : Oper) (b : Bool) (hL : pick ops l = L) (ho : pick ops [i] = [o]) (hb : late.contains i = b)
    (h : wpQuiet P ops C (fun a' => wpList P ops (Exit.then (fun a'' w'' => Need b (C w'') ∧ wpOrdL P ops C late Q rest a'' w'') (NP Q)) [o] a' w) L a) : wpOrdL P ops C late Q ((l, i) :: rest) a w := by
  subst hL
  subst hb
  have h' := h
  rw [← ho] at h'
  exact h'
end
end Go.Proofs.Yteidhbjfmmodhaa.Ord
