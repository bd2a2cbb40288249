/-
  Two texts of one length that differ within 32 bits on end have two sums: the law CrcBurst returns true for every string, every place and every mask of 32 bits. No condition.
-/
import Derived.Test.YtbjolcinnhpebaaCrcFlip
import Derived.Test.YtbjolcinnhpebaaRows
import Derived.ProofKit
import Derived.OpenShut
import Derived.ShutString
import Derived.ChangeOld
namespace Go.Proofs.Ytbjolcinnhpebaa
open Go.RowKit Crc

/-- The bits of bytes, the highest of a byte first. -/
def bitAt (l : List UInt8) (i : Nat) : Bool := (l.getD (i / 8) 0).toBitVec.getMsbD (i % 8)
/-- A register behind the bits from i on, d of them. -/
def rb (f : Nat → Bool) (x : BitVec 32) : Nat → BitVec 32
  | 0 => x
  | d + 1 => bt (rb f x d) (f d)
theorem rb_congr (f g : Nat → Bool) (x : BitVec 32) (d : Nat) (h : ∀ i, i < d → f i = g i) : rb f x d = rb g x d := by
  induction d with
  | zero => rfl
  | succ d ih => simp only [rb]; rw [ih (fun i hi => h i (by omega)), h d (by omega)]
theorem rb_add (f : Nat → Bool) (x : BitVec 32) (d e : Nat) : rb f x (d + e) = rb (fun i => f (d + i)) (rb f x d) e := by
  induction e with
  | zero => rfl
  | succ e ih => show bt (rb f x (d + e)) (f (d + e)) = _; rw [ih]; rfl
theorem bs_rb (x : BitVec 32) (b : BitVec 8) (j : Nat) : bs x b j = rb (fun i => b.getMsbD i) x j := by
  induction j with
  | zero => rfl
  | succ j ih => simp only [bs, rb]; rw [ih]
theorem rn_rb (l : List UInt8) : ∀ x, rn x l = rb (bitAt l) x (8 * l.length) := by
  induction l with
  | nil => intro x; rfl
  | cons b l ih =>
    intro x
    have e : 8 * (b :: l).length = 8 + 8 * l.length := by simp; omega
    rw [e, rb_add]
    show rn (tk x b.toBitVec) l = _
    rw [ih, ← bs_tk, bs_rb]
    have h1 : rb (fun i => b.toBitVec.getMsbD i) x 8 = rb (bitAt (b :: l)) x 8 := rb_congr _ _ _ _ (fun i hi => by
      unfold bitAt; rw [show i / 8 = 0 by omega, show i % 8 = i by omega]; rfl)
    rw [h1]
    refine rb_congr _ _ _ _ (fun i _ => ?_)
    unfold bitAt
    rw [show (8 + i) / 8 = i / 8 + 1 by omega, show (8 + i) % 8 = i % 8 by omega]; rfl
theorem top_xor (a b : Bool) : top (a != b) = top a ^^^ top b := by cases a <;> cases b <;> simp [top]
theorem rb_xor (f g : Nat → Bool) (x y : BitVec 32) (d : Nat) : rb f x d ^^^ rb g y d = rb (fun i => f i != g i) (x ^^^ y) d := by
  induction d with
  | zero => rfl
  | succ d ih =>
    simp only [rb, bt_b1]
    rw [← b1_xor, ← ih, top_xor]
    congr 1
    generalize rb f x d = p
    generalize rb g y d = q
    ext i
    simp
    grind
theorem b1_zero : b1 0#32 = 0#32 := by decide
theorem b1_inj0 (x : BitVec 32) (h : b1 x = 0#32) : x = 0#32 := by
  unfold b1 at h
  cases hm : x.msb
  · rw [hm] at h
    simp only [Bool.false_eq_true, if_false] at h
    have h1 := congrArg BitVec.toNat h
    have h2 : 2 * x.toNat < 4294967296 := by
      have := BitVec.msb_eq_false_iff_two_mul_lt.1 hm; omega
    rw [BitVec.toNat_shiftLeft, Nat.shiftLeft_eq] at h1
    apply BitVec.eq_of_toNat_eq
    simp at h1 ⊢
    omega
  · rw [hm] at h
    simp only [if_true] at h
    have h0 : (x <<< 1 ^^^ 79764919#32).getLsbD 0 = true := by simp
    rw [h] at h0
    simp at h0
theorem itb_inj0 (k : Nat) (x : BitVec 32) (h : itb k x = 0#32) : x = 0#32 := by
  induction k with
  | zero => exact h
  | succ k ih => exact ih (b1_inj0 _ h)
theorem itb_xor (k : Nat) (x y : BitVec 32) : itb k (x ^^^ y) = itb k x ^^^ itb k y := by
  induction k with
  | zero => rfl
  | succ k ih => simp only [itb]; rw [ih, b1_xor]
theorem rb_zeros (f : Nat → Bool) (x : BitVec 32) (d : Nat) (h : ∀ i, i < d → f i = false) : rb f x d = itb d x := by
  induction d with
  | zero => rfl
  | succ d ih =>
    simp only [rb, itb, bt_b1]
    rw [ih (fun i hi => h i (by omega)), h d (by omega)]
    simp [top]
theorem itb_zero (k : Nat) : itb k 0#32 = 0#32 := by
  induction k with
  | zero => rfl
  | succ k ih => simp only [itb]; rw [ih, b1_zero]
/-- A bit's way up: from place 31 - j to place 31. -/
theorem itb_top_all : ∀ j : Fin 32, itb j.val (top true >>> j.val) = top true := by decide +kernel
theorem itb_top (j : Nat) (hj : j < 32) (c : Bool) : itb j (top c >>> j) = top c := by
  cases c
  · simp [top]; exact itb_zero j
  · exact itb_top_all ⟨j, hj⟩
/-- The bits of a window as a number. -/
def win (f : Nat → Bool) : Nat → BitVec 32
  | 0 => 0#32
  | j + 1 => win f j ^^^ (top (f j) >>> j)
theorem rb_win (f : Nat → Bool) (t : Nat) (ht : t ≤ 32) : rb f 0#32 t = itb t (win f t) := by
  induction t with
  | zero => rfl
  | succ t ih =>
    simp only [rb, itb, win, bt_b1]
    rw [ih (by omega), itb_xor, itb_top t (by omega)]
theorem top_bit_all : ∀ j : Fin 32, ∀ i : Fin 32, (top true >>> j.val).getLsbD i.val = decide (i.val = 31 - j.val) := by decide +kernel
theorem win_bit (f : Nat → Bool) (t : Nat) (ht : t ≤ 32) (j : Nat) (hj : j < 32) : (win f t).getLsbD (31 - j) = (decide (j < t) && f j) := by
  induction t with
  | zero => simp [win]
  | succ t ih =>
    simp only [win, BitVec.getLsbD_xor]
    rw [ih (by omega)]
    by_cases e : j = t
    · subst e
      have := top_bit_all ⟨j, hj⟩ ⟨31 - j, by omega⟩
      simp only [decide_true] at this
      cases hf : f j
      · simp [top]
      · rw [this]; simp
    · have := top_bit_all ⟨t, by omega⟩ ⟨31 - j, by omega⟩
      have h2 : decide (31 - j = 31 - t) = false := decide_eq_false (by omega)
      simp only [h2] at this
      have h3 : (top (f t) >>> t).getLsbD (31 - j) = false := by
        cases hf : f t
        · simp [top]
        · exact this
      rw [h3]
      have h4 : decide (j < t + 1) = decide (j < t) := by
        by_cases h : j < t
        · rw [decide_eq_true h, decide_eq_true (by omega)]
        · rw [decide_eq_false h, decide_eq_false (by omega)]
      rw [h4]; simp
/-- A text that differs from another within 32 bits on end, and does differ, leads to another register. -/
theorem burst (f g : Nat → Bool) (x : BitVec 32) (p d : Nat) (hp : ∀ i, i < d → (i < p ∨ p + 32 ≤ i) → f i = g i) (h : rb f x d = rb g x d) : ∀ i, i < d → f i = g i := by
  have h1 : rb (fun i => f i != g i) 0#32 d = 0#32 := by
    have := rb_xor f g x x d
    rw [h] at this
    simpa using this.symm
  by_cases hpd : d ≤ p
  · intro i hi; exact hp i hi (Or.inl (by omega))
  -- ahead of the window, in it, behind it
  obtain ⟨t, ht⟩ : ∃ t, t = min 32 (d - p) := ⟨_, rfl⟩
  obtain ⟨q, hq⟩ : ∃ q, q = d - p - t := ⟨_, rfl⟩
  have hd : d = p + (t + q) := by omega
  rw [hd, rb_add, rb_zeros _ _ p (fun i hi => by rw [hp i (by omega) (Or.inl hi)]; simp), itb_zero, rb_add, rb_zeros _ _ q (fun i hi => by
    rw [hp (p + (t + i)) (by omega) (Or.inr (by omega))]; simp)] at h1
  have h2 := itb_inj0 _ _ h1
  rw [rb_win _ t (by omega)] at h2
  have h3 := itb_inj0 _ _ h2
  intro i hi
  by_cases hw : i < p ∨ p + 32 ≤ i
  · exact hp i hi hw
  · have h4 := win_bit (fun i => f (p + i) != g (p + i)) t (by omega) (i - p) (by omega)
    rw [h3] at h4
    have h5 : decide (i - p < t) = true := decide_eq_true (by omega)
    rw [h5] at h4
    rw [show p + (i - p) = i by omega] at h4
    simpa using h4.symm

theorem unit_bit_all : ∀ j : Fin 8, ∀ i : Fin 8, (unitB j.val).toBitVec.getMsbD i.val = decide (i.val = j.val) := by decide
theorem flipStep_bit (l : List UInt8) (i : Nat) (c : Bool) (j : Nat) (hj : j < 8 * l.length) : bitAt (flipStep l i c) j = (bitAt l j != (c && decide (j = i))) := by
  unfold flipStep
  by_cases h : (c && decide (i < 8 * l.length)) = true
  · rw [if_pos h]
    simp only [Bool.and_eq_true, decide_eq_true_eq] at h
    obtain ⟨rfl, hi⟩ := h
    unfold bitAt
    by_cases e : j / 8 = i / 8
    · have e1 : (l.set (i / 8) (l.getD (i / 8) 0 ^^^ unitB (i % 8))).getD (j / 8) 0 = l.getD (i / 8) 0 ^^^ unitB (i % 8) := by
        rw [e]; simp [List.getD, show i / 8 < l.length by omega]
      rw [e1, e]
      have hx : (l.getD (i / 8) 0 ^^^ unitB (i % 8)).toBitVec = (l.getD (i / 8) 0).toBitVec ^^^ (unitB (i % 8)).toBitVec := rfl
      rw [hx, BitVec.getMsbD_xor, unit_bit_all ⟨i % 8, by omega⟩ ⟨j % 8, by omega⟩]
      have : decide (j % 8 = i % 8) = decide (j = i) := by
        by_cases hh : j = i
        · subst hh; simp
        · rw [decide_eq_false hh, decide_eq_false (by omega)]
      rw [this]; simp
    · have e1 : (l.set (i / 8) (l.getD (i / 8) 0 ^^^ unitB (i % 8))).getD (j / 8) 0 = l.getD (j / 8) 0 := by
        simp only [List.getD, List.getElem?_set_ne (Ne.symm e)]
      rw [e1, decide_eq_false (show ¬ j = i by intro h; subst h; exact e rfl)]; simp
  · rw [if_neg h]
    have : (c && decide (j = i)) = false := by
      cases c
      · rfl
      · simp at h ⊢; omega
    rw [this]; simp
theorem flipL_bit (l : List UInt8) (p : Nat) (M : BitVec 32) (k j : Nat) (hj : j < 8 * l.length) (h : j < p ∨ p + k ≤ j) : bitAt (flipL l p M k) j = bitAt l j := by
  induction k with
  | zero => rfl
  | succ k ih =>
    rw [flipL, flipStep_bit _ _ _ _ (by rw [flipL_length]; exact hj), ih (by omega), decide_eq_false (show ¬ j = p + k by omega)]
    simp
theorem bits_eq (l m : List UInt8) (hl : l.length = m.length) (h : ∀ i, i < 8 * l.length → bitAt l i = bitAt m i) : l = m := by
  apply List.ext_getElem hl
  intro k hk1 hk2
  have hb : ∀ j : Nat, j < 8 → (l[k]).toBitVec.getMsbD j = (m[k]).toBitVec.getMsbD j := by
    intro j hj
    have := h (8 * k + j) (by omega)
    unfold bitAt at this
    rw [show (8 * k + j) / 8 = k by omega, show (8 * k + j) % 8 = j by omega] at this
    simpa [List.getD, hk1, hk2] using this
  have : (l[k]).toBitVec = (m[k]).toBitVec := by
    apply BitVec.eq_of_getMsbD_eq
    intro i hi; exact hb i (by omega)
  exact UInt8.toBitVec_inj.1 this
theorem flip_law (s : ByteArray) (p : Nat) (M : BitVec 32) : ((smS s == smS ⟨(flipL s.data.toList p M 32).toArray⟩) == (s.toList == (⟨(flipL s.data.toList p M 32).toArray⟩ : ByteArray).toList)) = true := by
  generalize hc : (⟨(flipL s.data.toList p M 32).toArray⟩ : ByteArray) = c
  have hcl : c.data.toList = flipL s.data.toList p M 32 := by rw [← hc]
  rw [strEq]
  by_cases e : s = c
  · rw [← e]; simp
  · have hne : ¬ smS s = smS c := by
      intro h
      apply e
      have h1 : sm s.data.toList = sm c.data.toList := by
        apply BitVec.eq_of_toNat_eq
        unfold smS smI at h
        omega
      unfold sm at h1
      have h2 : rn (~~~ 0#32) s.data.toList = rn (~~~ 0#32) c.data.toList := by
        have := congrArg (fun z => ~~~ z) h1
        simpa using this
      have hlen : c.data.toList.length = s.data.toList.length := by rw [hcl, flipL_length]
      rw [rn_rb, rn_rb, hlen] at h2
      have h3 := burst _ _ _ p _ (fun i hi hw => by rw [hcl]; exact (flipL_bit _ _ _ _ _ hi hw).symm) h2
      have h4 := bits_eq _ _ hlen.symm h3
      obtain ⟨⟨x⟩⟩ := s
      obtain ⟨⟨y⟩⟩ := c
      simp only at h4
      rw [h4]
    have e1 : (smS s == smS c) = false := by simpa using hne
    rw [e1, decide_eq_false e]; rfl

set_option maxRecDepth 100000 in
set_option maxHeartbeats 2000000 in
theorem burst_walk (s : ByteArray) (at_ mask : Int) (w : World) (m0 : 0 ≤ mask) (m1 : mask < 4294967296) :
    Calls Try.prog 6 #[.string s, .int .i64 at_, .int .u32 mask] w fun e w' => e = .returned (.bool true) ∧ Below w.heap.size w w' := by
  by_cases h : s.size ≤ 400 ∧ 0 ≤ at_ ∧ at_ ≤ 3200
  · obtain ⟨h1, h2, h3⟩ := h
    obtain ⟨p, rfl⟩ := Int.eq_ofNat_of_zero_le h2
    have hg1 : decide ((s.size : Int) > 400) = false := decide_eq_false (by omega)
    have hg2 : decide ((p : Int) < 0) = false := decide_eq_false (by omega)
    have hg3 : decide ((p : Int) > 3200) = false := decide_eq_false (by omega)
    have HS := Lib.hid (show s.size ≤ maxLen by unfold maxLen; omega)
    have HL := Lib.hid (flip_law s p (BitVec.ofInt 32 mask))
    have HF := Lib.hid fun w => flip_any s p mask w h1 (by omega) m0 m1
    have hcs : (⟨(flipL s.data.toList p (BitVec.ofInt 32 mask) 32).toArray⟩ : ByteArray).size = s.size := by
      show (flipL s.data.toList p (BitVec.ofInt 32 mask) 32).toArray.size = _
      rw [List.size_toArray, flipL_length, Array.length_toList]; rfl
    generalize (⟨(flipL s.data.toList p (BitVec.ofInt 32 mask) 32).toArray⟩ : ByteArray) = c at HL HF hcs
    have HC := Lib.hid (show c.size ≤ maxLen by rw [hcs]; unfold maxLen; omega)
    clear hcs
    go_enter Try.func6, Try.ntmps6
    go_wp2_with fail
    (with_reducible refine (awake_any _).mono ?_); rintro _ w1 ⟨rfl, hb1⟩
    go_wp2_with fail
    (with_reducible refine (HF.out _).mono ?_); rintro _ w2 ⟨rfl, hb2⟩
    go_wp2_with fail
    (with_reducible refine (sum_one _ s _ HS.out (by simp [go_sem])).mono ?_); rintro _ w' ⟨rfl, rfl⟩
    go_wp2_with fail
    (with_reducible refine (sum_one _ c _ HC.out (by simp [go_sem])).mono ?_); rintro _ w' ⟨rfl, rfl⟩
    go_wp2
    go_ret
    exact ⟨congrArg (fun z => Ending.returned (.bool z)) HL.out, balloc (balloc (bthen hb1 hb2) _) _⟩
  · by_cases h1 : s.size ≤ 400
    · by_cases h2 : 0 ≤ at_
      · have h3 : 3200 < at_ := by omega
        clear h
        have hg1 : decide ((s.size : Int) > 400) = false := decide_eq_false (by omega)
        go_enter Try.func6, Try.ntmps6
        go_wp2_with fail
        (with_reducible refine (awake_any _).mono ?_); rintro _ w1 ⟨rfl, hb1⟩
        go_wp2_with fail
        (with_reducible refine (awake_any _).mono ?_); rintro _ w2 ⟨rfl, hb2⟩
        go_wp2
        go_ret
        exact ⟨rfl, bthen hb1 hb2⟩
      · have h3 : at_ < 0 := by omega
        clear h h2
        have hg1 : decide ((s.size : Int) > 400) = false := decide_eq_false (by omega)
        go_enter Try.func6, Try.ntmps6
        go_wp2_with fail
        (with_reducible refine (awake_any _).mono ?_); rintro _ w1 ⟨rfl, hb1⟩
        go_wp2_with fail
        (with_reducible refine (awake_any _).mono ?_); rintro _ w2 ⟨rfl, hb2⟩
        go_wp2
        go_ret
        exact ⟨rfl, bthen hb1 hb2⟩
    · clear h
      have hg1 : decide ((s.size : Int) > 400) = true := decide_eq_true (by omega)
      go_enter Try.func6, Try.ntmps6
      go_wp2_with fail
      (with_reducible refine (awake_any _).mono ?_); rintro _ w1 ⟨rfl, hb1⟩
      go_wp2_with fail
      (with_reducible refine (awake_any _).mono ?_); rintro _ w2 ⟨rfl, hb2⟩
      go_wp2
      go_ret
      exact ⟨rfl, bthen hb1 hb2⟩


open Go.ChangeShapes Go.WideShapes Go.ChangeAt
open Go.ChangeMaps (open_string shut_string)
theorem crcBurst_own : ownKnob Try.prog.godebug = none := by kernel_rfl
theorem crcBurst_laidOut : laidOutB Try.prog = true := by kernel_rfl
set_option maxRecDepth 100000 in
theorem crcBurst_lifted (os : Os) (started : os.Started) (H : Type) (enc : TypeId × Value → H) :
    ReturnsInHanded {} Try.checked os 6 .any (Rows.crcBurstSpec.pre6 enc Try.prog Try.f6 Rows.crcBurstRow.domain false) (Rows.crcBurstSpec.post enc Try.prog Try.f6 false true false false) := by
  refine returnsInHanded_of_change (C := Try.checked) crcBurst_own started (by kernel_rfl) Try.func6
    (ChangeSpec.witness6 (enc := enc) (C := Try.checked) false ⟨#[], #[.string ⟨#[]⟩, .int .i64 0, .int .u32 0], []⟩ 8 (by kernel_rfl) (by kernel_rfl) (by kernel_rfl) (by kernel_rfl)) ?_
  intro W base args ds gs before hval0 hW hcnd _
  have hval : ∀ (j : Nat) t v, Try.f6.params[j]? = some t → args[j]? = some v → Value.okWide Try.prog W .any base t v := hval0
  have hW' := hW
  obtain ⟨p, q, hA0, hV, rfl, hfz, hnd⟩ := hW
  have hA : DataW.TrodAll enc Try.prog W 0 (fun _ => true) true Try.f6.params.toList args.toList ds p := hA0
  rw [Try.params6] at hA hval
  obtain ⟨v0, vs0, d0, ds0, p0, q0, hargs, rfl, rfl, h0, r0⟩ := trodAll_cons hA
  obtain ⟨v1, vs1, d1, ds1, p1, q1, rfl, rfl, rfl, h1, r1⟩ := trodAll_cons r0
  obtain ⟨v2, vs2, d2, ds2, p2, q2, rfl, rfl, rfl, h2, r2⟩ := trodAll_cons r1
  obtain ⟨rfl, rfl, rfl⟩ := trodAll_nil r2
  obtain rfl : args = #[v0, v1, v2] := by cases args; simp_all
  obtain ⟨rfl, rfl⟩ := trodVars_none hV
  obtain ⟨a0, rfl, rfl, rfl, w0⟩ := open_string Try.underlying9 (hval 0 9 v0 rfl rfl) h0
  obtain ⟨a1, rfl, rfl, rfl, w1⟩ := open_int Try.underlying3 (hval 1 3 v1 rfl rfl) h1
  have w1' := w1
  simp [Lit.wf, show IntKind.i64.min = -9223372036854775808 from rfl, show IntKind.i64.max = 9223372036854775807 from rfl] at w1'
  obtain ⟨a2, rfl, rfl, rfl, w2⟩ := open_int Try.underlying22 (hval 2 22 v2 rfl rfl) h2
  have w2' := w2
  simp [Lit.wf, show IntKind.u32.min = 0 from rfl, show IntKind.u32.max = 4294967295 from rfl] at w2'
  clear hA0 hval0
  refine (burst_walk a0 a1 a2 W (by omega) (by omega)).mono fun e W' ⟨he, bel⟩ => ?_
  subst he
  exact ⟨_, rfl, _, _, _, [], _, [], hW', trodAll_mk1 (shut_bool Try.underlying4 _), (trodAll_cons_mk (shut_string Try.underlying9 w0) (trodAll_cons_mk (shut_int Try.underlying3 w1) (trodAll_cons_mk (shut_int Try.underlying22 w2) trodAll_mk0))), rfl, bel.frame _, fun h => by cases h⟩

theorem crcBurst_holds : Rows.CrcBurstSaid :=
  OpenClaim.holds_of_wide 6 Try.f6 rfl rfl rfl rfl rfl rfl rfl ⟨rfl, rfl, rfl, rfl, rfl⟩ rfl rfl rfl rfl rfl (by kernel_rfl) Try.func6 (by kernel_rfl)
    (of_decide_eq_true (by kernel_rfl)) (by unfold Func.isWrapper; first | (rw [if_pos (by decide +kernel)]; kernel_rfl) | (rw [if_neg (by decide +kernel)]; exact ⟨rfl, rfl⟩))
    (fun os started H enc _ => crcBurst_lifted os started H enc)
#print axioms crcBurst_holds
end Go.Proofs.Ytbjolcinnhpebaa
