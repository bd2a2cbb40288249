/-
  Parts, however many, have the sum of all that they are together: the law CrcParts returns true for every slice of strings. No condition.
-/
import Derived.Test.YtbjolcinnhpebaaCrcAwake
import Derived.Test.YtbjolcinnhpebaaRows
import Derived.ProofKit
import Derived.OpenShut
import Derived.ShutString
import Derived.ChangeOld
import Derived.SliceStrings
import Derived.OwnWalk
namespace Go.Proofs.Ytbjolcinnhpebaa
open Go.RowKit Crc Go.WideShapes

theorem info_string : (Try.prog.info? 9).map (fun i => (i.zero, i.size, i.bytes)) = some (some (.string ⟨#[]⟩), 1, 16) := by kernel_rfl

theorem strs_cat_size (l : List ByteArray) (m : Nat) (h : ∀ s ∈ l, s.size ≤ m) : (catB l).size ≤ m * l.length := by
  show (cat l).toArray.size ≤ _
  rw [List.size_toArray]
  induction l with
  | nil => simp [cat]
  | cons s l ih =>
    have h1 := ih (fun t ht => h t (by simp [ht]))
    have h2 := h s (by simp)
    have h3 : s.data.toList.length = s.size := Array.length_toList
    have e : cat (s :: l) = s.data.toList ++ cat l := rfl
    rw [e, List.length_append, List.length_cons, Nat.mul_succ]
    omega

theorem own_block {w : World} {base : Nat} {e : TypeId} {size n : Nat} {v : Value} {xs : List Value} (h : w.ownsRow base e size v n xs) : ∀ k, v.ownBlock = some k → base ≤ k := by
  intro k hk
  obtain ⟨_, ho⟩ := h
  rcases ho with ⟨rfl, _⟩ | ⟨g, cap', cur, rfl, hg3, _⟩
  · cases hk
  · simp [Value.ownBlock] at hk; omega
theorem own_empty (w : World) (e : TypeId) : (w.alloc (.cells #[] e)).ownsRow w.heap.size e 1 (.slice (some ⟨w.heap.size, 0, none⟩) 0 0) 0 [] :=
  ⟨rfl, .inr ⟨w.heap.size, 0, #[], rfl, Nat.le_refl _, by show (w.heap.push _)[w.heap.size]? = _; simp, Nat.le_refl _, by simp [maxLen], rfl, rfl⟩⟩
theorem parts_cells (b o : Nat) (l : List ByteArray) (w w1 : World) (hb : b < w.heap.size) (hc : ∀ k (h : k < l.length), w.cell? ⟨b, o + k, none⟩ = some (.string l[k])) (hb1 : Below w.heap.size w w1) :
    ∀ (j : Nat) (u : Value), (l.map Value.string)[j]? = some u → (w1.alloc (.cells #[] 9)).cell? ((⟨b, o, none⟩ : Addr).add j) = some u := by
  intro j u hj
  have hjl : j < l.length := by
    have := (List.getElem?_eq_some_iff.1 hj).1
    simpa using this
  have hplain : (⟨b, o, none⟩ : Addr).add j = ⟨b, o + j, none⟩ := by unfold Addr.add; split <;> simp_all
  rw [hplain, ((balloc hb1 (.cells #[] 9))).cell (p := ⟨b, o + j, none⟩) hb, hc j hjl]
  simp [hjl] at hj
  rw [hj]
set_option maxRecDepth 100000 in
set_option maxHeartbeats 2000000 in
theorem parts_some (b o cap : Nat) (l : List ByteArray) (w : World) (hb : b < w.heap.size) (hl : l.length ≤ 40) (hc : ∀ k (h : k < l.length), w.cell? ⟨b, o + k, none⟩ = some (.string l[k])) :
    Calls Try.prog 4 #[.slice (some ⟨b, o, none⟩) l.length cap] w fun e w' => e = .returned (.bool true) ∧ Below w.heap.size w w' := by
  have hg : decide ((l.length : Int) > 40) = false := decide_eq_false (by omega)
  have HC := Lib.hid hc
  clear hc
  have HE := Lib.hid catB_nil
  go_enter Try.func4, Try.ntmps4
  go_wp2_with fail
  (with_reducible refine (awake_any _).mono ?_); rintro _ w1 ⟨rfl, hb1⟩
  go_wp2
  go_loop [3, 16] (fun x i => ∃ k : Nat, k ≤ l.length ∧ i = .int .i64 k ∧ x = .string (catB (l.take k)) ∧ (∀ s ∈ l.take k, s.size ≤ 40)) (fun _ i => l.length - (intOf i).toNat)
  case atStart => exact ⟨0, Nat.zero_le _, rfl, by rw [List.take_zero, HE.out], by simp⟩
  case round =>
    obtain ⟨k, hk, rfl, rfl, hall⟩ := hrel
    by_cases hlt : k < l.length
    · have hcell := HC.out k hlt
      have hcell1 : w1.cell? ⟨b, o + k, none⟩ = some (.string l[k]) := by rw [hb1.cell (p := ⟨b, o + k, none⟩) hb]; exact hcell
      clear hcell
      have HT := Lib.hid (catB_take l k hlt)
      have hz : (catB (l.take k)).size ≤ 1600 := by
        have := strs_cat_size (l.take k) 40 hall
        have h2 : (l.take k).length ≤ 40 := by rw [List.length_take]; omega
        have : 40 * (l.take k).length ≤ 40 * 40 := Nat.mul_le_mul_left _ h2
        omega
      have HA := Lib.hid hall
      clear hall
      by_cases h40 : l[k].size ≤ 40
      · have hg2 : decide ((l[k].size : Int) > 40) = false := decide_eq_false (by omega)
        go_wp2
        go_round
        case rel =>
          refine ⟨k + 1, by omega, by go_num, by rw [HT.out], ?_⟩
          intro s hs
          rw [List.take_succ_eq_append_getElem hlt, List.mem_append] at hs
          rcases hs with hs | hs
          · exact HA.out s hs
          · simp at hs; rw [hs]; exact h40
        case measure => simp [intOf]; omega
      · have hg2 : decide ((l[k].size : Int) > 40) = true := decide_eq_true (by omega)
        go_wp2
        go_ret
        exact ⟨rfl, hb1⟩
    · obtain rfl : k = l.length := by omega
      rw [List.take_length]
      rw [List.take_length] at hall
      have HA := Lib.hid hall
      clear hall
      obtain ⟨i0, hi, hz0, hz1, hz2⟩ := info_parts info_string
      have HI := Lib.hid (And.intro hi (And.intro hz0 (And.intro hz1 hz2)))
      clear hi hz0 hz1 hz2
      have HCE := Lib.hid (parts_cells b o l w w1 hb HC.out hb1)
      have HL := Lib.hid (show l.length ≤ maxLen by unfold maxLen; omega)
      have HM := Lib.hid (show ∀ s ∈ l, s.size ≤ maxLen from fun s hs => Nat.le_trans (HA.out s hs) (by unfold maxLen; omega))
      have HZ := Lib.hid (show (catB l).size ≤ maxLen from by have := strs_cat_size l 40 HA.out; have h2 : 40 * l.length ≤ 40 * 40 := Nat.mul_le_mul_left _ hl; unfold maxLen; omega)
      go_wp2_with (at_builtin; refine wpList_append_own _ rfl (.tmp 27) (.tmp 28) 28 rfl w1.heap.size 9 i0 (.string ⟨#[]⟩) 1 16 Try.underlying28 HI.out.1 HI.out.2.1 HI.out.2.2.1 HI.out.2.2.2 rfl (by decide) _ 0 [] rfl (own_empty w1 9) ⟨b, o, none⟩ l.length cap (l.map Value.string) rfl (by rw [List.length_map, Nat.mul_one]) HCE.out (by intro u hu; obtain ⟨s, _, rfl⟩ := List.mem_map.1 hu; rfl) (by rw [Nat.zero_add]; exact HL.out) (by omega) (by simp) ?_)
      intro v' w2 hown hg2 _
      have hv := Lib.hid (strs_of_own hown)
      have hb2 : Below w.heap.size w w2 := (balloc hb1 _).grown hg2 (balloc hb1 _).size (fun k hk => by simp [Value.ownBlock] at hk; have := hb1.size; omega)
      clear hown hg2
      go_wp2_with fail
      (with_reducible refine (sum_strs v' l _ hv.out HL.out HM.out).mono ?_); rintro _ w' ⟨rfl, rfl⟩
      go_wp2_with fail
      (with_reducible refine (sum_one _ (catB l) _ HZ.out (by simp [go_sem])).mono ?_); rintro _ w' ⟨rfl, rfl⟩
      go_wp2_with fail
      (with_reducible refine (sum_one _ (catB l) _ HZ.out (by simp [go_sem])).mono ?_); rintro _ w' ⟨rfl, rfl⟩
      go_wp2_with fail
      (with_reducible refine (rsum_any (catB l) _ HZ.out).mono ?_); rintro _ w' ⟨rfl, rfl⟩
      go_wp2
      go_ret
      exact ⟨rfl, balloc (balloc hb2 _) _⟩

theorem catB_zero : smS ⟨#[]⟩ = smI [] := rfl
set_option maxRecDepth 100000 in
set_option maxHeartbeats 2000000 in
theorem parts_none (a : Option Addr) (cap : Nat) (hcap : a = none → cap = 0) (w : World) :
    Calls Try.prog 4 #[.slice a 0 cap] w fun e w' => e = .returned (.bool true) ∧ Below w.heap.size w w' := by
  obtain ⟨i0, hi, hz0, hz1, hz2⟩ := info_parts info_string
  have HI := Lib.hid (And.intro hi (And.intro hz0 (And.intro hz1 hz2)))
  clear hi hz0 hz1 hz2
  have HZ := Lib.hid (show (⟨#[]⟩ : ByteArray).size ≤ maxLen from by simp [ByteArray.size])
  cases a with
  | none =>
    obtain rfl := hcap rfl
    go_enter Try.func4, Try.ntmps4
    go_wp2_with fail
    (with_reducible refine (awake_any _).mono ?_); rintro _ w1 ⟨rfl, hb1⟩
    go_wp2
    go_loop [3, 16] (fun x i => i = .int .i64 0 ∧ x = .string ⟨#[]⟩) (fun _ _ => 0)
    case atStart => exact ⟨rfl, rfl⟩
    case round =>
      obtain ⟨rfl, rfl⟩ := hrel
      go_wp2_with fail
      (with_reducible refine (sum_none _ _ _).mono ?_); rintro _ w' ⟨rfl, rfl⟩
      go_wp2_with fail
      (with_reducible refine (sum_one _ ⟨#[]⟩ _ HZ.out (by simp [go_sem])).mono ?_); rintro _ w' ⟨rfl, rfl⟩
      rw [catB_zero]
      go_wp2_with fail
      (with_reducible refine (sum_one _ ⟨#[]⟩ _ HZ.out (by simp [go_sem])).mono ?_); rintro _ w' ⟨rfl, rfl⟩
      rw [catB_zero]
      go_wp2_with fail
      (with_reducible refine (rsum_any ⟨#[]⟩ _ HZ.out).mono ?_); rintro _ w' ⟨rfl, rfl⟩
      rw [catB_zero]
      go_wp2
      go_ret
      exact ⟨rfl, balloc (balloc (balloc hb1 _) _) _⟩
  | some ad =>
    clear hcap
    go_enter Try.func4, Try.ntmps4
    go_wp2_with fail
    (with_reducible refine (awake_any _).mono ?_); rintro _ w1 ⟨rfl, hb1⟩
    go_wp2
    go_loop [3, 16] (fun x i => i = .int .i64 0 ∧ x = .string ⟨#[]⟩) (fun _ _ => 0)
    case atStart => exact ⟨rfl, rfl⟩
    case round =>
      obtain ⟨rfl, rfl⟩ := hrel
      go_wp2_with (at_builtin; refine wpList_append_own _ rfl (.tmp 27) (.tmp 28) 28 rfl w1.heap.size 9 i0 (.string ⟨#[]⟩) 1 16 Try.underlying28 HI.out.1 HI.out.2.1 HI.out.2.2.1 HI.out.2.2.2 rfl (by decide) _ 0 [] rfl (own_empty w1 9) ad 0 cap [] rfl rfl (by intro j u h; simp at h) (by intro u hu; simp at hu) (by simp) (by omega) (by simp) ?_)
      intro v' w2 hown hg2 _
      have hv := Lib.hid (strs_of_own (l := []) hown)
      have hb2 : Below w.heap.size w w2 := (balloc hb1 _).grown hg2 (balloc hb1 _).size (fun k hk => by simp [Value.ownBlock] at hk; have := hb1.size; omega)
      clear hown hg2
      go_wp2_with fail
      (with_reducible refine (sum_strs v' [] _ hv.out (by simp) (by simp)).mono ?_); rintro _ w' ⟨rfl, rfl⟩
      go_wp2_with fail
      (with_reducible refine (sum_one _ ⟨#[]⟩ _ HZ.out (by simp [go_sem])).mono ?_); rintro _ w' ⟨rfl, rfl⟩
      rw [show catB [] = ⟨#[]⟩ from rfl]
      go_wp2_with fail
      (with_reducible refine (sum_one _ ⟨#[]⟩ _ HZ.out (by simp [go_sem])).mono ?_); rintro _ w' ⟨rfl, rfl⟩
      go_wp2_with fail
      (with_reducible refine (rsum_any ⟨#[]⟩ _ HZ.out).mono ?_); rintro _ w' ⟨rfl, rfl⟩
      go_wp2
      go_ret
      exact ⟨rfl, balloc (balloc hb2 _) _⟩

set_option maxRecDepth 100000 in
set_option maxHeartbeats 2000000 in
theorem parts_many (a : Option Addr) (n cap : Nat) (w : World) (hn : 40 < n) :
    Calls Try.prog 4 #[.slice a n cap] w fun e w' => e = .returned (.bool true) ∧ Below w.heap.size w w' := by
  have hg : decide ((n : Int) > 40) = true := decide_eq_true (by omega)
  go_enter Try.func4, Try.ntmps4
  go_wp2_with fail
  (with_reducible refine (awake_any _).mono ?_); rintro _ w1 ⟨rfl, hb1⟩
  go_wp2_with fail
  (with_reducible refine (awake_any _).mono ?_); rintro _ w2 ⟨rfl, hb2⟩
  go_wp2
  go_ret
  exact ⟨rfl, bthen hb1 hb2⟩

theorem parts_walk (v : Value) (W : World) (t : TypeId) (H : Type) (enc : TypeId × Value → H) (d : DataW H) (ps : List MemPlace) (base : Nat)
    (ht : t = 28) (h : DataW.Trod enc Try.prog W 0 (fun _ => true) true t v d ps) (hval : Value.okWide Try.prog W .any base t v) (hlt : ∀ x ∈ ps, x.block < W.heap.size) :
    Calls Try.prog 4 #[v] W fun e w' => e = .returned (.bool true) ∧ Below W.heap.size W w' := by
  subst ht
  obtain ⟨a, n, cap, rfl⟩ := okWide_slice Try.underlying28 hval
  by_cases hn : 40 < n
  · exact parts_many a n cap W hn
  obtain ⟨fuel, hf⟩ := h
  rcases Go.ChangeShapes.open_strings Try.underlying28 Try.underlying9 (by kernel_rfl) hf with ⟨hcs, _⟩ | ⟨x, l, c, ss, hcs, _, hl, hm, hz, hx, hcell, hwz⟩
  · simp [Value.cells] at hcs
    obtain ⟨rfl, rfl, rfl⟩ := hcs
    exact parts_none none 0 (fun _ => rfl) W
  · simp [Value.cells] at hcs
    obtain ⟨rfl, rfl, rfl⟩ := hcs
    by_cases h0 : n = 0
    · subst h0; exact parts_none (some x) cap (fun h => by cases h) W
    · have hz' : ss.length = cap := by simpa using hz
      have h1 := hcell 0 (by omega)
      have hx0 : x.spot = none := by
        unfold World.cell? at h1
        have : x.add 0 = x := rfl
        rw [this] at h1
        split at h1
        · split at h1
          · cases h1
          · rename_i hs; simpa using hs
        · cases h1
      obtain ⟨b, o, sp⟩ := x
      simp only at hx0
      subst hx0
      have hb : b < W.heap.size := by
        rcases Nat.lt_or_ge b W.heap.size with hb | hb
        · exact hb
        · exfalso
          have : (⟨b, o, none⟩ : Addr).add 0 = ⟨b, o, none⟩ := rfl
          rw [this] at h1
          unfold World.cell? at h1
          rw [show W.heap[(⟨b, o, none⟩ : Addr).block]? = none from Array.getElem?_eq_none hb] at h1
          cases h1
      have hlen : (ss.take n).length = n := by rw [List.length_take]; omega
      have hw := parts_some b o cap (ss.take n) W hb (by omega) (fun k hk => by
        have hk' : k < n := by omega
        have := hcell k (by omega)
        rw [show (⟨b, o, none⟩ : Addr).add k = ⟨b, o + k, none⟩ from by unfold Addr.add; split <;> simp_all] at this
        rw [this, List.getElem_take]
        simp [List.getD, List.getElem?_eq_getElem (show k < ss.length by omega)])
      rw [hlen] at hw
      exact hw


open Go.ChangeShapes Go.WideShapes Go.ChangeAt
open Go.ChangeMaps (open_string shut_string)
theorem crcParts_own : ownKnob Try.prog.godebug = none := by kernel_rfl
theorem crcParts_laidOut : laidOutB Try.prog = true := by kernel_rfl
set_option maxRecDepth 100000 in
theorem crcParts_lifted (os : Os) (started : os.Started) (H : Type) (enc : TypeId × Value → H) :
    ReturnsInHanded {} Try.checked os 4 .any (Rows.crcPartsSpec.pre6 enc Try.prog Try.f4 Rows.crcPartsRow.domain false) (Rows.crcPartsSpec.post enc Try.prog Try.f4 false true false false) := by
  refine returnsInHanded_of_change (C := Try.checked) crcParts_own started (by kernel_rfl) Try.func4
    (ChangeSpec.witness6 (enc := enc) (C := Try.checked) false ⟨#[], #[.slice none 0 0], []⟩ 8 (by kernel_rfl) (by kernel_rfl) (by kernel_rfl) (by kernel_rfl)) ?_
  intro W base args ds gs before hval0 hW hcnd _
  have hval : ∀ (j : Nat) t v, Try.f4.params[j]? = some t → args[j]? = some v → Value.okWide Try.prog W .any base t v := hval0
  have hW' := hW
  obtain ⟨p, q, hA0, hV, rfl, hfz, hnd⟩ := hW
  have hA : DataW.TrodAll enc Try.prog W 0 (fun _ => true) true Try.f4.params.toList args.toList ds p := hA0
  rw [Try.params4] at hA hval
  obtain ⟨v0, vs0, d0, ds0, p0, q0, hargs, rfl, rfl, h0, r0⟩ := trodAll_cons hA
  obtain ⟨rfl, rfl, rfl⟩ := trodAll_nil r0
  obtain rfl : args = #[v0] := by cases args; simp_all
  obtain ⟨rfl, rfl⟩ := trodVars_none hV
  have k0 := h0
  have lt0 : ∀ x ∈ p0, x.block < W.heap.size := by obtain ⟨m, hm⟩ := k0; exact DataW.trod_lt m _ _ _ hm
  have vl0 := hval 0 28 v0 rfl rfl
  have h0m := h0
  clear hA0 hval0
  refine (parts_walk v0 W _ H enc _ _ base rfl h0 vl0 lt0).mono fun e W' ⟨he, bel⟩ => ?_
  subst he
  exact ⟨_, rfl, _, _, _, [], _, [], hW', trodAll_mk1 (shut_bool Try.underlying4 _), (trodAll_cons_mk (Below.trod crcParts_laidOut (by kernel_rfl) (of_decide_eq_true (by kernel_rfl)) k0 bel lt0) trodAll_mk0), rfl, bel.frame _, fun h => by cases h⟩

theorem crcParts_holds : Rows.CrcPartsSaid :=
  OpenClaim.holds_of_wide 4 Try.f4 rfl rfl rfl rfl rfl rfl rfl ⟨rfl, rfl, rfl, rfl, rfl⟩ rfl rfl rfl rfl rfl (by kernel_rfl) Try.func4 (by kernel_rfl)
    (of_decide_eq_true (by kernel_rfl)) (by unfold Func.isWrapper; first | (rw [if_pos (by decide +kernel)]; kernel_rfl) | (rw [if_neg (by decide +kernel)]; exact ⟨rfl, rfl⟩))
    (fun os started H enc _ => crcParts_lifted os started H enc)
#print axioms crcParts_holds
end Go.Proofs.Ytbjolcinnhpebaa
