/-
  Bytes 0 behind a text make of its sum what the document says, whatever the text is, and in two parts the same: the law CrcNoughts returns true for every number of 32 bits and every two counts. No condition.
-/
import Derived.Test.YtbjolcinnhpebaaCrcAwake
import Derived.Test.YtbjolcinnhpebaaShelf
import Derived.Test.YtbjolcinnhpebaaRows
import Derived.ProofKit
import Derived.OpenShut
import Derived.ShutString
import Derived.ChangeOld
namespace Go.Proofs.Ytbjolcinnhpebaa
open Go.RowKit Crc

theorem rn_zeros (X : BitVec 32) : ∀ n, rn X (Lib.repeatL [0] n) = nz X n := by
  have gen : ∀ n (Y : BitVec 32), rn Y (Lib.repeatL [0] n) = nz Y n ∧ nz (tk Y 0#8) n = tk (nz Y n) 0#8 := by
    intro n
    induction n with
    | zero => intro Y; exact ⟨rfl, rfl⟩
    | succ n ih =>
      intro Y
      have h1 := (ih (tk Y 0#8)).1
      have h2 := (ih Y).2
      refine ⟨?_, ?_⟩
      · show rn (tk Y (0 : UInt8).toBitVec) (Lib.repeatL [0] n) = tk (nz Y n) 0#8
        rw [show (0 : UInt8).toBitVec = 0#8 from rfl, h1, h2]
      · show tk (nz (tk Y 0#8) n) 0#8 = tk (tk (nz Y n) 0#8) 0#8
        rw [h2]
  intro n; exact (gen n X).1
theorem nz_add (X : BitVec 32) (n m : Nat) : nz (nz X n) m = nz X (n + m) := by
  induction m with
  | zero => rfl
  | succ m ih => show tk (nz (nz X n) m) 0#8 = tk (nz X (n + m)) 0#8; rw [ih]
theorem noughts_behind (x : Int) (n : Nat) : noughtsI x n = behindI x (Lib.repeatL [0] n) := by
  unfold noughtsI behindI; rw [rn_zeros]
theorem noughts_two (x : Int) (n m : Nat) : noughtsI (noughtsI x n) m = noughtsI x (n + m) := by
  unfold noughtsI; rw [ofInt_toNat, BitVec.not_not, nz_add]
theorem noughtsI_range (x : Int) (n : Nat) : 0 ≤ noughtsI x n ∧ noughtsI x n < 4294967296 := bv_range _

theorem noughts_nat (x : Int) (n : Nat) (w : World) (hx0 : 0 ≤ x) (hx1 : x < 4294967296) (h1 : n ≤ 4096) :
    Calls Try.prog 15 #[.int .u32 x, .int .i64 n] w fun e w' => e = .returned (.int .u32 (noughtsI x n)) ∧ w' = w := by
  have h := noughts_any x n w hx0 hx1 (by omega) (by omega)
  rw [Int.toNat_natCast] at h; exact h
def zeros (n : Nat) : ByteArray := ⟨(Lib.repeatL [0] n).toArray⟩
theorem zeros_size (n : Nat) : (zeros n).size = n := by
  show (Lib.repeatL [0] n).toArray.size = n
  rw [List.size_toArray, Lib.repeatL_length]; simp
theorem zeros_list (n : Nat) : (zeros n).data.toList = Lib.repeatL [0] n := rfl
theorem repeat_zeros (n : Nat) (w : World) (h1 : n ≤ 4096) :
    Calls Try.prog 17 #[.string ⟨#[0]⟩, .int .i64 n] w fun e w' => e = .returned (.string (zeros n)) ∧ Below w.heap.size w w' := by
  have h := Try.strings_Repeat ⟨#[0]⟩ n w (by omega) (by simp [ByteArray.size]; omega)
  exact h

set_option maxRecDepth 100000 in
set_option maxHeartbeats 2000000 in
theorem noughts_main (x : Int) (n m : Nat) (w : World) (hx0 : 0 ≤ x) (hx1 : x < 4294967296) (hn : n ≤ 200) (hm : m ≤ 200) :
    Calls Try.prog 7 #[.int .u32 x, .int .i64 n, .int .i64 m] w fun e w' => e = .returned (.bool true) ∧ Below w.heap.size w w' := by
  have hr := noughtsI_range x n
  obtain ⟨hr0, hr1⟩ := hr
  have HB := Lib.hid (noughts_behind x n)
  have HT := Lib.hid (noughts_two x n m)
  have hz := Lib.hid <| show (zeros n).size ≤ maxLen by rw [zeros_size]; unfold maxLen; omega
  have hg1 : decide ((n : Int) < 0) = false := decide_eq_false (by omega)
  have hg2 : decide ((n : Int) > 200) = false := by simp; omega
  have hg3 : decide ((m : Int) < 0) = false := decide_eq_false (by omega)
  have hg4 : decide ((m : Int) > 200) = false := by simp; omega
  go_enter Try.func7, Try.ntmps7
  go_wp2_with fail
  (with_reducible refine (awake_any _).mono ?_); rintro _ w1 ⟨rfl, hb1⟩
  go_wp2_with fail
  (with_reducible refine (noughts_nat x n _ hx0 hx1 (by omega)).mono ?_); rintro _ w' ⟨rfl, rfl⟩
  go_wp2_with fail
  (with_reducible refine (repeat_zeros n _ (by omega)).mono ?_); rintro _ w2 ⟨rfl, hb2⟩
  go_wp2_with fail
  (with_reducible refine (rbehind_any x (zeros n) _ hx0 hx1 hz.out).mono ?_); rintro _ w' ⟨rfl, rfl⟩
  rw [zeros_list, ← HB.out]
  go_wp2_with fail
  (with_reducible refine (noughts_nat _ m _ hr0 hr1 (by omega)).mono ?_); rintro _ w' ⟨rfl, rfl⟩
  rw [HT.out]
  go_wp2_with fail
  rw [show ((n : Int) + (m : Int)) = ((n + m : Nat) : Int) from by omega]
  (with_reducible refine (noughts_nat x (n + m) _ hx0 hx1 (by omega)).mono ?_); rintro _ w' ⟨rfl, rfl⟩
  go_wp2
  go_ret
  exact ⟨rfl, bthen hb1 hb2⟩

set_option maxHeartbeats 2000000 in
theorem noughts_walk (x n m : Int) (w : World) (hx0 : 0 ≤ x) (hx1 : x < 4294967296) :
    Calls Try.prog 7 #[.int .u32 x, .int .i64 n, .int .i64 m] w fun e w' => e = .returned (.bool true) ∧ Below w.heap.size w w' := by
  by_cases h : 0 ≤ n ∧ n ≤ 200 ∧ 0 ≤ m ∧ m ≤ 200
  · obtain ⟨h1, h2, h3, h4⟩ := h
    obtain ⟨n, rfl⟩ := Int.eq_ofNat_of_zero_le h1
    obtain ⟨m, rfl⟩ := Int.eq_ofNat_of_zero_le h3
    exact noughts_main x n m w hx0 hx1 (by omega) (by omega)
  by_cases h0 : n < 0
  · go_enter Try.func7, Try.ntmps7
    go_wp2_with fail
    (with_reducible refine (awake_any _).mono ?_); rintro _ w1 ⟨rfl, hb1⟩
    go_wp2_with fail
    (with_reducible refine (awake_any _).mono ?_); rintro _ w2 ⟨rfl, hb2⟩
    go_wp2_with fail
    (with_reducible refine (noughts_neg x n _ hx0 hx1 h0).mono ?_); rintro _ w' ⟨rfl, rfl⟩
    go_wp2
    go_ret
    exact ⟨rfl, bthen hb1 hb2⟩
  have g0 : 0 ≤ n := by omega
  by_cases h1 : 200 < n
  · clear h h0
    go_enter Try.func7, Try.ntmps7
    go_wp2_with fail
    (with_reducible refine (awake_any _).mono ?_); rintro _ w1 ⟨rfl, hb1⟩
    go_wp2_with fail
    (with_reducible refine (awake_any _).mono ?_); rintro _ w2 ⟨rfl, hb2⟩
    go_wp2
    go_ret
    exact ⟨rfl, bthen hb1 hb2⟩
  have g1 : n ≤ 200 := by omega
  by_cases h2 : m < 0
  · clear h h0 h1
    go_enter Try.func7, Try.ntmps7
    go_wp2_with fail
    (with_reducible refine (awake_any _).mono ?_); rintro _ w1 ⟨rfl, hb1⟩
    go_wp2_with fail
    (with_reducible refine (awake_any _).mono ?_); rintro _ w2 ⟨rfl, hb2⟩
    go_wp2
    go_ret
    exact ⟨rfl, bthen hb1 hb2⟩
  have g2 : 0 ≤ m := by omega
  have g3 : 200 < m := by omega
  clear h h0 h1 h2
  go_enter Try.func7, Try.ntmps7
  go_wp2_with fail
  (with_reducible refine (awake_any _).mono ?_); rintro _ w1 ⟨rfl, hb1⟩
  go_wp2_with fail
  (with_reducible refine (awake_any _).mono ?_); rintro _ w2 ⟨rfl, hb2⟩
  go_wp2
  go_ret
  exact ⟨rfl, bthen hb1 hb2⟩


open Go.ChangeShapes Go.WideShapes Go.ChangeAt
open Go.ChangeMaps (open_string shut_string)
theorem crcNoughts_own : ownKnob Try.prog.godebug = none := by kernel_rfl
theorem crcNoughts_laidOut : laidOutB Try.prog = true := by kernel_rfl
set_option maxRecDepth 100000 in
theorem crcNoughts_lifted (os : Os) (started : os.Started) (H : Type) (enc : TypeId × Value → H) :
    ReturnsInHanded {} Try.checked os 7 .any (Rows.crcNoughtsSpec.pre6 enc Try.prog Try.f7 Rows.crcNoughtsRow.domain false) (Rows.crcNoughtsSpec.post enc Try.prog Try.f7 false true false false) := by
  refine returnsInHanded_of_change (C := Try.checked) crcNoughts_own started (by kernel_rfl) Try.func7
    (ChangeSpec.witness6 (enc := enc) (C := Try.checked) false ⟨#[], #[.int .u32 0, .int .i64 0, .int .i64 0], []⟩ 8 (by kernel_rfl) (by kernel_rfl) (by kernel_rfl) (by kernel_rfl)) ?_
  intro W base args ds gs before hval0 hW hcnd _
  have hval : ∀ (j : Nat) t v, Try.f7.params[j]? = some t → args[j]? = some v → Value.okWide Try.prog W .any base t v := hval0
  have hW' := hW
  obtain ⟨p, q, hA0, hV, rfl, hfz, hnd⟩ := hW
  have hA : DataW.TrodAll enc Try.prog W 0 (fun _ => true) true Try.f7.params.toList args.toList ds p := hA0
  rw [Try.params7] at hA hval
  obtain ⟨v0, vs0, d0, ds0, p0, q0, hargs, rfl, rfl, h0, r0⟩ := trodAll_cons hA
  obtain ⟨v1, vs1, d1, ds1, p1, q1, rfl, rfl, rfl, h1, r1⟩ := trodAll_cons r0
  obtain ⟨v2, vs2, d2, ds2, p2, q2, rfl, rfl, rfl, h2, r2⟩ := trodAll_cons r1
  obtain ⟨rfl, rfl, rfl⟩ := trodAll_nil r2
  obtain rfl : args = #[v0, v1, v2] := by cases args; simp_all
  obtain ⟨rfl, rfl⟩ := trodVars_none hV
  obtain ⟨a0, rfl, rfl, rfl, w0⟩ := open_int Try.underlying22 (hval 0 22 v0 rfl rfl) h0
  have w0' := w0
  simp [Lit.wf, show IntKind.u32.min = 0 from rfl, show IntKind.u32.max = 4294967295 from rfl] at w0'
  obtain ⟨a1, rfl, rfl, rfl, w1⟩ := open_int Try.underlying3 (hval 1 3 v1 rfl rfl) h1
  have w1' := w1
  simp [Lit.wf, show IntKind.i64.min = -9223372036854775808 from rfl, show IntKind.i64.max = 9223372036854775807 from rfl] at w1'
  obtain ⟨a2, rfl, rfl, rfl, w2⟩ := open_int Try.underlying3 (hval 2 3 v2 rfl rfl) h2
  have w2' := w2
  simp [Lit.wf, show IntKind.i64.min = -9223372036854775808 from rfl, show IntKind.i64.max = 9223372036854775807 from rfl] at w2'
  clear hA0 hval0
  refine (noughts_walk a0 a1 a2 W (by omega) (by omega)).mono fun e W' ⟨he, bel⟩ => ?_
  subst he
  exact ⟨_, rfl, _, _, _, [], _, [], hW', trodAll_mk1 (shut_bool Try.underlying4 _), (trodAll_cons_mk (shut_int Try.underlying22 w0) (trodAll_cons_mk (shut_int Try.underlying3 w1) (trodAll_cons_mk (shut_int Try.underlying3 w2) trodAll_mk0))), rfl, bel.frame _, fun h => by cases h⟩

theorem crcNoughts_holds : Rows.CrcNoughtsSaid :=
  OpenClaim.holds_of_wide 7 Try.f7 rfl rfl rfl rfl rfl rfl rfl ⟨rfl, rfl, rfl, rfl, rfl⟩ rfl rfl rfl rfl rfl (by kernel_rfl) Try.func7 (by kernel_rfl)
    (of_decide_eq_true (by kernel_rfl)) (by unfold Func.isWrapper; first | (rw [if_pos (by decide +kernel)]; kernel_rfl) | (rw [if_neg (by decide +kernel)]; exact ⟨rfl, rfl⟩))
    (fun os started H enc _ => crcNoughts_lifted os started H enc)
#print axioms crcNoughts_holds
end Go.Proofs.Ytbjolcinnhpebaa
