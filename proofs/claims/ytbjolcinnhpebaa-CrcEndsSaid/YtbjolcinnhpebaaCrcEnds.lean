/-
  Bytes with their sum behind them are right and with another sum are not; any bytes are right, or not, as the document says: the law CrcEnds returns true for every string and every number of 32 bits. No condition.
-/
import Derived.Test.YtbjolcinnhpebaaCrcAwake
import Derived.Test.YtbjolcinnhpebaaRows
import Derived.ProofKit
import Derived.OpenShut
import Derived.ShutString
import Derived.ChangeOld
namespace Go.Proofs.Ytbjolcinnhpebaa
open Go.RowKit Crc

theorem right_any (s : ByteArray) (w : World) (hs2 : s.size ≤ maxLen) :
    Calls Try.prog 13 #[.string s] w fun e w' => e = .returned (.bool (rightB s)) ∧ Below w.heap.size w w' := by
  by_cases h : 4 ≤ s.size
  · exact right_long s w h hs2
  · have e : rightB s = false := by simp [rightB, h]
    rw [e]; exact right_short s w (by omega)

theorem putI_size (x : Int) : (putI x).size = 4 := by rw [putI, strOfNums_size]; rfl
theorem putI_inj (x y : Int) (hx0 : 0 ≤ x) (hx1 : x < 4294967296) (hy0 : 0 ≤ y) (hy1 : y < 4294967296) (h : putI x = putI y) : x = y := by
  have h' : (putI x).data.toList = (putI y).data.toList := by rw [h]
  unfold putI at h'
  rw [strOfNums_data, strOfNums_data] at h'
  simp only [List.map_cons, List.map_nil, List.cons.injEq, and_true] at h'
  obtain ⟨h1, h2, h3, h4⟩ := h'
  have g : ∀ a b : Int, 0 ≤ a → a < 256 → 0 ≤ b → b < 256 → UInt8.ofNat a.toNat = UInt8.ofNat b.toNat → a = b := by
    intro a b ha0 ha1 hb0 hb1 e
    have := congrArg UInt8.toNat e
    rw [UInt8.toNat_ofNat', UInt8.toNat_ofNat'] at this
    omega
  have := g _ _ (by omega) (by omega) (by omega) (by omega) h1
  have := g _ _ (by omega) (by omega) (by omega) (by omega) h2
  have := g _ _ (by omega) (by omega) (by omega) (by omega) h3
  have := g _ _ (by omega) (by omega) (by omega) (by omega) h4
  omega
theorem extract_behind (s t : ByteArray) : (s ++ t).extract s.size (s ++ t).size = t := by
  rw [ByteArray.extract_append_eq_right rfl (by simp)]
theorem extract_front (s t : ByteArray) : (s ++ t).extract 0 s.size = s := by
  rw [ByteArray.extract_append_eq_left rfl]
theorem right_put (s : ByteArray) (x : Int) (hx0 : 0 ≤ x) (hx1 : x < 4294967296) : rightB (s ++ putI x) = (x == smS s) := by
  have hsz : (s ++ putI x).size = s.size + 4 := by rw [ByteArray.size_append, putI_size]
  have h4 : (s ++ putI x).size - 4 = s.size := by omega
  unfold rightB
  rw [h4, extract_behind, extract_front, strEq]
  have := smS_range s
  rw [Bool.eq_iff_iff]
  rw [beq_iff_eq, Bool.and_eq_true, decide_eq_true_eq, decide_eq_true_eq]
  constructor
  · rintro ⟨_, h⟩; exact putI_inj _ _ hx0 hx1 this.1 this.2 h
  · intro h; exact ⟨by omega, by rw [h]⟩
theorem right_put_self (s : ByteArray) : rightB (s ++ putI (smS s)) = true := by
  rw [right_put s _ (smS_range s).1 (smS_range s).2]; simp

set_option maxHeartbeats 2000000 in
theorem ends_walk (s : ByteArray) (x : Int) (w : World) (hx0 : 0 ≤ x) (hx1 : x < 4294967296) :
    Calls Try.prog 5 #[.string s, .int .u32 x] w fun e w' => e = .returned (.bool true) ∧ Below w.heap.size w w' := by
  by_cases hs : s.size ≤ 400
  · have hs1 : s.size ≤ maxLen := by unfold maxLen; omega
    have hg : decide ((s.size : Int) > 400) = false := by simp; omega
    have hr := smS_range s
    obtain ⟨hr0, hr1⟩ := hr
    have hrp := smS_range (s.extract 0 (s.size - 4))
    obtain ⟨hrp0, hrp1⟩ := hrp
    have HP := Lib.hid (right_put s x hx0 hx1)
    have HS := Lib.hid (right_put_self s)
    have hsz1 := Lib.hid <| show (s ++ putI x).size ≤ maxLen by rw [ByteArray.size_append, putI_size]; unfold maxLen; omega
    have hsz2 := Lib.hid <| show (s ++ putI (smS s)).size ≤ maxLen by rw [ByteArray.size_append, putI_size]; unfold maxLen; omega
    have hex := Lib.hid <| show (s.extract 0 (s.size - 4)).size ≤ maxLen by simp; omega
    have hs1 := Lib.hid hs1
    have hps : ∀ y, (putI y).size = 4 := putI_size
    by_cases h4 : 4 ≤ s.size
    · have hgg : decide (4 ≤ (s.size : Int)) = true := by simp; omega
      have HB := Lib.hid (show ((s.extract (s.size - 4) s.size).toList == (putI (smS (s.extract 0 (s.size - 4)))).toList) = rightB s by simp [rightB, h4])
      go_enter Try.func5, Try.ntmps5
      go_wp2_with fail
      (with_reducible refine (awake_any _).mono ?_); rintro _ w1 ⟨rfl, hb1⟩
      go_wp2_with fail
      (with_reducible refine (sum_one _ s _ hs1.out (by simp [go_sem])).mono ?_); rintro _ w' ⟨rfl, rfl⟩
      go_wp2
      refine Ord.wp_region_ord (fun _ => True) [([0, 1, 2, 3, 4, 5, 6, 7, 8, 9, 10, 11, 12, 13], 14), ([], 15)] [16, 17, 18] (by kernel_rfl) (by kernel_rfl) trivial ?_
      refine Ord.wpOrd_seg [_, _, _, _, _, _, _, _, _, _, _, _, _, _] _ rfl rfl ?_
      simp only [List.getElem_toArray, List.getElem_cons_zero, List.getElem_cons_succ]
      repeat go_big_quiet_step (fail)
      refine wpQuiet_nil ?_
      go_wp2_with fail
      (with_reducible refine (rsum_any _ _ hex.out).mono ?_); rintro _ w2 ⟨rfl, rfl⟩
      go_wp2
      refine ⟨trivial, ?_⟩
      refine Ord.wpOrd_seg [] _ rfl rfl ?_
      simp only [List.getElem_toArray, List.getElem_cons_zero, List.getElem_cons_succ]
      refine wpQuiet_nil ?_
      go_wp2_with fail
      (with_reducible refine (rput_any _ _ hrp0 hrp1).mono ?_); rintro _ w2 ⟨rfl, hb2⟩
      go_wp2
      refine ⟨trivial, ?_⟩
      refine Ord.wpOrd_last [_, _, _] rfl ?_
      simp only [List.getElem_toArray, List.getElem_cons_zero, List.getElem_cons_succ]
      repeat go_big_quiet_step (fail)
      refine wpQuiet_nil ?_
      rw [HB.out]
      go_wp2_with fail
      (with_reducible refine (right_any _ _ hs1.out).mono ?_); rintro _ w3 ⟨rfl, hb3⟩
      go_wp2_with fail
      (with_reducible refine (put_any _ _ hr0 hr1).mono ?_); rintro _ w4 ⟨rfl, hb4⟩
      go_wp2_with fail
      (with_reducible refine (right_any _ _ hsz2.out).mono ?_); rintro _ w5 ⟨rfl, hb5⟩
      rw [HS.out]
      go_wp2_with fail
      (with_reducible refine (put_any _ _ hx0 hx1).mono ?_); rintro _ w6 ⟨rfl, hb6⟩
      go_wp2_with fail
      (with_reducible refine (right_any _ _ hsz1.out).mono ?_); rintro _ w7 ⟨rfl, hb7⟩
      rw [HP.out]
      go_wp2
      go_ret
      exact ⟨rfl, bthen (bthen (bthen (bthen (bthen (bthen (balloc hb1 _).drew hb2) hb3) hb4) hb5) hb6) hb7⟩
    · have hgg : decide (4 ≤ (s.size : Int)) = false := by simp; omega
      have HB := Lib.hid (show rightB s = false by simp [rightB, h4])
      go_enter Try.func5, Try.ntmps5
      go_wp2_with fail
      (with_reducible refine (awake_any _).mono ?_); rintro _ w1 ⟨rfl, hb1⟩
      go_wp2_with fail
      (with_reducible refine (sum_one _ s _ hs1.out (by simp [go_sem])).mono ?_); rintro _ w' ⟨rfl, rfl⟩
      go_wp2
      go_quiet (fail)
      go_wp2_with fail
      (with_reducible refine (right_any _ _ hs1.out).mono ?_); rintro _ w3 ⟨rfl, hb3⟩
      rw [HB.out]
      go_wp2_with fail
      (with_reducible refine (put_any _ _ hr0 hr1).mono ?_); rintro _ w4 ⟨rfl, hb4⟩
      go_wp2_with fail
      (with_reducible refine (right_any _ _ hsz2.out).mono ?_); rintro _ w5 ⟨rfl, hb5⟩
      rw [HS.out]
      go_wp2_with fail
      (with_reducible refine (put_any _ _ hx0 hx1).mono ?_); rintro _ w6 ⟨rfl, hb6⟩
      go_wp2_with fail
      (with_reducible refine (right_any _ _ hsz1.out).mono ?_); rintro _ w7 ⟨rfl, hb7⟩
      rw [HP.out]
      go_wp2
      go_ret
      exact ⟨rfl, bthen (bthen (bthen (bthen (bthen (Ord.below_drewN (balloc hb1 _) _) hb3) hb4) hb5) hb6) hb7⟩
  · have hg : decide ((s.size : Int) > 400) = true := by simp; omega
    go_enter Try.func5, Try.ntmps5
    go_wp2_with fail
    (with_reducible refine (awake_any _).mono ?_); rintro _ w1 ⟨rfl, hb1⟩
    go_wp2_with fail
    (with_reducible refine (awake_any _).mono ?_); rintro _ w2 ⟨rfl, hb2⟩
    go_wp2
    go_ret
    exact ⟨rfl, hb1.trans (hb2.mono hb1.size)⟩


open Go.ChangeShapes Go.WideShapes Go.ChangeAt
open Go.ChangeMaps (open_string shut_string)
theorem crcEnds_own : ownKnob Try.prog.godebug = none := by kernel_rfl
theorem crcEnds_laidOut : laidOutB Try.prog = true := by kernel_rfl
set_option maxRecDepth 100000 in
theorem crcEnds_lifted (os : Os) (started : os.Started) (H : Type) (enc : TypeId × Value → H) :
    ReturnsInHanded {} Try.checked os 5 .any (Rows.crcEndsSpec.pre6 enc Try.prog Try.f5 Rows.crcEndsRow.domain false) (Rows.crcEndsSpec.post enc Try.prog Try.f5 false true false false) := by
  refine returnsInHanded_of_change (C := Try.checked) crcEnds_own started (by kernel_rfl) Try.func5
    (ChangeSpec.witness6 (enc := enc) (C := Try.checked) false ⟨#[], #[.string ⟨#[]⟩, .int .u32 0], []⟩ 8 (by kernel_rfl) (by kernel_rfl) (by kernel_rfl) (by kernel_rfl)) ?_
  intro W base args ds gs before hval0 hW hcnd _
  have hval : ∀ (j : Nat) t v, Try.f5.params[j]? = some t → args[j]? = some v → Value.okWide Try.prog W .any base t v := hval0
  have hW' := hW
  obtain ⟨p, q, hA0, hV, rfl, hfz, hnd⟩ := hW
  have hA : DataW.TrodAll enc Try.prog W 0 (fun _ => true) true Try.f5.params.toList args.toList ds p := hA0
  rw [Try.params5] at hA hval
  obtain ⟨v0, vs0, d0, ds0, p0, q0, hargs, rfl, rfl, h0, r0⟩ := trodAll_cons hA
  obtain ⟨v1, vs1, d1, ds1, p1, q1, rfl, rfl, rfl, h1, r1⟩ := trodAll_cons r0
  obtain ⟨rfl, rfl, rfl⟩ := trodAll_nil r1
  obtain rfl : args = #[v0, v1] := by cases args; simp_all
  obtain ⟨rfl, rfl⟩ := trodVars_none hV
  obtain ⟨a0, rfl, rfl, rfl, w0⟩ := open_string Try.underlying9 (hval 0 9 v0 rfl rfl) h0
  obtain ⟨a1, rfl, rfl, rfl, w1⟩ := open_int Try.underlying22 (hval 1 22 v1 rfl rfl) h1
  have w1' := w1
  simp [Lit.wf, show IntKind.u32.min = 0 from rfl, show IntKind.u32.max = 4294967295 from rfl] at w1'
  clear hA0 hval0
  refine (ends_walk a0 a1 W (by omega) (by omega)).mono fun e W' ⟨he, bel⟩ => ?_
  subst he
  exact ⟨_, rfl, _, _, _, [], _, [], hW', trodAll_mk1 (shut_bool Try.underlying4 _), (trodAll_cons_mk (shut_string Try.underlying9 w0) (trodAll_cons_mk (shut_int Try.underlying22 w1) trodAll_mk0)), rfl, bel.frame _, fun h => by cases h⟩

theorem crcEnds_holds : Rows.CrcEndsSaid :=
  OpenClaim.holds_of_wide 5 Try.f5 rfl rfl rfl rfl rfl rfl rfl ⟨rfl, rfl, rfl, rfl, rfl⟩ rfl rfl rfl rfl rfl (by kernel_rfl) Try.func5 (by kernel_rfl)
    (of_decide_eq_true (by kernel_rfl)) (by unfold Func.isWrapper; first | (rw [if_pos (by decide +kernel)]; kernel_rfl) | (rw [if_neg (by decide +kernel)]; exact ⟨rfl, rfl⟩))
    (fun os started H enc _ => crcEnds_lifted os started H enc)
#print axioms crcEnds_holds
end Go.Proofs.Ytbjolcinnhpebaa
