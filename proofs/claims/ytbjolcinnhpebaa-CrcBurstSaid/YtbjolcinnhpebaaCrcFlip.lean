/- The walk over the reference's Flip. -/
import Derived.Test.YtbjolcinnhpebaaCrcAwake
import Derived.Lib.ConvBytes
namespace Go.Proofs.Ytbjolcinnhpebaa
open Go.RowKit Crc
open Go.Lib (bytesWorld)

/-- A bit of a byte, the highest first, as a byte. -/
def unitB (j : Nat) : UInt8 := 128 >>> (UInt8.ofNat j)
/-- One round: is the mask's bit set, and is the place within the text? -/
def flipStep (l : List UInt8) (i : Nat) (top : Bool) : List UInt8 := if top && decide (i < 8 * l.length) then l.set (i / 8) (l.getD (i / 8) 0 ^^^ unitB (i % 8)) else l
def flipL (l : List UInt8) (p : Nat) (M : BitVec 32) : Nat → List UInt8
  | 0 => l
  | k + 1 => flipStep (flipL l p M k) (p + k) (M.getMsbD k)
theorem flipStep_length (l : List UInt8) (i : Nat) (top : Bool) : (flipStep l i top).length = l.length := by
  unfold flipStep; split <;> simp
theorem flipL_length (l : List UInt8) (p : Nat) (M : BitVec 32) (k : Nat) : (flipL l p M k).length = l.length := by
  induction k with
  | zero => rfl
  | succ k ih => rw [flipL, flipStep_length, ih]
/-- The mask behind k rounds. -/
def mkI (M : BitVec 32) (k : Nat) : Int := ((M <<< k).toNat : Int)
theorem mkI_range (M : BitVec 32) (k : Nat) : 0 ≤ mkI M k ∧ mkI M k < 4294967296 := bv_range _
theorem mkI_next (M : BitVec 32) (k : Nat) : 2 * mkI M k % 4294967296 = mkI M (k + 1) := by
  unfold mkI
  rw [Int.mul_comm, shl_int (M <<< k) 1 2 rfl, BitVec.shiftLeft_add]
theorem mkI_top (M : BitVec 32) (k : Nat) : decide (2147483648 ≤ mkI M k) = M.getMsbD k := by
  have hm : decide ((2147483648 : Int) ≤ ((M <<< k).toNat : Int)) = (M <<< k).msb := by
    rw [BitVec.msb_eq_decide, Bool.eq_iff_iff, decide_eq_true_iff, decide_eq_true_iff]
    omega
  unfold mkI
  rw [hm, BitVec.msb_shiftLeft]

/-- The bytes that are turned, in memory. -/
structure FlipAt (w : World) (n : Nat) (wr : World) (l : List UInt8) : Prop where
  below : Below w.heap.size w wr
  len : l.length = n
  cells : ∀ j, j < n → wr.cell? ⟨w.heap.size, j, none⟩ = some (.int .u8 (l.getD j 0).toNat)
  free : ∀ j, j < n → wr.frozen? ⟨w.heap.size, j, none⟩ = false
theorem flipAt_start (w : World) (s : ByteArray) : FlipAt w s.size (bytesWorld w 5 s) s.data.toList := by
  refine ⟨⟨rfl, rfl, rfl, by rw [Lib.bytesWorld_size]; omega, fun k hk => Lib.bytesWorld_at_old w _ s k hk⟩, Array.length_toList, fun j hj => Lib.bytesWorld_cell w _ s j hj, fun j hj => ?_⟩
  unfold World.frozen?
  rw [show (⟨w.heap.size, j, none⟩ : Addr).block = w.heap.size from rfl, Lib.bytesWorld_at_new]
  have : s.size ≤ (Lib.bytesCells w 5 s).size := by
    unfold Lib.bytesCells
    rw [Array.size_append, Array.size_map]
    exact Nat.le_add_right _ _
  simp; omega
theorem flipAt_set {w : World} {n : Nat} {wr : World} {l : List UInt8} (h : FlipAt w n wr l) (q : Nat) (hq : q < n) (b : UInt8) (x : Int) (hx : x = (b.toNat : Int)) :
    FlipAt w n (wr.setCell ⟨w.heap.size, q, none⟩ (.int .u8 x)) (l.set q b) := by
  subst hx
  refine ⟨h.below.setCell (Nat.le_refl _) _, by rw [List.length_set]; exact h.len, fun j hj => ?_, fun j hj => ?_⟩
  · have hl := h.len
    by_cases e : j = q
    · subst e
      rw [World.cell?_setCell_same _ _ _ (h.cells j hj)]
      simp [List.getD, hl, hj]
    · have hne : (⟨w.heap.size, q, none⟩ : Addr) ≠ ⟨w.heap.size, j, none⟩ := by intro h; cases h; exact e rfl
      rw [World.cell?_setCell_other (h := hne), h.cells j hj]
      simp [List.getD, List.getElem?_set_ne (Ne.symm e)]
  · rw [World.frozen?_setCell]; exact h.free j hj
theorem unitB_all : ∀ j : Fin 8, (128 / 2 ^ j.val : Nat) = (unitB j.val).toNat := by decide
theorem unitB_int (j : Nat) (h : j < 8) : ((128 / 2 ^ j : Nat) : Int) = ((unitB j).toNat : Int) := by rw [unitB_all ⟨j, h⟩]
theorem unit_next (j : Nat) : ((128 / 2 ^ j : Nat) : Int) / 2 = ((128 / 2 ^ (j + 1) : Nat) : Int) := by
  rw [Nat.pow_succ, ← Nat.div_div_eq_div_mul]; omega
theorem unit_range (j : Nat) : 0 ≤ ((128 / 2 ^ j : Nat) : Int) ∧ ((128 / 2 ^ j : Nat) : Int) ≤ 128 := by
  have := Nat.div_le_self 128 (2 ^ j)
  generalize 128 / 2 ^ j = z at *
  omega
def unI (j : Nat) : Int := ((128 / 2 ^ j : Nat) : Int)

theorem flip_xor (b : UInt8) (j : Nat) (h : j < 8) : Go.bits .xor .u8 (b.toNat : Int) (unI j) = ((b ^^^ unitB j).toNat : Int) := by
  rw [show unI j = ((unitB j).toNat : Int) from unitB_int j h, xor8, ofInt_byte, ofInt_byte]
  rfl
set_option maxRecDepth 100000 in
set_option maxHeartbeats 2000000 in
theorem flip_any (s : ByteArray) (p : Nat) (mask : Int) (w : World) (hs : s.size ≤ 400) (h1 : p ≤ 3200) (m0 : 0 ≤ mask) (m1 : mask < 4294967296) :
    Calls Try.prog 14 #[.string s, .int .i64 p, .int .u32 mask] w fun e w' => e = .returned (.string ⟨(flipL s.data.toList p (BitVec.ofInt 32 mask) 32).toArray⟩) ∧ Below w.heap.size w w' := by
  obtain ⟨M, hM⟩ : ∃ M : BitVec 32, M = BitVec.ofInt 32 mask := ⟨_, rfl⟩
  have hmk := bv_ofInt mask m0 m1
  rw [← hM] at hmk ⊢
  clear hM
  have HM := Lib.hid (show mask = mkI M 0 by rw [← hmk]; unfold mkI; rw [BitVec.shiftLeft_zero])
  clear hmk
  have HS := Lib.hid (flipAt_start w s)
  have hcv := Lib.run_convert_string_bytes (P := Try.prog) w 9 39 5 s Try.underlying9 Try.underlying39 Try.underlying5
  go_enter Try.func14, Try.ntmps14
  go_wp2
  clear hcv
  generalize bytesWorld w 5 s = w1 at HS ⊢
  generalize grownCap w s.size 0 5 = cap
  go_loopw [2, 8] (fun m i wr => ∃ k : Nat, k ≤ 32 ∧ i = .int .i64 k ∧ m = .int .u32 (mkI M k) ∧ FlipAt w s.size wr (flipL s.data.toList p M k)) (fun _ i _ => 32 - (intOf i).toNat)
  case atStart => exact ⟨0, by omega, rfl, by rw [← HM.out], HS.out⟩
  case round =>
    obtain ⟨k, hk, rfl, rfl, hF⟩ := hrel
    have HF := Lib.hid hF
    clear hF HS
    by_cases hlt : k < 32
    · have HN := Lib.hid (mkI_next M k)
      have hT := mkI_top M k
      cases htop : M.getMsbD k
      · rw [htop] at hT
        have HTOP := Lib.hid htop
        clear htop
        go_wp2
        go_roundw
        case rel => exact ⟨k + 1, by omega, by go_num, by rw [HN.out], by rw [flipL, HTOP.out]; exact HF.out⟩
        case measure => simp [intOf]; omega
      · rw [htop] at hT
        have HTOP := Lib.hid htop
        clear htop
        by_cases hin : p + k < 8 * s.size
        · have hI1 : decide ((p : Int) + (k : Int) < 0) = false := decide_eq_false (by omega)
          have hI2 : decide (8 * (s.size : Int) ≤ (p : Int) + (k : Int)) = false := decide_eq_false (by omega)
          go_wp2
          go_loop [11, 12] (fun u j => ∃ q : Nat, q ≤ (p + k) % 8 ∧ j = .int .i64 q ∧ u = .int .u8 (unI q)) (fun _ j => (p + k) % 8 - (intOf j).toNat)
          case atStart => exact ⟨0, by omega, rfl, rfl⟩
          case round =>
            obtain ⟨q, hq, rfl, rfl⟩ := hrel
            have hu := unit_range q
            obtain ⟨hu0, hu1⟩ := (show 0 ≤ unI q ∧ unI q ≤ 128 from hu)
            clear hu
            by_cases hql : q < (p + k) % 8
            · have HU := Lib.hid (show unI q / 2 = unI (q + 1) from unit_next q)
              have hq1 : (q : Int) < ((p : Int) + (k : Int)) % 8 := by omega
              go_wp2
              go_round
              case rel => exact ⟨q + 1, by omega, by go_num, by rw [HU.out]⟩
              case measure => simp [intOf]; omega
            · obtain rfl : q = (p + k) % 8 := by omega
              have hq1 : ¬ ((((p + k) % 8 : Nat) : Int) < ((p : Int) + (k : Int)) % 8) := by omega
              obtain ⟨q8, hq8⟩ : ∃ q8 : Nat, q8 = (p + k) / 8 := ⟨_, rfl⟩
              have hd : ((p : Int) + (k : Int)) / 8 = (q8 : Int) := by omega
              have hlt2 : q8 < s.size := by omega
              have hlt3 : (q8 : Int) < (s.size : Int) := by omega
              have HQ := Lib.hid hq8
              clear hq8
              have hc := HF.out.cells q8 hlt2
              have hf := HF.out.free q8 hlt2
              go_wp2
              go_roundw
              case rel =>
                refine ⟨k + 1, by omega, by go_num, by rw [HN.out], ?_⟩
                have e : flipL s.data.toList p M (k + 1) = (flipL s.data.toList p M k).set q8 ((flipL s.data.toList p M k).getD q8 0 ^^^ unitB ((p + k) % 8)) := by
                  rw [flipL, HTOP.out, HQ.out]; unfold flipStep
                  rw [if_pos (by have := HF.out.len; simp; omega)]
                rw [e]
                exact flipAt_set HF.out q8 hlt2 _ _ (flip_xor _ _ (by omega))
              case measure => simp [intOf]; omega
        · have hI1 : decide ((p : Int) + (k : Int) < 0) = false := decide_eq_false (by omega)
          have hI2 : decide (8 * (s.size : Int) ≤ (p : Int) + (k : Int)) = true := decide_eq_true (by omega)
          have HIN := Lib.hid hin
          clear hin
          go_wp2
          go_roundw
          case rel => exact ⟨k + 1, by omega, by go_num, by rw [HN.out], by rw [flipL, HTOP.out]; unfold flipStep; rw [flipL_length, if_neg (by simp; exact Nat.not_lt.1 HIN.out)]; exact HF.out⟩
          case measure => simp [intOf]; omega
    · obtain rfl : k = 32 := by omega
      have hb := HF.out.below
      have hcv := run_convert_bytes_back (P := Try.prog) wr 39 9 5 ⟨w.heap.size, 0, none⟩ cap (flipL s.data.toList p M 32) Try.underlying39 Try.underlying5 Try.underlying9
        (fun j hj => by
          have hj2 : j < s.size := by rw [HF.out.len] at hj; exact hj
          have e : (⟨w.heap.size, 0, none⟩ : Addr).add j = ⟨w.heap.size, j, none⟩ := by unfold Addr.add; split <;> simp_all
          rw [e, HF.out.cells j hj2]
          simp [List.getD, List.getElem?_eq_getElem hj])
      rw [HF.out.len] at hcv
      go_wp2
      go_ret
      exact ⟨rfl, hb⟩
end Go.Proofs.Ytbjolcinnhpebaa
