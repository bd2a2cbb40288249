/- Plain lemmas on the check sum: registers are bit vectors of 32 bits; nothing of the program stands here. -/
import Derived.Laws.BitsLemmas
import Derived.Laws.Bits
import Derived.Laws.StructEq
import Derived.Below
import Derived.Laws.BytesArg
namespace Go.Proofs.Yteidhbjfmmodhaa.Crc

/-- One step of a register, without an input bit. -/
def b1 (x : BitVec 32) : BitVec 32 := if x.msb then (x <<< 1) ^^^ 0x04C11DB7#32 else x <<< 1
def b8 (x : BitVec 32) : BitVec 32 := b1 (b1 (b1 (b1 (b1 (b1 (b1 (b1 x)))))))
/-- A register behind a byte. -/
def tk (x : BitVec 32) (b : BitVec 8) : BitVec 32 := b8 (x ^^^ (b.setWidth 32 <<< 24))
/-- A register behind bytes. -/
def rn (x : BitVec 32) : List UInt8 → BitVec 32
  | [] => x
  | b :: l => rn (tk x b.toBitVec) l
/-- The sum of bytes. -/
def sm (l : List UInt8) : BitVec 32 := ~~~ (rn (~~~ 0#32) l)

theorem b1_xor (x y : BitVec 32) : b1 (x ^^^ y) = b1 x ^^^ b1 y := by
  unfold b1
  rw [BitVec.msb_xor]
  cases x.msb <;> cases y.msb <;> simp [BitVec.shiftLeft_xor_distrib]
  · rw [BitVec.xor_assoc]
  · rw [BitVec.xor_assoc, BitVec.xor_assoc, BitVec.xor_comm (y <<< 1)]
  · ext i; simp; grind
theorem b8_xor (x y : BitVec 32) : b8 (x ^^^ y) = b8 x ^^^ b8 y := by simp only [b8, b1_xor]

theorem b1_small (x : BitVec 32) (h : x.toNat < 2147483648) : (b1 x).toNat = 2 * x.toNat := by
  have : x.msb = false := by rw [BitVec.msb_eq_false_iff_two_mul_lt]; omega
  unfold b1; rw [this]
  simp only [Bool.false_eq_true, if_false, BitVec.toNat_shiftLeft, Nat.shiftLeft_eq]
  omega
theorem b8_small (x : BitVec 32) (h : x.toNat < 16777216) : b8 x = x <<< 8 := by
  have h1 := b1_small x (by omega)
  have h2 := b1_small (b1 x) (by omega)
  have h3 := b1_small (b1 (b1 x)) (by omega)
  have h4 := b1_small (b1 (b1 (b1 x))) (by omega)
  have h5 := b1_small (b1 (b1 (b1 (b1 x)))) (by omega)
  have h6 := b1_small (b1 (b1 (b1 (b1 (b1 x))))) (by omega)
  have h7 := b1_small (b1 (b1 (b1 (b1 (b1 (b1 x)))))) (by omega)
  have h8 := b1_small (b1 (b1 (b1 (b1 (b1 (b1 (b1 x))))))) (by omega)
  apply BitVec.eq_of_toNat_eq
  simp only [b8, BitVec.toNat_shiftLeft, Nat.shiftLeft_eq]
  omega

theorem mask_bits : ∀ j : Fin 32, (16777215#32)[j.val] = decide (j.val < 24) := by decide
theorem mask_bit (i : Nat) (hi : i < 32) : (16777215#32)[i] = decide (i < 24) := mask_bits ⟨i, hi⟩
/-- The highest byte, and the rest. -/
theorem parts (x : BitVec 32) : x = ((x >>> 24).setWidth 8).setWidth 32 <<< 24 ^^^ (x &&& 0xFFFFFF#32) := by
  ext i hi
  simp [mask_bit]
  by_cases h : i < 24
  · simp [h]
  · simp [h, show i - 24 < 8 by omega, show 24 + (i - 24) = i by omega, BitVec.getLsbD_eq_getElem hi]
theorem low_small (x : BitVec 32) : (x &&& 0xFFFFFF#32).toNat < 16777216 := by
  rw [BitVec.toNat_and]
  exact Nat.lt_of_le_of_lt Nat.and_le_right (by decide)
theorem shl_low (x : BitVec 32) : (x &&& 0xFFFFFF#32) <<< 8 = x <<< 8 := by
  ext i hi
  simp [mask_bit]
  by_cases h : i < 8
  · simp [h]
  · simp [show i - 8 < 24 by omega]
/-- What a table would say: eight steps of the highest byte. -/
def st (b : BitVec 8) : BitVec 32 := b8 (b.setWidth 32 <<< 24)
theorem tk_steps (x : BitVec 32) (b : BitVec 8) : tk x b = x <<< 8 ^^^ st ((x >>> 24).setWidth 8 ^^^ b) := by
  have h1 : x ^^^ (b.setWidth 32 <<< 24) = (((x >>> 24).setWidth 8 ^^^ b).setWidth 32 <<< 24) ^^^ (x &&& 0xFFFFFF#32) := by
    have := parts x
    generalize (x >>> 24).setWidth 8 = h at *
    generalize x &&& 0xFFFFFF#32 = l at *
    subst this
    rw [BitVec.setWidth_xor, BitVec.shiftLeft_xor_distrib, BitVec.xor_assoc, BitVec.xor_assoc, BitVec.xor_comm l]
  unfold tk st
  rw [h1, b8_xor, b8_small _ (low_small x), shl_low, BitVec.xor_comm]

/-- A step with an input bit. -/
def bt (x : BitVec 32) (one : Bool) : BitVec 32 := if (x.msb != one) then (x <<< 1) ^^^ 0x04C11DB7#32 else x <<< 1
def top (one : Bool) : BitVec 32 := if one then 0x80000000#32 else 0#32
theorem bt_b1 (x : BitVec 32) (one : Bool) : bt x one = b1 (x ^^^ top one) := by
  unfold bt b1 top
  rw [BitVec.msb_xor, BitVec.shiftLeft_xor_distrib]
  have ht : (0x80000000#32).msb = true := by decide
  cases one <;> cases x.msb <;> simp [ht]
/-- So many steps. -/
def itb : Nat → BitVec 32 → BitVec 32
  | 0, x => x
  | k + 1, x => b1 (itb k x)
theorem itb8 (x : BitVec 32) : itb 8 x = b8 x := rfl

theorem top_bits : ∀ j : Fin 32, (0x80000000#32)[j.val] = decide (j.val = 31) := by decide
/-! The same, as the program's numbers. -/
def stI (b : Int) : Int := ((st (BitVec.ofInt 8 b)).toNat : Int)
def tkI (x b : Int) : Int := ((tk (BitVec.ofInt 32 x) (BitVec.ofInt 8 b)).toNat : Int)

theorem bv_range (x : BitVec 32) : 0 ≤ (x.toNat : Int) ∧ (x.toNat : Int) < 4294967296 := by
  have := x.isLt; omega
theorem ofInt_toNat (x : BitVec 32) : BitVec.ofInt 32 (x.toNat : Int) = x := by
  apply BitVec.eq_of_toInt_eq; simp [BitVec.toInt_eq_toNat_bmod]
theorem xor32 (a b : Int) : Go.bits .xor .u32 a b = ((BitVec.ofInt 32 a ^^^ BitVec.ofInt 32 b).toNat : Int) := by
  have := bv_range (BitVec.ofInt 32 a ^^^ BitVec.ofInt 32 b)
  unfold Go.bits
  simp only [IntKind.wrap_u32]
  show ((BitVec.ofInt 32 a ^^^ BitVec.ofInt 32 b).toNat : Int) % 4294967296 = _
  omega
theorem xor8 (a b : Int) : Go.bits .xor .u8 a b = ((BitVec.ofInt 8 a ^^^ BitVec.ofInt 8 b).toNat : Int) := by
  have := (BitVec.ofInt 8 a ^^^ BitVec.ofInt 8 b).isLt
  unfold Go.bits
  simp only [IntKind.wrap_u8]
  show ((BitVec.ofInt 8 a ^^^ BitVec.ofInt 8 b).toNat : Int) % 256 = _
  omega
theorem and32 (a b : Int) : Go.bits .and .u32 a b = ((BitVec.ofInt 32 a &&& BitVec.ofInt 32 b).toNat : Int) := by
  have := bv_range (BitVec.ofInt 32 a &&& BitVec.ofInt 32 b)
  unfold Go.bits
  simp only [IntKind.wrap_u32]
  show ((BitVec.ofInt 32 a &&& BitVec.ofInt 32 b).toNat : Int) % 4294967296 = _
  omega
theorem shl_int (x : BitVec 32) (k : Nat) (m : Int) (hm : m = 2 ^ k) : ((x.toNat : Int) * m) % 4294967296 = ((x <<< k).toNat : Int) := by
  subst hm
  have e : ((2 ^ 32 : Nat) : Int) = 4294967296 := rfl
  rw [BitVec.toNat_shiftLeft, Nat.shiftLeft_eq, Int.natCast_emod, Int.natCast_mul, Int.natCast_pow, e]
  rfl

theorem bv_ofInt (x : Int) (h0 : 0 ≤ x) (h1 : x < 4294967296) : ((BitVec.ofInt 32 x).toNat : Int) = x := by
  rw [BitVec.toNat_ofInt]
  have e : ((2 ^ 32 : Nat) : Int) = 4294967296 := rfl
  rw [e]; omega
theorem bv_ofInt8 (x : Int) (h0 : 0 ≤ x) (h1 : x < 256) : ((BitVec.ofInt 8 x).toNat : Int) = x := by
  rw [BitVec.toNat_ofInt]
  have e : ((2 ^ 8 : Nat) : Int) = 256 := rfl
  rw [e]; omega
/-- The byte that the program makes ready. -/
theorem ready_byte (b : Int) (h0 : 0 ≤ b) (h1 : b < 256) : (((BitVec.ofInt 8 b).setWidth 32 <<< 24).toNat : Int) = b * 16777216 := by
  have := bv_ofInt8 b h0 h1
  rw [BitVec.toNat_shiftLeft, Nat.shiftLeft_eq, BitVec.toNat_setWidth]
  omega
theorem and_top (x : BitVec 32) : (x &&& 0x80000000#32) = if x.msb then 0x80000000#32 else 0#32 := by
  ext i hi
  have h : (0x80000000#32)[i] = decide (i = 31) := top_bits ⟨i, hi⟩
  have hm : x.msb = x[31] := by simp [BitVec.msb_eq_getLsbD_last]
  rw [BitVec.getElem_and, h, hm]
  by_cases e : i = 31
  · subst e; cases hx : x[31] <;> simp [top_bits ⟨31, by omega⟩]
  · cases hx : x[31] <;> simp [e, h]
theorem test_top (x : BitVec 32) : (Go.bits .and .u32 (x.toNat : Int) 2147483648 != 0) = x.msb := by
  rw [and32, ofInt_toNat, show BitVec.ofInt 32 2147483648 = 0x80000000#32 from rfl, and_top]
  cases x.msb <;> rfl
theorem b1_yes (x : BitVec 32) (h : x.msb = true) : Go.bits .xor .u32 ((x.toNat : Int) * 2 % 4294967296) 79764919 = ((b1 x).toNat : Int) := by
  rw [shl_int x 1 2 rfl, xor32, ofInt_toNat, show BitVec.ofInt 32 79764919 = 0x04C11DB7#32 from rfl]
  unfold b1; rw [h]; rfl
theorem b1_no (x : BitVec 32) (h : x.msb = false) : (x.toNat : Int) * 2 % 4294967296 = ((b1 x).toNat : Int) := by
  rw [shl_int x 1 2 rfl]
  unfold b1; rw [h]; rfl
theorem take_int (x b : Int) (h0 : 0 ≤ x) (h1 : x < 4294967296) : Go.bits .xor .u32 (x * 256 % 4294967296) (stI (Go.bits .xor .u8 (x / 16777216 % 256) b)) = tkI x b := by
  obtain ⟨X, rfl⟩ : ∃ X : BitVec 32, x = (X.toNat : Int) := ⟨BitVec.ofInt 32 x, (bv_ofInt x h0 h1).symm⟩
  rw [shl_int X 8 256 rfl, xor32, ofInt_toNat]
  unfold stI tkI
  rw [ofInt_toNat, ofInt_toNat, tk_steps, xor8]
  have e : BitVec.ofInt 8 ((X.toNat : Int) / 16777216 % 256) = (X >>> 24).setWidth 8 := by
    apply BitVec.eq_of_toNat_eq
    rw [BitVec.toNat_setWidth, BitVec.toNat_ushiftRight, Nat.shiftRight_eq_div_pow]
    have := bv_ofInt8 ((X.toNat : Int) / 16777216 % 256) (by omega) (by omega)
    omega
  have e8 : ∀ y : BitVec 8, BitVec.ofInt 8 (y.toNat : Int) = y := fun y => by
    apply BitVec.eq_of_toNat_eq
    have := bv_ofInt8 (y.toNat : Int) (by omega) (by have := y.isLt; omega)
    omega
  rw [e, e8]
theorem tkI_range (x b : Int) : 0 ≤ tkI x b ∧ tkI x b < 4294967296 := bv_range _
theorem stI_range (b : Int) : 0 ≤ stI b ∧ stI b < 4294967296 := bv_range _
theorem xor8_range (a b : Int) : 0 ≤ Go.bits .xor .u8 a b ∧ Go.bits .xor .u8 a b < 256 := by
  rw [xor8]; have := (BitVec.ofInt 8 a ^^^ BitVec.ofInt 8 b).isLt; omega

theorem rn_append (x : BitVec 32) (l m : List UInt8) : rn x (l ++ m) = rn (rn x l) m := by
  induction l generalizing x with
  | nil => rfl
  | cons b l ih => exact ih _

/-- What parts are together. -/
def cat (l : List ByteArray) : List UInt8 := (l.map fun s => s.data.toList).flatten
theorem cat_take (l : List ByteArray) (k : Nat) (h : k < l.length) : cat (l.take (k + 1)) = cat (l.take k) ++ (l[k]).data.toList := by
  unfold cat
  rw [List.take_succ_eq_append_getElem h, List.map_append, List.flatten_append]
  simp
/-- .. as one string. -/
def catB (l : List ByteArray) : ByteArray := ⟨(cat l).toArray⟩
theorem catB_list (l : List ByteArray) : (catB l).data.toList = cat l := rfl
theorem catB_take (l : List ByteArray) (k : Nat) (h : k < l.length) : catB (l.take (k + 1)) = catB (l.take k) ++ l[k] := by
  have e : (catB (l.take (k + 1))).data.toList = (catB (l.take k) ++ l[k]).data.toList := by
    rw [catB_list, cat_take l k h, ByteArray.data_append, Array.toList_append]; rfl
  cases hx : catB (l.take (k + 1)) with
  | mk x => cases hy : catB (l.take k) ++ l[k] with
    | mk y =>
      rw [hx, hy] at e
      simp only [Array.toList_inj] at e
      rw [e]
theorem catB_nil : catB [] = ⟨#[]⟩ := rfl
theorem rn_snoc (x : BitVec 32) (l : List UInt8) (b : UInt8) : rn x (l ++ [b]) = tk (rn x l) b.toBitVec := by
  rw [rn_append]; rfl
theorem take_snoc (s : ByteArray) (k : Nat) (h : k < s.size) : s.data.toList.take (k + 1) = s.data.toList.take k ++ [s[k]] := by
  rw [List.take_succ_eq_append_getElem (by simpa using h)]; rfl
theorem ofInt_byte (b : UInt8) : BitVec.ofInt 8 (b.toNat : Int) = b.toBitVec := by
  apply BitVec.eq_of_toNat_eq
  have := bv_ofInt8 (b.toNat : Int) (by omega) (by have := b.toNat_lt; omega)
  have h : b.toBitVec.toNat = b.toNat := rfl
  omega
theorem tkI_step (x : BitVec 32) (l : List UInt8) (b : UInt8) : tkI ((rn x l).toNat : Int) (b.toNat : Int) = ((rn x (l ++ [b])).toNat : Int) := by
  unfold tkI
  rw [ofInt_toNat, ofInt_byte, rn_snoc]
/-- The sum, as the program's number. -/
def smI (l : List UInt8) : Int := ((sm l).toNat : Int)
open Go.RowKit in
theorem bthen {W a b : World} (h : Below W.heap.size W a) (k : Below a.heap.size a b) : Below W.heap.size W b := h.trans (k.mono h.size)
open Go.RowKit in
theorem balloc {W a : World} (h : Below W.heap.size W a) (o : Obj) : Below W.heap.size W (a.alloc o) := h.alloc h.size o
open Go.RowKit in
/-- A cell that was there reads as it did. -/
theorem keep {W w1 : World} {a : Addr} {v : Value} (h : W.cell? a = some v) (hb : Below W.heap.size W w1) : w1.cell? a = some v := by
  have hlt : a.block < W.heap.size := by
    rcases Nat.lt_or_ge a.block W.heap.size with h1 | h1
    · exact h1
    · unfold World.cell? at h
      rw [Array.getElem?_eq_none h1] at h
      cases h
  rw [hb.cell hlt]; exact h
/-- The four bytes of a sum. -/
def putI (x : Int) : ByteArray := strOfNums [x / 16777216, x / 65536 % 256, x / 256 % 256, x % 256]
theorem putI_size (x : Int) : (putI x).size = 4 := by rw [putI, strOfNums_size]; rfl
theorem putI_inj (x y : Int) (hx0 : 0 ≤ x) (hx1 : x < 4294967296) (hy0 : 0 ≤ y) (hy1 : y < 4294967296) (h : putI x = putI y) : x = y := by
  have h' : (putI x).data.toList = (putI y).data.toList := by rw [h]
  unfold putI at h'
  rw [strOfNums_data, strOfNums_data] at h'
  simp only [List.map_cons, List.map_nil, List.cons.injEq, and_true] at h'
  obtain ⟨h1, h2, h3, h4⟩ := h'
  have g : ∀ a b : Int, 0 ≤ a → a < 256 → 0 ≤ b → b < 256 → UInt8.ofNat a.toNat = UInt8.ofNat b.toNat → a = b := by
    intro a b ha0 ha1 hb0 hb1 e
    have := congrArg UInt8.toNat e
    rw [UInt8.toNat_ofNat', UInt8.toNat_ofNat'] at this
    omega
  have := g _ _ (by omega) (by omega) (by omega) (by omega) h1
  have := g _ _ (by omega) (by omega) (by omega) (by omega) h2
  have := g _ _ (by omega) (by omega) (by omega) (by omega) h3
  have := g _ _ (by omega) (by omega) (by omega) (by omega) h4
  omega
/-- Two strings, as the program's == reads. -/
theorem strEq (a b : ByteArray) : (a.toList == b.toList) = decide (a = b) := by
  rw [ByteArray.toList_eq, ByteArray.toList_eq, Bool.eq_iff_iff, beq_iff_eq, decide_eq_true_eq]
  constructor
  · intro h
    obtain ⟨⟨x⟩⟩ := a
    obtain ⟨⟨y⟩⟩ := b
    simp only at h
    rw [h]
  · intro h; rw [h]
/-- The sum of a string. -/
def smS (s : ByteArray) : Int := smI s.data.toList
theorem not_int (x : BitVec 32) : Go.bits .xor .u32 4294967295 (x.toNat : Int) = ((~~~ x).toNat : Int) := by
  rw [xor32, ofInt_toNat, show BitVec.ofInt 32 4294967295 = BitVec.allOnes 32 from rfl, BitVec.allOnes_xor]
theorem ones_int : (4294967295 : Int) = (((~~~ 0#32) : BitVec 32).toNat : Int) := rfl
/-- So many bytes 0 behind. -/
def nz (x : BitVec 32) : Nat → BitVec 32
  | 0 => x
  | k + 1 => tk (nz x k) 0#8
def nzI (x : Int) (k : Nat) : Int := ((nz (~~~ (BitVec.ofInt 32 x)) k).toNat : Int)
def noughtsI (x : Int) (n : Nat) : Int := ((~~~ (nz (~~~ (BitVec.ofInt 32 x)) n)).toNat : Int)
theorem nzI_range (x : Int) (k : Nat) : 0 ≤ nzI x k ∧ nzI x k < 4294967296 := bv_range _
theorem nzI_zero (x : Int) (h0 : 0 ≤ x) (h1 : x < 4294967296) : Go.bits .xor .u32 4294967295 x = nzI x 0 := by
  have := not_int (BitVec.ofInt 32 x)
  rw [bv_ofInt x h0 h1] at this; exact this
theorem nzI_succ (x : Int) (k : Nat) : tkI (nzI x k) 0 = nzI x (k + 1) := by
  unfold tkI nzI; rw [ofInt_toNat]; rfl
theorem noughtsI_eq (x : Int) (k : Nat) : Go.bits .xor .u32 4294967295 (nzI x k) = noughtsI x k := not_int _
theorem noughtsI_zero (x : Int) (h0 : 0 ≤ x) (h1 : x < 4294967296) : noughtsI x 0 = x := by
  unfold noughtsI nz; rw [BitVec.not_not, bv_ofInt x h0 h1]
/-! What the reference does with a byte: bit after bit. -/
def bs (x : BitVec 32) (b : BitVec 8) : Nat → BitVec 32
  | 0 => x
  | j + 1 => bt (bs x b j) (b.getMsbD j)
theorem bs_lin (x : BitVec 32) (b : BitVec 8) (j : Nat) : bs x b j = itb j x ^^^ bs 0#32 b j := by
  induction j with
  | zero => simp [bs, itb]
  | succ j ih =>
    simp only [bs, itb, bt_b1]
    rw [ih, BitVec.xor_assoc, b1_xor]
theorem bs_all : ∀ b : Fin 256, bs 0#32 (BitVec.ofFin b) 8 = b8 ((BitVec.ofFin b : BitVec 8).setWidth 32 <<< 24) := by decide +kernel
theorem bs_tk (x : BitVec 32) (b : BitVec 8) : bs x b 8 = tk x b := by
  have := bs_all b.toFin
  rw [bs_lin, itb8]
  unfold tk
  rw [b8_xor]
  exact congrArg (b8 x ^^^ ·) this
theorem rest_all : ∀ b : Fin 256, ∀ j : Fin 8, decide (2 ^ (7 - j.val) ≤ b.val % 2 ^ (8 - j.val)) = (BitVec.ofFin b : BitVec 8).getMsbD j.val := by decide +kernel
theorem rest_bit (b : BitVec 8) (j : Nat) (h : j < 8) : decide (2 ^ (7 - j) ≤ b.toNat % 2 ^ (8 - j)) = b.getMsbD j := rest_all b.toFin ⟨j, h⟩
theorem rest_next_all : ∀ b : Fin 256, ∀ j : Fin 8, b.val % 2 ^ (8 - j.val) % 2 ^ (7 - j.val) = b.val % 2 ^ (7 - j.val) := by decide +kernel
theorem rest_next (b : BitVec 8) (j : Nat) (h : j < 8) : b.toNat % 2 ^ (8 - j) % 2 ^ (7 - j) = b.toNat % 2 ^ (7 - j) := rest_next_all b.toFin ⟨j, h⟩
/-- unit, rest and register behind j bits, as the program's numbers. -/
def unitI (j : Nat) : Int := if j < 8 then 2 ^ (7 - j) else 0
def restI (b : UInt8) (j : Nat) : Int := ((b.toNat % 2 ^ (8 - j) : Nat) : Int)
def bsI (x : BitVec 32) (b : UInt8) (j : Nat) : Int := ((bs x b.toBitVec j).toNat : Int)
def btI (x : Int) (one : Bool) : Int := ((bt (BitVec.ofInt 32 x) one).toNat : Int)
theorem unitI_all : ∀ j : Fin 8, 0 < unitI j.val ∧ unitI j.val ≤ 128 ∧ unitI j.val / 2 = unitI (j.val + 1) := by decide +kernel
theorem unitI_fact (j : Nat) (h : j < 8) : 0 < unitI j ∧ unitI j ≤ 128 ∧ unitI j / 2 = unitI (j + 1) := unitI_all ⟨j, h⟩
theorem unitI_end : unitI 8 = 0 := rfl
theorem pow_le (j : Nat) : (2 : Nat) ^ (8 - j) ≤ 256 := Nat.pow_le_pow_right (n := 2) (by omega) (show 8 - j ≤ 8 by omega)
theorem restI_range (b : UInt8) (j : Nat) : 0 ≤ restI b j ∧ restI b j < 256 := by
  unfold restI
  have := Nat.mod_lt b.toNat (show 0 < 2 ^ (8 - j) from Nat.pow_pos (by omega))
  have := pow_le j
  generalize b.toNat % 2 ^ (8 - j) = r at *
  generalize (2 : Nat) ^ (8 - j) = q at *
  omega
theorem restI_zero (b : UInt8) : (b.toNat : Int) = restI b 0 := by
  unfold restI
  have := b.toNat_lt
  rw [show (2 : Nat) ^ (8 - 0) = 256 from rfl, Nat.mod_eq_of_lt (by omega)]
theorem unitI_cast (j : Nat) (h : j < 8) : unitI j = ((2 ^ (7 - j) : Nat) : Int) := by
  unfold unitI; rw [if_pos h, Int.natCast_pow]; rfl
theorem restI_test (b : UInt8) (j : Nat) (h : j < 8) : decide (unitI j ≤ restI b j) = b.toBitVec.getMsbD j := by
  rw [← rest_bit b.toBitVec j h, unitI_cast j h]
  unfold restI
  have e : b.toBitVec.toNat = b.toNat := rfl
  rw [e]
  simp only [Int.ofNat_le]
theorem restI_next (b : UInt8) (j : Nat) (h : j < 8) : restI b j % unitI j = restI b (j + 1) := by
  rw [unitI_cast j h]
  unfold restI
  have := rest_next b.toBitVec j h
  have e : b.toBitVec.toNat = b.toNat := rfl
  rw [e] at this
  rw [← Int.natCast_emod, this, show 8 - (j + 1) = 7 - j from by omega]
theorem bsI_range (x : BitVec 32) (b : UInt8) (j : Nat) : 0 ≤ bsI x b j ∧ bsI x b j < 4294967296 := bv_range _
theorem bsI_next (x : BitVec 32) (b : UInt8) (j : Nat) (h : j < 8) : btI (bsI x b j) (decide (unitI j ≤ restI b j)) = bsI x b (j + 1) := by
  unfold btI bsI
  rw [ofInt_toNat, restI_test b j h]; rfl
/-- The register behind the first k bytes. -/
def rnI (x : BitVec 32) (l : List UInt8) : Int := ((rn x l).toNat : Int)
theorem rnI_range (x : BitVec 32) (l : List UInt8) : 0 ≤ rnI x l ∧ rnI x l < 4294967296 := bv_range _
theorem bsI_end (x : BitVec 32) (l : List UInt8) (b : UInt8) : bsI (rn x l) b 8 = rnI x (l ++ [b]) := by
  unfold bsI rnI
  rw [bs_tk, rn_snoc]
theorem bt_int (x : Int) (one : Bool) (h0 : 0 ≤ x) (h1 : x < 4294967296) :
    btI x one = if (decide (2147483648 ≤ x) != one) = true then Go.bits .xor .u32 (2 * x % 4294967296) 79764919 else 2 * x % 4294967296 := by
  obtain ⟨X, rfl⟩ : ∃ X : BitVec 32, x = (X.toNat : Int) := ⟨BitVec.ofInt 32 x, (bv_ofInt x h0 h1).symm⟩
  have hm : decide ((2147483648 : Int) ≤ (X.toNat : Int)) = X.msb := by
    rw [BitVec.msb_eq_decide]
    simp only [Nat.add_one_sub_one]
    rw [Bool.eq_iff_iff, decide_eq_true_iff, decide_eq_true_iff]
    omega
  unfold btI
  rw [ofInt_toNat, hm, Int.mul_comm 2, shl_int X 1 2 rfl, xor32, ofInt_toNat, show BitVec.ofInt 32 79764919 = 0x04C11DB7#32 from rfl]
  unfold bt
  split <;> rfl
theorem not_sub (x : BitVec 32) : 4294967295 - (x.toNat : Int) = ((~~~ x).toNat : Int) := by
  rw [BitVec.toNat_not]
  have := x.isLt
  omega
end Go.Proofs.Yteidhbjfmmodhaa.Crc
