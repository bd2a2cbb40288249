/- A log as a plain machine. -/
import Derived.Test.YteidhbjfmmodhaaDskPure
namespace Go.Proofs.Yteidhbjfmmodhaa
open Fr Crc

def headS : ByteArray := ⟨#[104, 101, 97, 100]⟩
/-- The generation of an area's head; 0: it has none. -/
def headN (d : D) (area : Nat) : Nat :=
  if okB (sect d.now (area * d.half)) && (seqOf (sect d.now (area * d.half)) == 0 && decide (payOf (sect d.now (area * d.half)) = headS)) then genOf (sect d.now (area * d.half)) else 0
/-- A record is written, and flushed. -/
def lay1 (d : D) (area gen seq : Nat) (s : ByteArray) : D := d.write (area * d.half + seq) (secB gen seq s d.size)
def lay (d : D) (area gen seq : Nat) (s : ByteArray) : D := if d.fuse.stop then lay1 d area gen seq s else (lay1 d area gen seq s).flush
def layOk (d : D) (area gen seq : Nat) (s : ByteArray) : Bool := !d.fuse.stop && !(lay1 d area gen seq s).fuse.stop
def layE (d : D) (area gen seq : Nat) (s : ByteArray) : Nat := if layOk d area gen seq s then 0 else 2
/-- A record that counts. -/
def good (d : D) (area gen seq : Nat) : Bool :=
  okB (sect d.now (area * d.half + seq)) && (genOf (sect d.now (area * d.half + seq)) == gen && seqOf (sect d.now (area * d.half + seq)) == seq)
def recPay (d : D) (area seq : Nat) : ByteArray := payOf (sect d.now (area * d.half + seq))
def recsFrom (d : D) (area gen : Nat) : Nat → Nat → List ByteArray
  | _, 0 => []
  | seq, fuel + 1 => if good d area gen seq then recPay d area seq :: recsFrom d area gen (seq + 1) fuel else []
def recsOf (d : D) (area gen : Nat) : List ByteArray := recsFrom d area gen 1 (d.half - 1)
theorem recsFrom_length (d : D) (area gen : Nat) : ∀ fuel seq, (recsFrom d area gen seq fuel).length ≤ fuel
  | 0, _ => Nat.le_refl _
  | fuel + 1, seq => by
    unfold recsFrom
    split
    · simp only [List.length_cons]; have := recsFrom_length d area gen fuel (seq + 1); omega
    · exact Nat.zero_le _

/-- A log: its area, its generation, its records, and whether it is broken. -/
structure Lg where
  area : Nat
  gen : Nat
  recs : List ByteArray
  broken : Bool

def opn1 (d : D) : D := if d.opn.isSome then d.flush else d
def areaN (d : D) : Nat := if headN d 0 < headN d 1 then 1 else 0
def genN (d : D) : Nat := if headN d 0 < headN d 1 then headN d 1 else headN d 0
/-- The disk behind an opening. -/
def openD (d : D) : D :=
  if d.opn.isSome && d.fuse.stop then d.flush
  else if genN (opn1 d) = 0 then lay (opn1 d) 0 1 0 headS else opn1 d
def openOk (d : D) : Bool :=
  if d.opn.isSome && d.fuse.stop then false
  else if genN (opn1 d) = 0 then layOk (opn1 d) 0 1 0 headS else true
def openGen (d : D) : Nat := if genN (opn1 d) = 0 then 1 else genN (opn1 d)
def openL (d : D) : Lg := { area := areaN (opn1 d), gen := openGen d, recs := recsOf (openD d) (areaN (opn1 d)) (openGen d), broken := false }

def roomN (d : D) (l : Lg) : Int := (d.half : Int) - 1 - l.recs.length
def mayE (d : D) (l : Lg) (s : ByteArray) : Nat := if l.broken then 2 else if (d.size : Int) - 14 < s.size then 5 else 0
def appE (d : D) (l : Lg) (s : ByteArray) : Nat :=
  if mayE d l s ≠ 0 then mayE d l s else if roomN d l = 0 then 3 else if layOk d l.area l.gen (l.recs.length + 1) s then 0 else 2
def appD (d : D) (l : Lg) (s : ByteArray) : D := if mayE d l s ≠ 0 ∨ roomN d l = 0 then d else lay d l.area l.gen (l.recs.length + 1) s
def appL (d : D) (l : Lg) (s : ByteArray) : Lg :=
  if mayE d l s ≠ 0 ∨ roomN d l = 0 then l else if layOk d l.area l.gen (l.recs.length + 1) s then { l with recs := l.recs ++ [s] } else { l with broken := true }
def chk1 (d : D) (l : Lg) (s : ByteArray) : D := lay d (1 - l.area) (l.gen + 1) 1 s
def chk1Ok (d : D) (l : Lg) (s : ByteArray) : Bool := layOk d (1 - l.area) (l.gen + 1) 1 s
def chk2Ok (d : D) (l : Lg) (s : ByteArray) : Bool := layOk (chk1 d l s) (1 - l.area) (l.gen + 1) 0 headS
def chkE (d : D) (l : Lg) (s : ByteArray) : Nat :=
  if mayE d l s ≠ 0 then mayE d l s else if l.gen = 4294967295 then 9 else if chk1Ok d l s && chk2Ok d l s then 0 else 2
def chkD (d : D) (l : Lg) (s : ByteArray) : D :=
  if mayE d l s ≠ 0 ∨ l.gen = 4294967295 then d else if chk1Ok d l s then lay (chk1 d l s) (1 - l.area) (l.gen + 1) 0 headS else chk1 d l s
def chkL (d : D) (l : Lg) (s : ByteArray) : Lg :=
  if mayE d l s ≠ 0 ∨ l.gen = 4294967295 then l else if chk1Ok d l s && chk2Ok d l s then { area := 1 - l.area, gen := l.gen + 1, recs := [s], broken := l.broken } else { l with broken := true }

/-- What holds of a log that was opened. -/
structure LgFits (d : D) (l : Lg) : Prop where
  area : l.area ≤ 1
  gen : l.gen ≤ 4294967295
  recs : l.recs.length + 1 ≤ d.half
  opn : l.broken = false → d.opn = none

theorem write_length (d : D) (i : Nat) (b : ByteArray) : (d.write i b).last.length = d.last.length := by unfold D.write; split <;> rfl
theorem write_size (d : D) (i : Nat) (b : ByteArray) : (d.write i b).size = d.size := by unfold D.write; split <;> rfl
theorem flush_length (d : D) : d.flush.last.length = d.last.length := by
  unfold D.flush; split
  · rfl
  · exact D.now_length d
theorem flush_size (d : D) : d.flush.size = d.size := by unfold D.flush; split <;> rfl
theorem flush_opn (d : D) (h : d.fuse.stop = false) : d.flush.opn = none := by unfold D.flush; rw [h]; rfl
theorem lay_length (d : D) (area gen seq : Nat) (s : ByteArray) : (lay d area gen seq s).last.length = d.last.length := by
  unfold lay lay1; split
  · exact write_length _ _ _
  · rw [flush_length, write_length]
theorem lay_size (d : D) (area gen seq : Nat) (s : ByteArray) : (lay d area gen seq s).size = d.size := by
  unfold lay lay1; split
  · exact write_size _ _ _
  · rw [flush_size, write_size]
theorem lay_half (d : D) (area gen seq : Nat) (s : ByteArray) : (lay d area gen seq s).half = d.half := by unfold D.half; rw [lay_length]
theorem lay_opn (d : D) (area gen seq : Nat) (s : ByteArray) (h : layOk d area gen seq s = true) : (lay d area gen seq s).opn = none := by
  unfold layOk at h
  simp only [Bool.and_eq_true, Bool.not_eq_true'] at h
  unfold lay
  rw [h.1]
  exact flush_opn _ h.2
theorem half_two {d : D} (h : d.Fits) : 2 ≤ d.half ∧ d.half ≤ 512 ∧ 2 * d.half ≤ d.last.length := by
  have := h.n1; have := h.n2; unfold D.half; omega
theorem at_lt {d : D} (h : d.Fits) {area seq : Nat} (ha : area ≤ 1) (hs : seq < d.half) : area * d.half + seq < d.last.length := by
  have := half_two h
  have : area * d.half ≤ 1 * d.half := Nat.mul_le_mul_right _ ha
  omega
theorem lay1_fits {d : D} (h : d.Fits) {area gen seq : Nat} {s : ByteArray} (ha : area ≤ 1) (hs : seq < d.half) (hp : (s.size : Int) ≤ (d.size : Int) - 14) : (lay1 d area gen seq s).Fits :=
  h.write _ _ (at_lt h ha hs) (secB_size _ _ _ _ (by have := h.s1; omega))
theorem lay_fits {d : D} (h : d.Fits) {area gen seq : Nat} {s : ByteArray} (ha : area ≤ 1) (hs : seq < d.half) (hp : (s.size : Int) ≤ (d.size : Int) - 14) : (lay d area gen seq s).Fits := by
  unfold lay
  split
  · exact lay1_fits h ha hs hp
  · exact (lay1_fits h ha hs hp).flush
theorem headN_lt (d : D) (area : Nat) : headN d area < 4294967296 := by
  unfold headN
  split
  · rename_i h
    have h1 := valS_lt ((sect d.now (area * d.half)).extract 2 6)
    unfold genOf
    have h2 : ((sect d.now (area * d.half)).extract 2 6).size ≤ 4 := by rw [ByteArray.size_extract]; omega
    have : 256 ^ ((sect d.now (area * d.half)).extract 2 6).size ≤ 256 ^ 4 := Nat.pow_le_pow_right (by omega) h2
    omega
  · omega
end Go.Proofs.Yteidhbjfmmodhaa
