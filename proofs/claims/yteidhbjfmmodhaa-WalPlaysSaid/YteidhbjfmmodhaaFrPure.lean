/- Plain lemmas on sectors: what a record's bytes are; nothing of the program's code stands here. -/
import Derived.Test.YteidhbjfmmodhaaCrcPure
import Derived.Lib.Repeat
namespace Go.Proofs.Yteidhbjfmmodhaa.Fr
open Go.Proofs.Yteidhbjfmmodhaa.Crc

/-- The lowest n bytes of a number, the highest first. -/
def beL (x : Nat) : Nat → List UInt8
  | 0 => []
  | n + 1 => UInt8.ofNat (x / 256 ^ n) :: beL x n
theorem beL_length (x n : Nat) : (beL x n).length = n := by
  induction n with
  | zero => rfl
  | succ n ih => simp [beL, ih]
def beB (x n : Nat) : ByteArray := ⟨(beL x n).toArray⟩
theorem beB_size (x n : Nat) : (beB x n).size = n := by show (beL x n).toArray.size = n; rw [List.size_toArray, beL_length]
/-- The number of bytes. -/
def valL (l : List UInt8) : Nat := l.foldl (fun n b => 256 * n + b.toNat) 0
def valS (s : ByteArray) : Nat := valL s.data.toList
theorem valL_acc (l : List UInt8) : ∀ n, l.foldl (fun n b => 256 * n + b.toNat) n = n * 256 ^ l.length + valL l := by
  induction l with
  | nil => intro n; simp [valL]
  | cons b l ih =>
    intro n
    have h1 := ih (256 * n + b.toNat)
    have h2 := ih (256 * 0 + b.toNat)
    simp only [List.foldl_cons, List.length_cons, valL] at *
    rw [h1, h2, Nat.pow_succ, Nat.add_mul, Nat.add_mul]
    have e1 : 256 * n * 256 ^ l.length = n * (256 ^ l.length * 256) := by rw [Nat.mul_comm 256 n, Nat.mul_assoc, Nat.mul_comm 256 (256 ^ l.length)]
    rw [e1]
    omega
theorem valL_cons (b : UInt8) (l : List UInt8) : valL (b :: l) = b.toNat * 256 ^ l.length + valL l := by
  have := valL_acc l (256 * 0 + b.toNat)
  unfold valL at *
  rw [List.foldl_cons, this]
  simp
theorem valL_snoc (l : List UInt8) (b : UInt8) : valL (l ++ [b]) = 256 * valL l + b.toNat := by
  unfold valL; rw [List.foldl_append]; rfl
theorem valL_lt (l : List UInt8) : valL l < 256 ^ l.length := by
  induction l with
  | nil => simp [valL]
  | cons b l ih =>
    rw [valL_cons, List.length_cons, Nat.pow_succ]
    have hb := b.toNat_lt
    have h1 : b.toNat * 256 ^ l.length ≤ 255 * 256 ^ l.length := Nat.mul_le_mul_right _ (by omega)
    omega
theorem beL_mod (x n : Nat) : ∀ y, beL (x + y * 256 ^ n) n = beL x n := by
  induction n with
  | zero => intro y; rfl
  | succ n ih =>
    intro y
    have h1 := ih (y * 256)
    have e : y * 256 ^ (n + 1) = y * 256 * 256 ^ n := by rw [Nat.pow_succ, Nat.mul_assoc, Nat.mul_comm (256 ^ n)]
    simp only [beL]
    rw [e, h1]
    congr 1
    rw [Nat.add_mul_div_right _ _ (Nat.pow_pos (by omega))]
    apply UInt8.toNat_inj.1
    rw [UInt8.toNat_ofNat', UInt8.toNat_ofNat']
    omega
/-- A number's bytes are what they were. -/
theorem beL_val (l : List UInt8) : beL (valL l) l.length = l := by
  induction l with
  | nil => rfl
  | cons b l ih =>
    have hlt := valL_lt l
    have hp : 0 < 256 ^ l.length := Nat.pow_pos (by omega)
    rw [valL_cons, List.length_cons, beL]
    congr 1
    · rw [Nat.add_comm, Nat.add_mul_div_right _ _ hp, Nat.div_eq_of_lt hlt, Nat.zero_add]
      apply UInt8.toNat_inj.1
      rw [UInt8.toNat_ofNat']
      have := b.toNat_lt
      omega
    · rw [Nat.add_comm, beL_mod, ih]
theorem valL_be (n : Nat) : ∀ x, x < 256 ^ n → valL (beL x n) = x := by
  induction n with
  | zero => intro x h; simp at h; subst h; rfl
  | succ n ih =>
    intro x h
    have hp : 0 < 256 ^ n := Nat.pow_pos (by omega)
    have hq : x / 256 ^ n < 256 := by
      rw [Nat.div_lt_iff_lt_mul hp]
      rw [Nat.pow_succ] at h
      omega
    have hx := Nat.div_add_mod x (256 ^ n)
    have h2 : beL x n = beL (x % 256 ^ n) n := by
      have := beL_mod (x % 256 ^ n) n (x / 256 ^ n)
      rw [← this]
      congr 1
      rw [Nat.mul_comm (x / 256 ^ n)]
      omega
    rw [beL, valL_cons, beL_length, h2, ih _ (Nat.mod_lt _ hp), UInt8.toNat_ofNat', Nat.mod_eq_of_lt hq, Nat.mul_comm]
    exact hx

theorem bytes_ext {a b : ByteArray} (h : a.data.toList = b.data.toList) : a = b := by
  obtain ⟨⟨x⟩⟩ := a
  obtain ⟨⟨y⟩⟩ := b
  simp only at h
  rw [h]
theorem list_append (a b : ByteArray) : (a ++ b).data.toList = a.data.toList ++ b.data.toList := by
  rw [ByteArray.data_append, Array.toList_append]
theorem list_length (a : ByteArray) : a.data.toList.length = a.size := Array.length_toList
theorem beB_val (s : ByteArray) : beB (valS s) s.size = s := bytes_ext (by
  show beL (valL s.data.toList) s.size = s.data.toList
  rw [← list_length, beL_val])
theorem valS_be (x n : Nat) (h : x < 256 ^ n) : valS (beB x n) = x := valL_be n x h
theorem valS_lt (s : ByteArray) : valS s < 256 ^ s.size := by rw [← list_length]; exact valL_lt _

/-- Bytes 0. -/
def zB (n : Nat) : ByteArray := ⟨(Lib.repeatL [0] n).toArray⟩
theorem zB_size (n : Nat) : (zB n).size = n := by
  show (Lib.repeatL [0] n).toArray.size = n
  rw [List.size_toArray, Lib.repeatL_length]; simp
theorem repeat_one (c : UInt8) (n : Nat) : Lib.repeatL [c] n = List.replicate n c := by
  induction n with
  | zero => rfl
  | succ n ih => rw [Lib.repeatL, ih, List.replicate_succ]; rfl

/-- What stands ahead of the sum. -/
def hdB (len gen seq : Nat) : ByteArray := beB len 2 ++ beB gen 4 ++ beB seq 4
theorem hdB_size (len gen seq : Nat) : (hdB len gen seq).size = 10 := by
  unfold hdB; rw [ByteArray.size_append, ByteArray.size_append, beB_size, beB_size, beB_size]
/-- A record without what follows. -/
def recB (gen seq : Nat) (p : ByteArray) : ByteArray := hdB p.size gen seq ++ putI (smS (hdB p.size gen seq ++ p)) ++ p
theorem recB_size (gen seq : Nat) (p : ByteArray) : (recB gen seq p).size = 14 + p.size := by
  unfold recB; rw [ByteArray.size_append, ByteArray.size_append, hdB_size, putI_size]
/-- A sector. -/
def secB (gen seq : Nat) (p : ByteArray) (size : Nat) : ByteArray := recB gen seq p ++ zB (size - (14 + p.size))
theorem secB_size (gen seq : Nat) (p : ByteArray) (size : Nat) (h : 14 + p.size ≤ size) : (secB gen seq p size).size = size := by
  unfold secB; rw [ByteArray.size_append, recB_size, zB_size]; omega

/-- Room, the error's number, the sector: as the program's numbers. -/
def roomI (size : Int) : Int := if size < 128 ∨ 1024 < size then 0 else size - 14
def errI (gen seq : Int) (p : ByteArray) (size : Int) : Int :=
  if size < 128 ∨ 1024 < size ∨ gen < 0 ∨ 4294967295 < gen ∨ seq < 0 ∨ 4294967295 < seq then 1
  else if size - 14 < (p.size : Int) then 5 else 0
def outB (gen seq : Int) (p : ByteArray) (size : Int) : ByteArray := if errI gen seq p size = 0 then secB gen.toNat seq.toNat p size.toNat else ⟨#[]⟩

/-- The record of a sector. -/
def lenOf (s : ByteArray) : Nat := valS (s.extract 0 2)
def genOf (s : ByteArray) : Nat := valS (s.extract 2 6)
def seqOf (s : ByteArray) : Nat := valS (s.extract 6 10)
def payOf (s : ByteArray) : ByteArray := s.extract 14 (14 + lenOf s)
def okB (s : ByteArray) : Bool := decide (128 ≤ s.size) && decide (s.size ≤ 1024) && decide (lenOf s ≤ s.size - 14) && decide (secB (genOf s) (seqOf s) (payOf s) s.size = s)
def genI (s : ByteArray) : Int := if okB s then (genOf s : Int) else 0
def seqI (s : ByteArray) : Int := if okB s then (seqOf s : Int) else 0
def payB (s : ByteArray) : ByteArray := if okB s then payOf s else ⟨#[]⟩

/-! Pieces of a text. -/
theorem extract_list (s : ByteArray) (i j : Nat) : (s.extract i j).data.toList = (s.data.toList.drop i).take (j - i) := by
  simp [ByteArray.data_extract, Array.toList_extract]
theorem take_app (a b : List UInt8) (n : Nat) (h : a.length = n) : (a ++ b).take n = a := by subst h; simp
theorem drop_app (a b : List UInt8) (n : Nat) (h : a.length = n) : (a ++ b).drop n = b := by subst h; simp

theorem beB_list_length (x n : Nat) : (beB x n).data.toList.length = n := by rw [list_length, beB_size]
theorem sec_list (gen seq : Nat) (p : ByteArray) (size : Nat) : (secB gen seq p size).data.toList =
    (beB p.size 2).data.toList ++ ((beB gen 4).data.toList ++ ((beB seq 4).data.toList ++ ((putI (smS (hdB p.size gen seq ++ p))).data.toList ++ (p.data.toList ++ (zB (size - (14 + p.size))).data.toList)))) := by
  unfold secB recB
  rw [list_append, list_append, list_append]
  conv => lhs; rw [show hdB p.size gen seq = beB p.size 2 ++ beB gen 4 ++ beB seq 4 from rfl]
  rw [list_append, list_append]
  simp only [List.append_assoc]
  rfl
theorem sec_len (gen seq : Nat) (p : ByteArray) (size : Nat) (h : p.size < 65536) : lenOf (secB gen seq p size) = p.size := by
  have : (secB gen seq p size).extract 0 2 = beB p.size 2 := bytes_ext (by rw [extract_list, sec_list, List.drop_zero, take_app _ _ _ (beB_list_length _ _)])
  unfold lenOf; rw [this, valS_be _ _ (by simpa using h)]
theorem sec_gen (gen seq : Nat) (p : ByteArray) (size : Nat) (h : gen < 4294967296) : genOf (secB gen seq p size) = gen := by
  have : (secB gen seq p size).extract 2 6 = beB gen 4 := bytes_ext (by
    rw [extract_list, sec_list, drop_app _ _ _ (beB_list_length _ _), take_app _ _ _ (beB_list_length _ _)])
  unfold genOf; rw [this, valS_be _ _ (by simpa using h)]
theorem sec_seq (gen seq : Nat) (p : ByteArray) (size : Nat) (h : seq < 4294967296) : seqOf (secB gen seq p size) = seq := by
  have : (secB gen seq p size).extract 6 10 = beB seq 4 := bytes_ext (by
    rw [extract_list, sec_list, ← List.append_assoc, drop_app _ _ _ (by rw [List.length_append, beB_list_length, beB_list_length]), take_app _ _ _ (beB_list_length _ _)])
  unfold seqOf; rw [this, valS_be _ _ (by simpa using h)]
theorem sec_pay (gen seq : Nat) (p : ByteArray) (size : Nat) (h : p.size < 65536) : payOf (secB gen seq p size) = p := by
  unfold payOf
  rw [sec_len gen seq p size h]
  refine bytes_ext ?_
  have hx : ((beB p.size 2).data.toList ++ ((beB gen 4).data.toList ++ ((beB seq 4).data.toList ++ (putI (smS (hdB p.size gen seq ++ p))).data.toList))).length = 14 := by
    simp only [List.length_append, list_length, putI_size, beB_size]
  rw [extract_list, sec_list, ← List.append_assoc (beB seq 4).data.toList, ← List.append_assoc (beB gen 4).data.toList, ← List.append_assoc (beB p.size 2).data.toList, drop_app _ _ _ hx,
    show 14 + p.size - 14 = p.size by omega, take_app _ _ _ (list_length p)]
/-- A record that is put is got. -/
theorem sec_ok (gen seq : Nat) (p : ByteArray) (size : Nat) (h1 : 128 ≤ size) (h2 : size ≤ 1024) (hp : p.size ≤ size - 14) (hg : gen < 4294967296) (hs : seq < 4294967296) : okB (secB gen seq p size) = true := by
  have hz := secB_size gen seq p size (by omega)
  unfold okB
  rw [hz, sec_len _ _ _ _ (by omega), sec_gen _ _ _ _ hg, sec_seq _ _ _ _ hs, sec_pay _ _ _ _ (by omega)]
  simp [h1, h2, hp]

/-! The reference's way to ask. -/
theorem pieces (l : List UInt8) (n : Nat) :
    l = (l.take 2) ++ (((l.drop 2).take 4) ++ (((l.drop 6).take 4) ++ (((l.drop 10).take 4) ++ (((l.drop 14).take n) ++ (l.drop (14 + n)))))) := by
  have h1 : ∀ i j, (l.drop i).take j ++ l.drop (i + j) = l.drop i := by
    intro i j
    have := List.take_append_drop j (l.drop i)
    rw [List.drop_drop] at this
    exact this
  rw [h1 14 n, h1 10 4, h1 6 4, h1 2 4]
  exact (List.take_append_drop 2 l).symm
theorem zeros_iff (t : List UInt8) (n : Nat) (h : t.length = n) : (zB n).data.toList = t ↔ ∀ i, i < n → t.getD i 0 = 0 := by
  have e : (zB n).data.toList = List.replicate n 0 := repeat_one 0 n
  rw [e]
  constructor
  · intro h2 i hi; subst h2; simp [List.getD, hi]
  · intro h2
    apply List.ext_getElem (by simp [h])
    intro i h3 h4
    have := h2 i (by simpa using h3)
    simp [List.getD, h4] at this
    simp [this]
theorem ok_iff (s : ByteArray) (h1 : 128 ≤ s.size) (h2 : s.size ≤ 1024) (h3 : lenOf s ≤ s.size - 14) :
    okB s = true ↔ (∀ i, 14 + lenOf s ≤ i → i < s.size → s.data.toList.getD i 0 = 0) ∧ s.extract 10 14 = putI (smS (s.extract 0 10 ++ s.extract 14 (14 + lenOf s))) := by
  have hn : ∃ n, n = lenOf s := ⟨_, rfl⟩
  obtain ⟨n, hn⟩ := hn
  have hl : s.data.toList.length = s.size := list_length s
  have hsz : ∀ i j, j ≤ s.size → i ≤ j → (s.extract i j).size = j - i := by intro i j h4 h5; rw [ByteArray.size_extract]; omega
  have hps : (payOf s).size = n := by unfold payOf; rw [hsz _ _ (by omega) (by omega)]; omega
  have p0 : (beB (payOf s).size 2) = s.extract 0 2 := by
    rw [hps, hn]; unfold lenOf
    have := beB_val (s.extract 0 2); rw [hsz 0 2 (by omega) (by omega)] at this; exact this
  have p1 : beB (genOf s) 4 = s.extract 2 6 := by
    unfold genOf; have := beB_val (s.extract 2 6); rw [hsz 2 6 (by omega) (by omega)] at this; exact this
  have p2 : beB (seqOf s) 4 = s.extract 6 10 := by
    unfold seqOf; have := beB_val (s.extract 6 10); rw [hsz 6 10 (by omega) (by omega)] at this; exact this
  have hhd : hdB (payOf s).size (genOf s) (seqOf s) = s.extract 0 10 := by
    unfold hdB
    rw [p0, p1, p2]
    refine bytes_ext ?_
    rw [list_append, list_append, extract_list, extract_list, extract_list, extract_list]
    have e1 := List.take_add (l := s.data.toList) (i := 2) (j := 4)
    have e2 := List.take_add (l := s.data.toList) (i := 6) (j := 4)
    simp only [List.drop_zero, Nat.sub_zero]
    rw [← e1, ← e2]
  have hS : secB (genOf s) (seqOf s) (payOf s) s.size = s ↔ (putI (smS (s.extract 0 10 ++ payOf s))).data.toList = (s.data.toList.drop 10).take 4 ∧ (zB (s.size - (14 + n))).data.toList = s.data.toList.drop (14 + n) := by
    have hpc := pieces s.data.toList n
    have hpl : (payOf s).data.toList = (s.data.toList.drop 14).take n := by
      unfold payOf; rw [extract_list, ← hn, show 14 + n - 14 = n by omega]
    constructor
    · intro h
      have h' := congrArg (fun z => z.data.toList) h
      rw [sec_list, p0, p1, p2, hhd, hps, extract_list, extract_list, extract_list, hpl] at h'
      conv at h' => rhs; rw [hpc]
      try simp only [List.drop_zero] at h'
      have h4 := (List.append_inj h' rfl).2
      have h5 := (List.append_inj h4 rfl).2
      have h6 := (List.append_inj h5 rfl).2
      have h7 := List.append_inj h6 (by rw [list_length, putI_size]; simp; omega)
      have h8 := (List.append_inj h7.2 rfl).2
      exact ⟨h7.1, h8⟩
    · rintro ⟨h4, h5⟩
      refine bytes_ext ?_
      rw [sec_list, p0, p1, p2, hhd, hps, extract_list, extract_list, extract_list, hpl, h4, h5]
      conv => rhs; rw [hpc]
      try simp only [List.drop_zero]
  unfold okB
  rw [Bool.and_eq_true, Bool.and_eq_true, Bool.and_eq_true, decide_eq_true_eq, decide_eq_true_eq, decide_eq_true_eq, decide_eq_true_eq, hS]
  rw [zeros_iff _ _ (by simp)]
  have ht : ∀ i, (s.data.toList.drop (14 + n)).getD i 0 = s.data.toList.getD (14 + n + i) 0 := by intro i; simp [List.getD]
  have hc : s.extract 10 14 = putI (smS (s.extract 0 10 ++ s.extract 14 (14 + lenOf s))) ↔ (putI (smS (s.extract 0 10 ++ payOf s))).data.toList = (s.data.toList.drop 10).take 4 := by
    unfold payOf
    constructor
    · intro h; rw [← h, extract_list]
    · intro h; refine bytes_ext ?_; rw [h, extract_list]
  rw [hc, ← hn]
  constructor
  · rintro ⟨_, h4, h5⟩
    refine ⟨fun i hi1 hi2 => ?_, h4⟩
    have := h5 (i - (14 + n)) (by omega)
    rw [ht, show 14 + n + (i - (14 + n)) = i by omega] at this
    exact this
  · rintro ⟨h4, h5⟩
    exact ⟨⟨⟨h1, h2⟩, by omega⟩, h5, fun i hi => by rw [ht]; exact h4 _ (by omega) (by omega)⟩
end Go.Proofs.Yteidhbjfmmodhaa.Fr
