/- A log whose power never fails: what an opening finds is what was put. -/
import Derived.Test.YteidhbjfmmodhaaWalPure
namespace Go.Proofs.Yteidhbjfmmodhaa
open Fr Crc

/-- The power doesn't fail. -/
def Safe (d : D) : Prop := d.fuse.left = none ∧ d.fuse.blown = false
theorem Safe.stop {d : D} (h : Safe d) : d.fuse.stop = false := by unfold F.stop; rw [h.1, h.2]; rfl
theorem safe_spend {f : F} (h : f.left = none ∧ f.blown = false) : f.spend.left = none ∧ f.spend.blown = false := by
  have hs : f.stop = false := by unfold F.stop; rw [h.1, h.2]; rfl
  unfold F.spend
  rw [hs]
  exact ⟨by show f.left.map _ = none; rw [h.1]; rfl, h.2⟩

/-- A sector is written, and lasts. -/
theorem lay_eq {d : D} (h : Safe d) (area gen seq : Nat) (s : ByteArray) :
    lay d area gen seq s = { size := d.size, last := d.last.set (area * d.half + seq) (secB gen seq s d.size), opn := none, fuse := d.fuse.spend.spend } := by
  have h1 := h.stop
  have h2 : (d.write (area * d.half + seq) (secB gen seq s d.size)) = { d.spend with opn := some (area * d.half + seq, secB gen seq s d.size) } := by unfold D.write; rw [h1]; rfl
  have h3 : d.fuse.spend.stop = false := by have := safe_spend h; unfold F.stop; rw [this.1, this.2]; rfl
  unfold lay lay1
  rw [h1, h2]
  show D.flush _ = _
  unfold D.flush
  show (if d.fuse.spend.stop = true then _ else _) = _
  rw [h3]
  rfl
theorem lay_ok {d : D} (h : Safe d) (area gen seq : Nat) (s : ByteArray) : layOk d area gen seq s = true := by
  have h1 := h.stop
  have h2 : (lay1 d area gen seq s) = { d.spend with opn := some (area * d.half + seq, secB gen seq s d.size) } := by unfold lay1 D.write; rw [h1]; rfl
  have h3 : d.fuse.spend.stop = false := by have := safe_spend h; unfold F.stop; rw [this.1, this.2]; rfl
  unfold layOk
  rw [h1, h2]
  show (!false && !d.fuse.spend.stop) = true
  rw [h3]; rfl
theorem lay_safe {d : D} (h : Safe d) (area gen seq : Nat) (s : ByteArray) : Safe (lay d area gen seq s) := by
  rw [lay_eq h]; exact safe_spend (safe_spend h)
theorem lay_now {d : D} (h : Safe d) (area gen seq : Nat) (s : ByteArray) (ho : d.opn = none) : (lay d area gen seq s).now = d.now.set (area * d.half + seq) (secB gen seq s d.size) := by
  rw [lay_eq h]; unfold D.now; rw [ho]

theorem pos_inj {a q area seq half : Nat} (ha : a ≤ 1) (har : area ≤ 1) (hq : q < half) (hs : seq < half) (h : a * half + q = area * half + seq) : a = area ∧ q = seq := by
  have h1 : a = 0 ∨ a = 1 := by omega
  have h2 : area = 0 ∨ area = 1 := by omega
  rcases h1 with rfl | rfl <;> rcases h2 with rfl | rfl <;> omega

theorem lay_sect {d : D} (h : Safe d) (hf : d.Fits) (ho : d.opn = none) {area seq : Nat} (har : area ≤ 1) (hs : seq < d.half) (gen : Nat) (s : ByteArray) :
    sect (lay d area gen seq s).now (area * d.half + seq) = secB gen seq s d.size := by
  rw [lay_now h _ _ _ _ ho, sect_set]
  rw [D.now_length]; exact at_lt hf har hs
theorem lay_other {d : D} (h : Safe d) (ho : d.opn = none) (area gen seq : Nat) (s : ByteArray) {i : Nat} (hi : i ≠ area * d.half + seq) :
    sect (lay d area gen seq s).now i = sect d.now i := by
  rw [lay_now h _ _ _ _ ho, sect_other _ (fun e => hi e.symm)]

/-- A log as the calls left it. -/
structure Sound (d : D) (l : Lg) : Prop where
  fits : d.Fits
  safe : Safe d
  opn : d.opn = none
  broken : l.broken = false
  area : l.area ≤ 1
  gen1 : 1 ≤ l.gen
  gen2 : l.gen ≤ 4294967295
  head : headN d l.area = l.gen
  other : headN d (1 - l.area) < l.gen
  recs : l.recs.length + 1 ≤ d.half
  found : ∀ k (h : k < l.recs.length), good d l.area l.gen (k + 1) = true ∧ recPay d l.area (k + 1) = l.recs[k]
  more : ∀ k, l.recs.length < k → k < d.half → good d l.area l.gen k = false
  gens : ∀ i, i < d.last.length → okB (sect d.now i) = true → genOf (sect d.now i) ≤ l.gen

theorem Sound.lgfits {d : D} {l : Lg} (h : Sound d l) : LgFits d l := ⟨h.area, h.gen2, h.recs, fun _ => h.opn⟩

theorem recs_found (d : D) (area gen : Nat) : ∀ (l : List ByteArray) (seq fuel : Nat), l.length ≤ fuel → (∀ k (h : k < l.length), good d area gen (k + seq) = true ∧ recPay d area (k + seq) = l[k]) → (l.length < fuel → good d area gen (l.length + seq) = false) → recsFrom d area gen seq fuel = l
  | [], seq, 0, _, _, _ => rfl
  | [], seq, fuel + 1, _, _, h => by
    have := h (by simp)
    simp only [List.length_nil, Nat.zero_add] at this
    unfold recsFrom; rw [this]; rfl
  | b :: l, seq, 0, h, _, _ => by simp at h
  | b :: l, seq, fuel + 1, h, h1, h2 => by
    have h0 := h1 0 (by simp)
    simp only [Nat.zero_add, List.getElem_cons_zero] at h0
    unfold recsFrom
    rw [h0.1, h0.2, recs_found d area gen l (seq + 1) fuel (by simpa using h) (fun k hk => by
      have := h1 (k + 1) (by simp; omega)
      rw [show k + 1 + seq = k + (seq + 1) by omega] at this
      simpa using this) (fun hl => by
      have := h2 (by simp; omega)
      rw [show (b :: l).length + seq = l.length + (seq + 1) by simp; omega] at this
      exact this)]
    rfl
theorem Sound.listed {d : D} {l : Lg} (h : Sound d l) : recsOf d l.area l.gen = l.recs := by
  unfold recsOf
  refine recs_found _ _ _ _ _ _ (by have := h.recs; omega) (fun k hk => h.found k hk) (fun hl => h.more _ (by omega) (by omega))

theorem Sound.picks {d : D} {l : Lg} (h : Sound d l) : areaN d = l.area ∧ genN d = l.gen := by
  have h1 := h.head
  have h2 := h.other
  have ha := h.area
  unfold areaN genN
  have : l.area = 0 ∨ l.area = 1 := by omega
  rcases this with e | e
  · rw [e] at h1 h2
    simp only [Nat.sub_zero] at h2
    rw [if_neg (by omega), if_neg (by omega)]
    exact ⟨e.symm, h1⟩
  · rw [e] at h1 h2
    simp only [Nat.sub_self] at h2
    rw [if_pos (by omega), if_pos (by omega)]
    exact ⟨e.symm, h1⟩
/-- Opened anew, it is the same. -/
theorem Sound.opened {d : D} {l : Lg} (h : Sound d l) : openOk d = true ∧ openD d = d ∧ openL d = l := by
  have h1 : opn1 d = d := by unfold opn1; rw [h.opn]; rfl
  have h2 : (d.opn.isSome && d.fuse.stop) = false := by rw [h.opn]; rfl
  have h3 := h.picks
  have h4 : genN (opn1 d) ≠ 0 := by rw [h1, h3.2]; have := h.gen1; omega
  have hD : openD d = d := by unfold openD; rw [h2, if_neg (by simp), if_neg h4, h1]
  have hG : openGen d = l.gen := by unfold openGen; rw [if_neg h4, h1, h3.2]
  refine ⟨by unfold openOk; rw [h2, if_neg (by simp), if_neg h4], hD, ?_⟩
  unfold openL
  rw [hD, hG, h1, h3.1, h.listed]
  have := h.broken
  obtain ⟨a, g, r, b⟩ := l
  simp_all

section
variable {d : D} (h : Safe d) (hf : d.Fits) (ho : d.opn = none) {area seq : Nat} (har : area ≤ 1) (hs : seq < d.half) {gen : Nat} (hg : gen ≤ 4294967295) {s : ByteArray} (hp : (s.size : Int) ≤ (d.size : Int) - 14)

include hf hs hg hp in
theorem put_facts : okB (secB gen seq s d.size) = true ∧ genOf (secB gen seq s d.size) = gen ∧ seqOf (secB gen seq s d.size) = seq ∧ payOf (secB gen seq s d.size) = s := by
  have h2 := half_two hf
  have h3 := hf.s1
  have h4 := hf.s2
  exact ⟨sec_ok _ _ _ _ h3 h4 (by omega) (by omega) (by omega), sec_gen _ _ _ _ (by omega), sec_seq _ _ _ _ (by omega), sec_pay _ _ _ _ (by omega)⟩
include h hf ho har hs hg hp
/-- The head's generation, behind a write. -/
theorem lay_headN (a : Nat) (ha : a ≤ 1) : headN (lay d area gen seq s) a = if a = area ∧ seq = 0 then (if s = headS then gen else 0) else headN d a := by
  obtain ⟨p1, p2, p3, p4⟩ := put_facts hf hs hg hp
  have h2 := half_two hf
  unfold headN
  rw [lay_half]
  by_cases hc : a = area ∧ seq = 0
  · rw [if_pos hc]
    obtain ⟨rfl, rfl⟩ := hc
    have := lay_sect h hf ho har hs gen s
    rw [Nat.add_zero] at this
    rw [this, p1, p2, p3, p4]
    by_cases e : s = headS
    · simp [e]
    · simp [e]
  · rw [if_neg hc]
    have hne : a * d.half ≠ area * d.half + seq := by
      intro e
      have := pos_inj (a := a) (q := 0) ha har (by omega) hs (by omega)
      exact hc ⟨this.1, this.2.symm⟩
    rw [lay_other h ho _ _ _ _ hne]
theorem lay_good (a g q : Nat) (ha : a ≤ 1) (hq : q < d.half) : good (lay d area gen seq s) a g q = if a = area ∧ q = seq then decide (gen = g) else good d a g q := by
  obtain ⟨p1, p2, p3, p4⟩ := put_facts hf hs hg hp
  unfold good
  rw [lay_half]
  by_cases hc : a = area ∧ q = seq
  · rw [if_pos hc]
    obtain ⟨rfl, rfl⟩ := hc
    rw [lay_sect h hf ho har hs, p1, p2, p3]
    simp [Bool.beq_eq_decide_eq]
  · rw [if_neg hc]
    rw [lay_other h ho _ _ _ _ (fun e => hc (pos_inj ha har hq hs e))]
theorem lay_recPay (a q : Nat) (ha : a ≤ 1) (hq : q < d.half) : recPay (lay d area gen seq s) a q = if a = area ∧ q = seq then s else recPay d a q := by
  obtain ⟨p1, p2, p3, p4⟩ := put_facts hf hs hg hp
  unfold recPay
  rw [lay_half]
  by_cases hc : a = area ∧ q = seq
  · rw [if_pos hc]
    obtain ⟨rfl, rfl⟩ := hc
    rw [lay_sect h hf ho har hs, p4]
  · rw [if_neg hc]
    rw [lay_other h ho _ _ _ _ (fun e => hc (pos_inj ha har hq hs e))]
theorem lay_gens (G : Nat) (hG : gen ≤ G) (hall : ∀ i, i < d.last.length → okB (sect d.now i) = true → genOf (sect d.now i) ≤ G) :
    ∀ i, i < (lay d area gen seq s).last.length → okB (sect (lay d area gen seq s).now i) = true → genOf (sect (lay d area gen seq s).now i) ≤ G := by
  obtain ⟨p1, p2, p3, p4⟩ := put_facts hf hs hg hp
  intro i hi
  rw [lay_length] at hi
  by_cases e : i = area * d.half + seq
  · rw [e, lay_sect h hf ho har hs, p2]
    exact fun _ => hG
  · rw [lay_other h ho _ _ _ _ e]
    exact hall i hi
end

/-- An append that is told. -/
theorem Sound.append {d : D} {l : Lg} (h : Sound d l) {s : ByteArray} (hp : (s.size : Int) ≤ (d.size : Int) - 14) (hr : l.recs.length + 1 < d.half) :
    Sound (lay d l.area l.gen (l.recs.length + 1) s) { l with recs := l.recs ++ [s] } := by
  have hh := lay_headN h.safe h.fits h.opn h.area hr h.gen2 hp
  have hg := lay_good h.safe h.fits h.opn h.area hr h.gen2 hp
  have hy := lay_recPay h.safe h.fits h.opn h.area hr h.gen2 hp
  refine ⟨lay_fits h.fits h.area hr hp, lay_safe h.safe _ _ _ _, lay_opn _ _ _ _ _ (lay_ok h.safe _ _ _ _), h.broken, h.area, h.gen1, h.gen2, ?_, ?_, ?_, ?_, ?_, ?_⟩
  · show headN _ l.area = l.gen
    rw [hh _ h.area, if_neg (by omega)]; exact h.head
  · show headN _ (1 - l.area) < l.gen
    rw [hh _ (by omega), if_neg (by omega)]; exact h.other
  · show (l.recs ++ [s]).length + 1 ≤ _
    rw [lay_half]; simp; omega
  · intro k hk
    show good _ l.area l.gen (k + 1) = true ∧ recPay _ l.area (k + 1) = (l.recs ++ [s])[k]
    have hk' : k < l.recs.length + 1 := by simpa using hk
    rw [hg _ _ _ h.area (by omega), hy _ _ h.area (by omega)]
    by_cases e : k = l.recs.length
    · subst e; simp
    · rw [if_neg (by omega), if_neg (by omega)]
      have := h.found k (by omega)
      rw [List.getElem_append_left (by omega)]
      exact this
  · intro k hk1 hk2
    show good _ l.area l.gen k = false
    have hk' : l.recs.length + 1 < k := by simpa using hk1
    rw [lay_half] at hk2
    rw [hg _ _ _ h.area hk2, if_neg (by omega)]
    exact h.more k (by omega) hk2
  · exact lay_gens h.safe h.fits h.opn h.area hr h.gen2 hp l.gen (Nat.le_refl _) h.gens
/-- A checkpoint that is told. -/
theorem Sound.check {d : D} {l : Lg} (h : Sound d l) {s : ByteArray} (hp : (s.size : Int) ≤ (d.size : Int) - 14) (hg4 : l.gen + 1 ≤ 4294967295) :
    Sound (lay (lay d (1 - l.area) (l.gen + 1) 1 s) (1 - l.area) (l.gen + 1) 0 headS) { l with area := 1 - l.area, gen := l.gen + 1, recs := [s] } := by
  have ha := h.area
  have h2 := half_two h.fits
  have har : 1 - l.area ≤ 1 := Nat.sub_le _ _
  have h1s : 1 < d.half := by omega
  have hh := lay_headN h.safe h.fits h.opn har h1s hg4 hp
  have hg := lay_good h.safe h.fits h.opn har h1s hg4 hp
  have hy := lay_recPay h.safe h.fits h.opn har h1s hg4 hp
  have hgens := lay_gens h.safe h.fits h.opn har h1s hg4 hp (l.gen + 1) (Nat.le_refl _) (fun i hi hok => Nat.le_succ_of_le (h.gens i hi hok))
  have hf1 := lay_fits (gen := l.gen + 1) h.fits har h1s hp
  have hs1 := lay_safe h.safe (1 - l.area) (l.gen + 1) 1 s
  have ho1 := lay_opn _ _ _ _ _ (lay_ok h.safe (1 - l.area) (l.gen + 1) 1 s)
  have hlen := lay_half d (1 - l.area) (l.gen + 1) 1 s
  have hsz := lay_size d (1 - l.area) (l.gen + 1) 1 s
  obtain ⟨e, he⟩ : ∃ e, e = lay d (1 - l.area) (l.gen + 1) 1 s := ⟨_, rfl⟩
  rw [← he] at hh hg hy hgens hf1 hs1 ho1 hlen hsz ⊢
  have hph : (headS.size : Int) ≤ (e.size : Int) - 14 := by have := hf1.s1; have : headS.size = 4 := rfl; omega
  have h0s : 0 < e.half := by omega
  have kh := lay_headN hs1 hf1 ho1 har h0s hg4 hph
  have kg := lay_good hs1 hf1 ho1 har h0s hg4 hph
  have ky := lay_recPay hs1 hf1 ho1 har h0s hg4 hph
  refine ⟨lay_fits hf1 har h0s hph, lay_safe hs1 _ _ _ _, lay_opn _ _ _ _ _ (lay_ok hs1 _ _ _ _), h.broken, har, by show 1 ≤ l.gen + 1; omega, hg4, ?_, ?_, ?_, ?_, ?_, ?_⟩
  · show headN _ (1 - l.area) = l.gen + 1
    rw [kh _ har, if_pos (by omega), if_pos rfl]
  · show headN _ (1 - (1 - l.area)) < l.gen + 1
    rw [show 1 - (1 - l.area) = l.area by omega, kh _ ha, if_neg (by omega), hh _ ha, if_neg (by omega), h.head]
    omega
  · show [s].length + 1 ≤ _
    rw [lay_half, hlen]; simp; omega
  · intro k hk
    have hk' : k = 0 := by simpa using hk
    subst hk'
    show good _ (1 - l.area) (l.gen + 1) (0 + 1) = true ∧ recPay _ (1 - l.area) (0 + 1) = s
    rw [kg _ _ _ har (by omega), ky _ _ har (by omega), if_neg (by omega), if_neg (by omega), hg _ _ _ har (by omega), hy _ _ har (by omega)]
    simp
  · intro k hk1 hk2
    show good _ (1 - l.area) (l.gen + 1) k = false
    have hk' : 1 < k := by simpa using hk1
    rw [lay_half, hlen] at hk2
    rw [kg _ _ _ har (by omega), if_neg (by omega), hg _ _ _ har hk2, if_neg (by omega)]
    unfold good
    cases hok : okB (sect d.now ((1 - l.area) * d.half + k)) with
    | false => rfl
    | true =>
      have := h.gens _ (at_lt h.fits har hk2) hok
      have hne : (genOf (sect d.now ((1 - l.area) * d.half + k)) == l.gen + 1) = false := by simp; omega
      rw [hne]; rfl
  · exact lay_gens hs1 hf1 ho1 har h0s hg4 hph (l.gen + 1) (Nat.le_refl _) hgens
end Go.Proofs.Yteidhbjfmmodhaa
