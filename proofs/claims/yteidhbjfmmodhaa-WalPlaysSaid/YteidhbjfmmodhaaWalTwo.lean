/- The program's log and the reference's, side by side. -/
import Derived.Test.YteidhbjfmmodhaaRWal4
import Derived.Test.YteidhbjfmmodhaaRCrash
import Derived.Test.YteidhbjfmmodhaaCrash
import Derived.Test.YteidhbjfmmodhaaWalFresh
namespace Go.Proofs.Yteidhbjfmmodhaa
open Go.RowKit Crc Fr

theorem app_fits {d : D} {l : Lg} (s : ByteArray) (h : LgFits d l) : LgFits (appD d l s) (appL d l s) := by
  unfold appD appL
  by_cases hc : mayE d l s ≠ 0 ∨ roomN d l = 0
  · rw [if_pos hc, if_pos hc]; exact h
  · rw [if_neg hc, if_neg hc]
    cases hok : layOk d l.area l.gen (l.recs.length + 1) s with
    | false =>
      refine ⟨h.area, h.gen, ?_, fun hb => by cases hb⟩
      show l.recs.length + 1 ≤ _
      rw [lay_half]; exact h.recs
    | true =>
      refine ⟨h.area, h.gen, ?_, fun _ => lay_opn _ _ _ _ _ hok⟩
      show (l.recs ++ [s]).length + 1 ≤ _
      rw [lay_half]
      have h1 := h.recs
      have h2 : roomN d l ≠ 0 := fun e => hc (.inr e)
      unfold roomN at h2
      simp
      omega
theorem chk_fits {d : D} {l : Lg} (s : ByteArray) (hd : d.Fits) (h : LgFits d l) : LgFits (chkD d l s) (chkL d l s) := by
  have h2 := half_two hd
  unfold chkD chkL
  by_cases hc : mayE d l s ≠ 0 ∨ l.gen = 4294967295
  · rw [if_pos hc, if_pos hc]; exact h
  · rw [if_neg hc, if_neg hc]
    cases hok : chk1Ok d l s with
    | false =>
      refine ⟨h.area, h.gen, ?_, fun hb => by cases hb⟩
      show l.recs.length + 1 ≤ (chk1 d l s).half
      unfold chk1; rw [lay_half]; exact h.recs
    | true =>
      cases hok2 : chk2Ok d l s with
      | false =>
        refine ⟨h.area, h.gen, ?_, fun hb => by cases hb⟩
        show l.recs.length + 1 ≤ (lay (chk1 d l s) _ _ _ _).half
        rw [lay_half]; unfold chk1; rw [lay_half]; exact h.recs
      | true =>
        refine ⟨Nat.sub_le _ _, ?_, ?_, fun _ => lay_opn _ _ _ _ _ hok2⟩
        · show l.gen + 1 ≤ _
          have h1 : l.gen ≠ 4294967295 := fun e => hc (.inr e)
          have := h.gen
          omega
        · show [s].length + 1 ≤ (lay (chk1 d l s) _ _ _ _).half
          rw [lay_half]; unfold chk1; rw [lay_half]; simp; omega
theorem opn1_half (d : D) : (opn1 d).half = d.half := by
  unfold opn1 D.half; split
  · rw [flush_length]
  · rfl
theorem openD_half (d : D) : (openD d).half = d.half := by
  unfold openD
  split
  · unfold D.half; rw [flush_length]
  · split
    · rw [lay_half, opn1_half]
    · exact opn1_half d
theorem open_fits {d : D} (hd : d.Fits) (hok : openOk d = true) : LgFits (openD d) (openL d) := by
  have h2 := half_two hd
  refine ⟨?_, ?_, ?_, fun _ => ?_⟩
  · show areaN _ ≤ 1; unfold areaN; split <;> omega
  · show openGen d ≤ _
    unfold openGen
    have h0 := headN_lt (opn1 d) 0
    have h1 := headN_lt (opn1 d) 1
    split
    · omega
    · unfold genN; split <;> omega
  · show (recsOf (openD d) _ _).length + 1 ≤ _
    unfold recsOf
    have := recsFrom_length (openD d) (areaN (opn1 d)) (openGen d) ((openD d).half - 1) 1
    rw [openD_half] at this ⊢
    omega
  · have hc : (d.opn.isSome && d.fuse.stop) = false := by
      cases h : d.opn.isSome && d.fuse.stop with
      | false => rfl
      | true => unfold openOk at hok; rw [h] at hok; cases hok
    have ho1 : (opn1 d).opn = none := by
      unfold opn1
      cases hs : d.opn.isSome with
      | false => simp; cases ho : d.opn with
        | none => rfl
        | some p => rw [ho] at hs; cases hs
      | true =>
        rw [hs, Bool.true_and] at hc
        exact flush_opn _ hc
    unfold openD
    unfold openOk at hok
    rw [hc] at hok ⊢
    simp only [Bool.false_eq_true, if_false] at hok ⊢
    split
    · rename_i hg
      rw [if_pos hg] at hok
      exact lay_opn _ _ _ _ _ hok
    · exact ho1

theorem DiskR.fused {w w1 : World} {rd rf : Nat} {d : D} {av : List Nat} {f : F} (h : DiskR w rd rf d av) (hf : FuseR w1 rf f) (hm : Mod [rf] w w1) : DiskR w1 rd rf { d with fuse := f } av := by
  obtain ⟨⟨vl, vn, vi, vb, h1, h2, h3, h4⟩, h5, h6, h7, h8⟩ := h
  exact ⟨⟨vl, vn, vi, vb, h1.mod hm (by simp; exact h6), h2.mod hm (by simp), h3.mod hm (by simp), h4.mod hm (by simp)⟩, hf, h6, h7, ⟨h8.s1, h8.s2, h8.n1, h8.n2, h8.each, h8.opn⟩⟩

/-- The two disks, beside some further blocks. -/
structure Disks (w : World) (B bd bs bf rd rf : Nat) (A : List Nat) (d d' : D) : Prop where
  di : DiskI w bd bs bf d (rd :: rf :: A)
  dr : DiskR w rd rf d' (bd :: bs :: bf :: A)
  lt : ∀ x ∈ A, x < w.heap.size
  base : ∀ x ∈ bd :: bs :: bf :: rd :: rf :: A, B ≤ x
section
variable {w w' : World} {B bd bs bf rd rf : Nat} {A : List Nat} {d d' e : D}
theorem Disks.ltI (h : Disks w B bd bs bf rd rf A d d') : ∀ x ∈ rd :: rf :: A, x < w.heap.size := by
  have h1 := h.dr.lts
  intro x hx
  rcases List.mem_cons.1 hx with e | hx
  · rw [e]; exact h1.1
  rcases List.mem_cons.1 hx with e | hx
  · rw [e]; exact h1.2
  · exact h.lt x hx
theorem Disks.ltR (h : Disks w B bd bs bf rd rf A d d') : ∀ x ∈ bd :: bs :: bf :: A, x < w.heap.size := by
  have h1 := h.di.lts
  intro x hx
  rcases List.mem_cons.1 hx with e | hx
  · rw [e]; exact h1.1
  rcases List.mem_cons.1 hx with e | hx
  · rw [e]; exact h1.2.1
  rcases List.mem_cons.1 hx with e | hx
  · rw [e]; exact h1.2.2
  · exact h.lt x hx
/-- The program's side turned. -/
theorem Disks.left {S : List Nat} (h : Disks w B bd bs bf rd rf A d d') (hd : DiskI w' bd bs bf e (rd :: rf :: A)) (hm : Mod S w w') (hs : ∀ x ∈ S, x ∈ bd :: bs :: bf :: A) : Disks w' B bd bs bf rd rf A e d' :=
  ⟨hd, h.dr.mod hm hs, fun x hx => Nat.lt_of_lt_of_le (h.lt x hx) hm.size, h.base⟩
/-- The reference's side turned. -/
theorem Disks.right {S : List Nat} (h : Disks w B bd bs bf rd rf A d d') (hd : DiskR w' rd rf e (bd :: bs :: bf :: A)) (hm : Mod S w w') (hs : ∀ x ∈ S, x ∈ rd :: rf :: A) : Disks w' B bd bs bf rd rf A d e :=
  ⟨h.di.mod hm hs, hd, fun x hx => Nat.lt_of_lt_of_le (h.lt x hx) hm.size, h.base⟩
theorem Disks.same (h : Disks w B bd bs bf rd rf A d d') (hm : Mod [] w w') : Disks w' B bd bs bf rd rf A d d' := h.left (h.di.same hm) hm (by simp)
/-- Fewer blocks, or new ones. -/
theorem Disks.avoid {A' : List Nat} (h : Disks w B bd bs bf rd rf A d d') (hs : ∀ x ∈ A', x ∈ A ∨ w.heap.size ≤ x) (hl : ∀ x ∈ A', x < w.heap.size) : Disks w B bd bs bf rd rf A' d d' := by
  have hs' : ∀ x ∈ A', x ∈ A := fun x hx => (hs x hx).resolve_right (by have := hl x hx; omega)
  refine ⟨h.di.avoid (fun x hx => ?_), h.dr.avoid (fun x hx => ?_), hl, fun x hx => h.base x ?_⟩
  · rcases List.mem_cons.1 hx with e | hx
    · exact .inl (by rw [e]; simp)
    rcases List.mem_cons.1 hx with e | hx
    · exact .inl (by rw [e]; simp)
    · exact .inl (by simp [hs' x hx])
  · rcases List.mem_cons.1 hx with e | hx
    · exact .inl (by rw [e]; simp)
    rcases List.mem_cons.1 hx with e | hx
    · exact .inl (by rw [e]; simp)
    rcases List.mem_cons.1 hx with e | hx
    · exact .inl (by rw [e]; simp)
    · exact .inl (by simp [hs' x hx])
  · simp only [List.mem_cons] at hx ⊢
    rcases hx with e | e | e | e | e | e
    all_goals first | (simp [e]; done) | simp [hs' x e]
end

/-- The two logs, over the two disks. -/
structure Logs (w : World) (B bd bs bf rd rf bw rw_ : Nat) (d d' : D) (l l' : Lg) : Prop where
  disks : Disks w B bd bs bf rd rf [bw, rw_] d d'
  li : LogI w bw bd l
  lr : LogR w rw_ rd l' ([rd, rf] ++ [bd, bs, bf, bw, rw_])
  fi : LgFits d l
  fr : LgFits d' l'
  ne : bw ≠ rw_
section
variable {w w' : World} {B bd bs bf rd rf bw rw_ : Nat} {d d' e : D} {l l' m : Lg}
theorem Logs.apart (h : Logs w B bd bs bf rd rf bw rw_ d d' l l') : (∀ x ∈ [bd, bs, bf, bw], x ∉ [rd, rf, rw_]) := by
  have h1 := h.disks.di.out
  have h2 := h.disks.dr.out
  have h3 := h.ne
  simp only [List.mem_cons, not_or, List.not_mem_nil, not_false_eq_true, and_true] at h1 h2
  intro x hx
  simp only [List.mem_cons, List.not_mem_nil, or_false] at hx
  simp only [List.mem_cons, not_or, List.not_mem_nil, not_false_eq_true, and_true]
  rcases hx with rfl | rfl | rfl | rfl
  · exact ⟨h1.1.1, h1.1.2.1, h1.1.2.2.2⟩
  · exact ⟨h1.2.1.1, h1.2.1.2.1, h1.2.1.2.2.2⟩
  · exact ⟨h1.2.2.1, h1.2.2.2.1, h1.2.2.2.2.2⟩
  · exact ⟨fun e => h2.1.2.2.2.1 e.symm, fun e => h2.2.2.2.2.1 e.symm, h3⟩
theorem Logs.left (h : Logs w B bd bs bf rd rf bw rw_ d d' l l') (hd : DiskI w' bd bs bf e [rd, rf, bw, rw_]) (hl : LogI w' bw bd m) (hf : LgFits e m) (hm : Mod [bd, bs, bf, bw] w w') : Logs w' B bd bs bf rd rf bw rw_ e d' m l' :=
  ⟨h.disks.left hd hm (by simp only [List.mem_cons, List.not_mem_nil, or_false]; rintro x (e | e | e | e) <;> simp [e]), hl,
    h.lr.mod hm (fun hx => h.apart rw_ hx (by simp)) (by simp only [List.mem_cons, List.not_mem_nil, or_false]; rintro x (e | e | e | e) <;> simp [e]), hf, h.fr, h.ne⟩
theorem Logs.right (h : Logs w B bd bs bf rd rf bw rw_ d d' l l') (hd : DiskR w' rd rf e [bd, bs, bf, bw, rw_]) (hl : LogR w' rw_ rd m ([rd, rf] ++ [bd, bs, bf, bw, rw_])) (hf : LgFits e m) (hm : Mod [rd, rf, rw_] w w') : Logs w' B bd bs bf rd rf bw rw_ d e l m :=
  ⟨h.disks.right hd hm (by simp only [List.mem_cons, List.not_mem_nil, or_false]; rintro x (e | e | e) <;> simp [e]),
    h.li.mod hm (fun hx => h.apart bw (by simp) hx), hl, h.fi, hf, h.ne⟩
theorem Logs.same (h : Logs w B bd bs bf rd rf bw rw_ d d' l l') (hm : Mod [] w w') : Logs w' B bd bs bf rd rf bw rw_ d d' l l' :=
  h.left (h.disks.di.same hm) (h.li.mod hm (by simp)) h.fi (hm.mono (by simp))
theorem Logs.baseL (h : Logs w B bd bs bf rd rf bw rw_ d d' l l') : ∀ x ∈ [bd, bs, bf, bw], B ≤ x := fun x hx => h.disks.base x (by simp only [List.mem_cons, List.not_mem_nil, or_false] at hx ⊢; rcases hx with e | e | e | e <;> simp [e])
theorem Logs.baseR (h : Logs w B bd bs bf rd rf bw rw_ d d' l l') : ∀ x ∈ [rd, rf, rw_], B ≤ x := fun x hx => h.disks.base x (by simp only [List.mem_cons, List.not_mem_nil, or_false] at hx ⊢; rcases hx with e | e | e <;> simp [e])

variable (h : Logs w B bd bs bf rd rf bw rw_ d d' l l') (s : ByteArray)
include h
theorem app_i : Calls Try.prog 16 #[ptr bw, .string s] w fun e w' => e = .returned (.int .i64 (appE d l s)) ∧ Logs w' B bd bs bf rd rf bw rw_ (appD d l s) d' (appL d l s) l' ∧ Mod [bd, bs, bf, bw] w w' :=
  (append_any bw bd bs bf d _ l s w h.li h.disks.di h.fi h.disks.ltI (by simp)).mono fun _ _ ⟨he, h1, h2, h3⟩ => ⟨he, h.left h2 h1 (app_fits s h.fi) h3, h3⟩
theorem app_r : Calls Try.prog 23 #[ptr rw_, .string s] w fun e w' => e = .returned (.int .i64 (appE d' l' s)) ∧ Logs w' B bd bs bf rd rf bw rw_ d (appD d' l' s) l (appL d' l' s) ∧ Mod [rd, rf, rw_] w w' :=
  (rappend_any rw_ rd rf d' _ l' s w h.lr h.disks.dr h.fr h.disks.ltR (by simp)).mono fun _ _ ⟨he, h1, h2, h3⟩ => ⟨he, h.right h2 h1 (app_fits s h.fr) h3, h3⟩
theorem chk_i : Calls Try.prog 17 #[ptr bw, .string s] w fun e w' => e = .returned (.int .i64 (chkE d l s)) ∧ Logs w' B bd bs bf rd rf bw rw_ (chkD d l s) d' (chkL d l s) l' ∧ Mod [bd, bs, bf, bw] w w' :=
  (check_any bw bd bs bf d _ l s w h.li h.disks.di h.fi h.disks.ltI (by simp)).mono fun _ _ ⟨he, h1, h2, h3⟩ => ⟨he, h.left h2 h1 (chk_fits s h.disks.di.fits h.fi) h3, h3⟩
theorem chk_r : Calls Try.prog 24 #[ptr rw_, .string s] w fun e w' => e = .returned (.int .i64 (chkE d' l' s)) ∧ Logs w' B bd bs bf rd rf bw rw_ d (chkD d' l' s) l (chkL d' l' s) ∧ Mod [rd, rf, rw_] w w' :=
  (rcheck_any rw_ rd rf d' _ l' s w h.lr h.disks.dr h.fr h.disks.ltR (by simp)).mono fun _ _ ⟨he, h1, h2, h3⟩ => ⟨he, h.right h2 h1 (chk_fits s h.disks.dr.fits h.fr) h3, h3⟩
end
section
variable {w : World} {B bd bs bf rd rf : Nat} {A : List Nat} {d d' : D} (h : Disks w B bd bs bf rd rf A d d')
include h
theorem arm_i (n : Int) (hn : n ≤ 9223372036854775807) : Calls Try.prog 25 #[ptr bf, .int .i64 n] w fun e w' => e = .returned (.tuple #[]) ∧ Disks w' B bd bs bf rd rf A { d with fuse := d.fuse.arm n } d' ∧ Mod [bf] w w' :=
  (arm_any bf d.fuse n w h.di.fuse hn).mono fun _ _ ⟨he, h1, h2⟩ => ⟨he, h.left (h.di.fused h1 h2) h2 (by simp), h2⟩
theorem arm_r (n : Int) (hn : n ≤ 9223372036854775807) : Calls Try.prog 26 #[ptr rf, .int .i64 n] w fun e w' => e = .returned (.tuple #[]) ∧ Disks w' B bd bs bf rd rf A d { d' with fuse := d'.fuse.arm n } ∧ Mod [rf] w w' :=
  (rarm_any rf d'.fuse n w h.dr.fuse hn).mono fun _ _ ⟨he, h1, h2⟩ => ⟨he, h.right (h.dr.fused h1 h2) h2 (by simp), h2⟩
theorem crash_i (keep : Nat) (torn : Int) (hk : keep ≤ 18446744073709551615) : Calls Try.prog 27 #[ptr bd, .int .u64 keep, .int .i64 torn] w fun e w' => e = .returned (.tuple #[]) ∧ Disks w' B bd bs bf rd rf A (d.crash keep torn.toNat) d' ∧ Mod [bd, bs, bf] w w' :=
  (crash_any bd bs bf d _ keep torn w h.di h.ltI hk).mono fun _ _ ⟨he, h1, h2⟩ => ⟨he, h.left h1 h2 (by simp only [List.mem_cons, List.not_mem_nil, or_false]; rintro x (e | e | e) <;> simp [e]), h2⟩
theorem crash_r (keep : Nat) (torn : Int) : Calls Try.prog 28 #[ptr rd, .int .u64 keep, .int .i64 torn] w fun e w' => e = .returned (.tuple #[]) ∧ Disks w' B bd bs bf rd rf A d (d'.crash keep torn.toNat) ∧ Mod [rd, rf] w w' :=
  (rcrash_any rd rf d' _ keep torn w h.dr h.ltR).mono fun _ _ ⟨he, h1, h2⟩ => ⟨he, h.right h1 h2 (by simp only [List.mem_cons, List.not_mem_nil, or_false]; rintro x (e | e) <;> simp [e]), h2⟩
end
section
variable {w : World} {B bd bs bf rd rf bw rw_ : Nat} {d d' : D} {l l' : Lg} (h : Logs w B bd bs bf rd rf bw rw_ d d' l l')
include h
theorem larm_i (n : Int) (hn : n ≤ 9223372036854775807) : Calls Try.prog 25 #[ptr bf, .int .i64 n] w fun e w' => e = .returned (.tuple #[]) ∧ Logs w' B bd bs bf rd rf bw rw_ { d with fuse := d.fuse.arm n } d' l l' ∧ Mod [bf] w w' :=
  (arm_i h.disks n hn).mono fun _ _ ⟨he, h1, h2⟩ => ⟨he, ⟨h1, h.li.mod h2 (by
    have := h.disks.di.out.2.2
    simp only [List.mem_cons, not_or, List.not_mem_nil, not_false_eq_true, and_true] at this ⊢
    exact fun e => this.2.2.1 e.symm), h.lr.mod h2 (fun hx => h.apart rw_ (by simp at hx; simp [hx]) (by simp)) (by simp), ⟨h.fi.area, h.fi.gen, h.fi.recs, h.fi.opn⟩, h.fr, h.ne⟩, h2⟩
theorem larm_r (n : Int) (hn : n ≤ 9223372036854775807) : Calls Try.prog 26 #[ptr rf, .int .i64 n] w fun e w' => e = .returned (.tuple #[]) ∧ Logs w' B bd bs bf rd rf bw rw_ d { d' with fuse := d'.fuse.arm n } l l' ∧ Mod [rf] w w' :=
  (arm_r h.disks n hn).mono fun _ _ ⟨he, h1, h2⟩ => ⟨he, ⟨h1, h.li.mod h2 (fun hx => h.apart bw (by simp) (by simp at hx; simp [hx])), h.lr.mod h2 (by
    have := h.disks.dr.out.2
    simp only [List.mem_cons, not_or, List.not_mem_nil, not_false_eq_true, and_true] at this ⊢
    exact fun e => this.2.2.2.2 e.symm) (by simp), h.fi, ⟨h.fr.area, h.fr.gen, h.fr.recs, h.fr.opn⟩, h.ne⟩, h2⟩
end

/-- The program's log is opened. -/
def OpenI (w w' : World) (e : Ending) (B bd bs bf rd rf : Nat) (d d' : D) : Prop :=
  Mod [bd, bs, bf] w w' ∧
  ((openOk d = true ∧ ∃ bw v, e = .returned (.tuple #[ptr bw, v, .int .i64 0]) ∧ w.heap.size ≤ bw ∧ LogI w' bw bd (openL d) ∧ Disks w' B bd bs bf rd rf [bw] (openD d) d' ∧ StrsAt w' v (openL d).recs (bw :: [bd, bs, bf] ++ [rd, rf])) ∨
   (openOk d = false ∧ e = .returned (.tuple #[.pointer none, .slice none 0 0, .int .i64 2]) ∧ Disks w' B bd bs bf rd rf [] (openD d) d'))
theorem open_i {w : World} {B bd bs bf rd rf : Nat} {A : List Nat} {d d' : D} (h0 : Disks w B bd bs bf rd rf A d d') (hB : B ≤ w.heap.size) :
    Calls Try.prog 12 #[ptr bd] w fun e w' => OpenI w w' e B bd bs bf rd rf d d' := by
  have h : Disks w B bd bs bf rd rf [] d d' := h0.avoid (by simp) (by simp)
  refine (open_any bd bs bf d [rd, rf] w h.di h.ltI).mono fun e w' ⟨hm, h1⟩ => ⟨hm, ?_⟩
  have hs : ∀ x ∈ [bd, bs, bf], x ∈ [bd, bs, bf] := fun x hx => hx
  rcases h1 with ⟨hok, bw, v, he, hlt, hl, hd, hst⟩ | ⟨hok, he, hd⟩
  · refine .inl ⟨hok, bw, v, he, hlt, hl, ⟨hd.avoid ?_, (h.dr.avoid (av' := [bd, bs, bf, bw]) ?_).mod hm ?_, ?_, ?_⟩, hst⟩
    · simp only [List.mem_cons, List.not_mem_nil, or_false]; rintro x (e | e | e) <;> simp [e]
    · simp only [List.mem_cons, List.not_mem_nil, or_false]; rintro x (e | e | e | e)
      · simp [e]
      · simp [e]
      · simp [e]
      · right; rw [e]; exact hlt
    · simp only [List.mem_cons, List.not_mem_nil, or_false]; rintro x (e | e | e) <;> simp [e]
    · intro x hx; rw [List.mem_singleton.1 hx]; exact Blk.lt hl
    · intro x hx
      simp only [List.mem_cons, List.not_mem_nil, or_false] at hx
      rcases hx with e | e | e | e | e | e
      · exact h.base x (by simp [e])
      · exact h.base x (by simp [e])
      · exact h.base x (by simp [e])
      · exact h.base x (by simp [e])
      · exact h.base x (by simp [e])
      · rw [e]; omega
  · exact .inr ⟨hok, he, h.left hd hm hs⟩
/-- The reference's log is opened, behind the program's. -/
theorem open_r_yes {w : World} {B bd bs bf rd rf bw : Nat} {d e : D} {l : Lg} (h : Disks w B bd bs bf rd rf [bw] e d) (hl : LogI w bw bd l) (hf : LgFits e l) (hok : openOk d = true) (hB : B ≤ w.heap.size) :
    Calls Try.prog 22 #[ptr rd] w fun r w' => ∃ rw_, r = .returned (.tuple #[ptr rw_, .int .i64 0]) ∧ Logs w' B bd bs bf rd rf bw rw_ e (openD d) l (openL d) ∧ Mod [rd, rf] w w' := by
  refine (ropen_any rd rf d [bd, bs, bf, bw] w h.dr h.ltR).mono fun r w' ⟨hm, h1⟩ => ?_
  rcases h1 with ⟨_, rw_, he, hlt, hl2, hd⟩ | ⟨hno, _⟩
  · have hbw : bw < w.heap.size := h.lt bw (by simp)
    have hne : bw ∉ [rd, rf] := by
      have h2 := h.dr.out
      simp only [List.mem_cons, not_or, List.not_mem_nil, not_false_eq_true, and_true] at h2 ⊢
      exact ⟨fun e => h2.1.2.2.2 e.symm, fun e => h2.2.2.2.2 e.symm⟩
    have hrwl : rw_ < w'.heap.size := by obtain ⟨v, hb, _⟩ := hl2; exact hb.lt
    refine ⟨rw_, he, ⟨⟨(h.di.avoid (av' := [rd, rf, bw, rw_]) ?_).mod hm (by simp only [List.mem_cons, List.not_mem_nil, or_false]; rintro x (e | e) <;> simp [e]), hd.avoid ?_, ?_, ?_⟩, hl.mod hm hne, hl2.out ?_, hf, open_fits h.dr.fits hok, by omega⟩, hm⟩
    · simp only [List.mem_cons, List.not_mem_nil, or_false]; rintro x (e | e | e | e)
      · simp [e]
      · simp [e]
      · simp [e]
      · right; rw [e]; exact hlt
    · simp only [List.mem_cons, List.not_mem_nil, or_false]; rintro x (e | e | e | e | e) <;> simp [e]
    · intro x hx
      simp only [List.mem_cons, List.not_mem_nil, or_false] at hx
      rcases hx with e | e
      · rw [e]; exact Nat.lt_of_lt_of_le hbw hm.size
      · rw [e]; exact hrwl
    · intro x hx
      simp only [List.mem_cons, List.not_mem_nil, or_false] at hx
      rcases hx with e | e | e | e | e | e | e
      · exact h.base x (by simp [e])
      · exact h.base x (by simp [e])
      · exact h.base x (by simp [e])
      · exact h.base x (by simp [e])
      · exact h.base x (by simp [e])
      · exact h.base x (by simp [e])
      · rw [e]; omega
    · intro x hx
      simp only [List.cons_append, List.nil_append, List.mem_cons, List.not_mem_nil, or_false] at hx ⊢
      rcases hx with e | e | e | e | e | e | e <;> simp [e]
  · rw [hok] at hno; cases hno
theorem open_r_no {w : World} {B bd bs bf rd rf : Nat} {d e : D} (h : Disks w B bd bs bf rd rf [] e d) (hok : openOk d = false) :
    Calls Try.prog 22 #[ptr rd] w fun r w' => r = .returned (.tuple #[.pointer none, .int .i64 2]) ∧ Disks w' B bd bs bf rd rf [] e (openD d) ∧ Mod [rd, rf] w w' := by
  refine (ropen_any rd rf d [bd, bs, bf] w h.dr h.ltR).mono fun r w' ⟨hm, h1⟩ => ?_
  rcases h1 with ⟨hyes, _⟩ | ⟨_, he, hd⟩
  · rw [hok] at hyes; cases hyes
  · exact ⟨he, h.right hd hm (by simp only [List.mem_cons, List.not_mem_nil, or_false]; rintro x (e | e) <;> simp [e]), hm⟩
end Go.Proofs.Yteidhbjfmmodhaa
