/- The walks over the reference's disk: it is the same plain machine. -/
import Derived.Test.YteidhbjfmmodhaaWal4
import Derived.Test.YteidhbjfmmodhaaFrRef
import Derived.Maps.AppendAt
import Derived.Laws.OwnMore
namespace Go.Proofs.Yteidhbjfmmodhaa
open Go.RowKit Crc Fr

theorem own_empty (w : World) (e : TypeId) : (w.alloc (.cells #[] e)).ownsRow w.heap.size e 1 (.slice (some ⟨w.heap.size, 0, none⟩) 0 0) 0 [] :=
  ⟨rfl, .inr ⟨w.heap.size, 0, #[], rfl, Nat.le_refl _, by show (w.heap.push _)[w.heap.size]? = _; simp, Nat.le_refl _, by simp [maxLen], rfl, rfl⟩⟩

theorem own_empty_at (w : World) (e : TypeId) (n : Nat) (hn : w.heap.size = n) : (w.alloc (.cells #[] e)).ownsRow n e 1 (.slice (some ⟨n, 0, none⟩) 0 0) 0 [] := by
  subst hn; exact own_empty w e
theorem one_new_at (w : World) (x : Value) (e : TypeId) (n : Nat) (hn : w.heap.size = n) : ∀ (j : Nat) (u : Value), [x][j]? = some u → (w.alloc (.cells #[x] e)).cell? ((⟨n, 0, none⟩ : Addr).add j) = some u := by
  subst hn; exact one_new w x e

theorem own_one {w : World} {base : Nat} {e : TypeId} {v x : Value} (h : w.ownsRow base e 1 v 1 [x]) : ∃ g c, v = .slice (some ⟨g, 0, none⟩) 1 c ∧ base ≤ g ∧ w.cell? ⟨g, 0, none⟩ = some x := by
  rcases h.2 with ⟨_, h2⟩ | ⟨g, cap, cur, rfl, hb, _⟩
  · cases h2
  · refine ⟨g, cap, rfl, hb, ?_⟩
    have := h.cellAt 0 (by omega)
    simpa using this

theorem strs_src {w w1 : World} {g : Nat} {l : List ByteArray} (hc : ∀ i (h : i < l.length), w.cell? ⟨g, i, none⟩ = some (.string l[i])) (hm : Mod [] w w1) :
    ∀ (j : Nat) (u : Value), (l.map Value.string)[j]? = some u → (w1.alloc (.cells #[] 9)).cell? ((⟨g, 0, none⟩ : Addr).add j) = some u := by
  intro j u hj
  have hjl : j < l.length := by
    have := (List.getElem?_eq_some_iff.1 hj).1
    simpa using this
  have hplain : (⟨g, 0, none⟩ : Addr).add j = ⟨g, j, none⟩ := by unfold Addr.add; split <;> simp_all
  rw [hplain, (hm.alloc (.cells #[] 9)).cell (hc j hjl) (by simp)]
  simp [hjl] at hj
  rw [hj]

set_option maxHeartbeats 2000000 in
theorem rset_str (v : Value) (l : List ByteArray) (o1 : List Nat) (i : Nat) (s : ByteArray) (w : World) (h : StrsAt w v l o1) (hi : i < l.length) (hl : l.length ≤ 100000) :
    Calls Try.prog 47 #[v, .int .i64 i, .string s] w fun e w' => ∃ v', e = .returned v' ∧ Mod [] w w' ∧ ∀ out, (∀ x ∈ out, x < w.heap.size) → StrsAt w' v' (l.set i s) out := by
  rcases h with ⟨_, e⟩ | ⟨g, cap, rfl, hc, _, hlt⟩
  · rw [e] at hi; exact absurd hi (Nat.not_lt_zero _)
  have HC := Lib.hid hc
  have HI := Lib.hid (And.intro hi hl)
  clear hc hi hl
  obtain ⟨i0, hinf, hz0, hz1, hz2⟩ := info_parts info_str
  have HI0 := Lib.hid (And.intro hinf (And.intro hz0 (And.intro hz1 hz2)))
  clear hinf hz0 hz1 hz2
  go_enter Try.func47, Try.ntmps47
  have HSRC := Lib.hid (strs_src HC.out (Mod.refl [] w))
  have HL1 := Lib.hid (show 0 + l.length ≤ maxLen by have := HI.out; unfold maxLen; omega)
  have HL2 := Lib.hid (show (0 + l.length) * 16 ≤ 140737488355328 by have := HI.out; omega)
  go_wp2_with (at_builtin; refine wpList_append_own _ rfl (.tmp 8) (.tmp 9) 31 rfl w.heap.size 9 i0 (.string ⟨#[]⟩) 1 16 Try.underlying31 HI0.out.1 HI0.out.2.1 HI0.out.2.2.1 HI0.out.2.2.2 rfl (by decide) _ 0 [] rfl (own_empty w 9) ⟨g, 0, none⟩ l.length cap (l.map Value.string) rfl (by rw [List.length_map, Nat.mul_one]) HSRC.out (by intro u hu; obtain ⟨s, _, rfl⟩ := List.mem_map.1 hu; rfl) HL1.out HL2.out (by simp) ?_)
  intro v' w2 hown hg2 _
  obtain ⟨sa, sc, hv⟩ := own_slice hown
  obtain rfl := hv
  have hpos : sa ≠ none := by
    intro e; subst e
    rcases hown.2 with ⟨e1, e2⟩ | ⟨g3, cap3, cur3, e1, _⟩
    · have := HI.out; omega
    · cases e1
  obtain ⟨g2, rfl⟩ : ∃ g2, sa = some ⟨g2, 0, none⟩ := by
    rcases hown.2 with ⟨e1, e2⟩ | ⟨g3, cap3, cur3, e1, _⟩
    · have := HI.out; omega
    · cases e1; exact ⟨g3, rfl⟩
  clear hpos
  have f1 := hown.frozenAt i
  have f2 := hown.cellAt i (by have := HI.out; omega)
  have f3 : (l.map Value.string)[i]? = some (.string (sect l i)) := by unfold sect; have := HI.out; simp [List.getD, this]
  rw [f3] at f2
  have hii : (i : Int) < (l.length : Int) := by have := HI.out; omega
  have HOWN := Lib.hid hown
  have hm2 : Mod [] w w2 := by
    refine ((Mod.refl [] w).alloc (.cells #[] 9)).grown hg2 (fun k hk => by simp [Value.ownBlock] at hk; omega)
  have HM2 := Lib.hid hm2
  have hb2 : w.heap.size ≤ g2 := (hown.lt g2 rfl).1
  have HB2 := Lib.hid hb2
  clear hown hg2 f3 hm2 hb2 HSRC
  go_wp2
  go_ret
  refine ⟨_, rfl, HM2.out.setNew (p := ⟨g2, i, none⟩) HB2.out _, fun out ho => ?_⟩
  have h2 := (HOWN.out.stored i (.string s)).1
  have h3 : (l.map Value.string).set i (.string s) = (l.set i s).map Value.string := by rw [List.map_set]
  rw [h3] at h2
  have h4 : l.length = (l.set i s).length := by simp
  rw [h4] at h2 ⊢
  exact own_strs h2 ho

theorem StrsAt.out {w : World} {v : Value} {l : List ByteArray} {out out' : List Nat} (h : StrsAt w v l out) (hs : ∀ x ∈ out', x ∈ out ∨ w.heap.size ≤ x) : StrsAt w v l out' := by
  rcases h with h | ⟨g, cap, h1, h2, h3, h4⟩
  · exact .inl h
  · refine .inr ⟨g, cap, h1, h2, fun hx => ?_, h4⟩
    rcases hs _ hx with h5 | h5
    · exact h3 h5
    · omega

theorem StrsAt.sl {w : World} {v : Value} {l : List ByteArray} {out : List Nat} (h : StrsAt w v l out) : ∃ a n c, v = .slice a n c := by
  rcases h with ⟨rfl, rfl⟩ | ⟨g, cap, h1, _⟩
  · exact ⟨_, _, _, rfl⟩
  · exact ⟨_, _, _, h1⟩

/-- The reference's write that isn't flushed, in memory. -/
def OpenR (w : World) (vi vb : Value) : Option (Nat × ByteArray) → List Nat → Prop
  | none, _ => vi = .slice none 0 0 ∧ vb = .slice none 0 0
  | some (i, b), out => ∃ g1 c1 g2 c2, vi = .slice (some ⟨g1, 0, none⟩) 1 c1 ∧ vb = .slice (some ⟨g2, 0, none⟩) 1 c2 ∧ w.cell? ⟨g1, 0, none⟩ = some (.int .i64 i) ∧ w.cell? ⟨g2, 0, none⟩ = some (.string b) ∧ g1 ∉ out ∧ g2 ∉ out
theorem OpenR.mod {S : List Nat} {w w' : World} {vi vb : Value} {o : Option (Nat × ByteArray)} {out : List Nat} (h : OpenR w vi vb o out) (hm : Mod S w w') (hs : ∀ x ∈ S, x ∈ out) : OpenR w' vi vb o out := by
  cases o with
  | none => exact h
  | some p =>
    obtain ⟨i, b⟩ := p
    obtain ⟨g1, c1, g2, c2, h1, h2, h3, h4, h5, h6⟩ := h
    exact ⟨g1, c1, g2, c2, h1, h2, hm.cell h3 (fun hx => h5 (hs _ hx)), hm.cell h4 (fun hx => h6 (hs _ hx)), h5, h6⟩
theorem OpenR.out {w : World} {vi vb : Value} {o : Option (Nat × ByteArray)} {out out' : List Nat} (h : OpenR w vi vb o out) (hs : ∀ x ∈ out', x ∈ out ∨ w.heap.size ≤ x) : OpenR w vi vb o out' := by
  cases o with
  | none => exact h
  | some p =>
    obtain ⟨i, b⟩ := p
    obtain ⟨g1, c1, g2, c2, h1, h2, h3, h4, h5, h6⟩ := h
    have l1 := lt_of_cell h3
    have l2 := lt_of_cell h4
    simp only at l1 l2
    refine ⟨g1, c1, g2, c2, h1, h2, h3, h4, fun hx => ?_, fun hx => ?_⟩
    · rcases hs _ hx with h7 | h7
      · exact h5 h7
      · omega
    · rcases hs _ hx with h7 | h7
      · exact h6 h7
      · omega

/-- The reference's disk, in memory. -/
structure DiskR (w : World) (rd rf : Nat) (d : D) (av : List Nat) : Prop where
  blk : ∃ vl vn vi vb, Blk w rd [.int .i64 d.size, vl, vn, vi, vb, ptr rf] 76 ∧ StrsAt w vl d.last ([rd, rf] ++ av) ∧ StrsAt w vn d.now ([rd, rf] ++ av) ∧ OpenR w vi vb d.opn ([rd, rf] ++ av)
  fuse : FuseR w rf d.fuse
  ne : rd ≠ rf
  out : rd ∉ av ∧ rf ∉ av
  fits : d.Fits
theorem DiskR.mod {S : List Nat} {w w' : World} {rd rf : Nat} {d : D} {av : List Nat} (h : DiskR w rd rf d av) (hm : Mod S w w') (hs : ∀ x ∈ S, x ∈ av) : DiskR w' rd rf d av := by
  obtain ⟨⟨vl, vn, vi, vb, h1, h2, h3, h4⟩, h5, h6, h7, h8⟩ := h
  have hs2 : ∀ x ∈ S, x ∈ [rd, rf] ++ av := fun x hx => List.mem_append_right _ (hs x hx)
  exact ⟨⟨vl, vn, vi, vb, h1.mod hm (fun hx => h7.1 (hs _ hx)), h2.mod hm (fun x hx => .inl (hs2 x hx)), h3.mod hm (fun x hx => .inl (hs2 x hx)), h4.mod hm hs2⟩, h5.mod hm (fun hx => h7.2 (hs _ hx)), h6, h7, h8⟩
theorem DiskR.same {w w' : World} {rd rf : Nat} {d : D} {av : List Nat} (h : DiskR w rd rf d av) (hm : Mod [] w w') : DiskR w' rd rf d av := h.mod hm (by simp)
theorem DiskR.lts {w : World} {rd rf : Nat} {d : D} {av : List Nat} (h : DiskR w rd rf d av) : rd < w.heap.size ∧ rf < w.heap.size := by
  obtain ⟨⟨vl, vn, vi, vb, h1, _⟩, h5, _⟩ := h
  obtain ⟨⟨l, hb, _⟩, _⟩ := h5
  exact ⟨h1.lt, hb.lt⟩
theorem DiskR.avoid {w : World} {rd rf : Nat} {d : D} {av av' : List Nat} (h : DiskR w rd rf d av) (hs : ∀ x ∈ av', x ∈ av ∨ w.heap.size ≤ x) : DiskR w rd rf d av' := by
  have hl := h.lts
  obtain ⟨⟨vl, vn, vi, vb, h1, h2, h3, h4⟩, h5, h6, h7, h8⟩ := h
  have hs2 : ∀ x ∈ [rd, rf] ++ av', x ∈ [rd, rf] ++ av ∨ w.heap.size ≤ x := by
    intro x hx
    rcases List.mem_append.1 hx with hx | hx
    · exact .inl (List.mem_append_left _ hx)
    · rcases hs x hx with h9 | h9
      · exact .inl (List.mem_append_right _ h9)
      · exact .inr h9
  have g : ∀ k, k < w.heap.size → k ∉ av → k ∉ av' := by
    intro k hk hn hx
    rcases hs k hx with h8 | h8
    · exact hn h8
    · omega
  exact ⟨⟨vl, vn, vi, vb, h1, h2.out hs2, h3.out hs2, h4.out hs2⟩, h5, h6, ⟨g _ hl.1 h7.1, g _ hl.2 h7.2⟩, h8⟩

theorem DiskR.spent {w w1 : World} {rd rf : Nat} {d : D} {av : List Nat} (h : DiskR w rd rf d av) (hf : FuseR w1 rf d.fuse.spend) (hm : Mod [rf] w w1) : DiskR w1 rd rf d.spend av := by
  obtain ⟨⟨vl, vn, vi, vb, h1, h2, h3, h4⟩, h5, h6, h7, h8⟩ := h
  exact ⟨⟨vl, vn, vi, vb, h1.mod hm (by simp; exact h6), h2.mod hm (by simp), h3.mod hm (by simp), h4.mod hm (by simp)⟩, hf, h6, h7, h8.spend⟩

set_option maxHeartbeats 1000000 in
theorem clamp_any (n lo hi : Int) (w : World) (hlh : lo ≤ hi) :
    Calls Try.prog 39 #[.int .i64 n, .int .i64 lo, .int .i64 hi] w fun e w' => e = .returned (.int .i64 (min (max n lo) hi)) ∧ w' = w := by
  obtain ⟨r, hr⟩ : ∃ r, r = min (max n lo) hi := ⟨_, rfl⟩
  rw [← hr]
  have HR := Lib.hid hr
  clear hr
  by_cases h1 : n < lo
  · obtain rfl : r = lo := by have := HR.out; omega
    clear HR hlh
    go_enter Try.func39, Try.ntmps39
    go_wp2
    go_ret
    exact ⟨rfl, rfl⟩
  · by_cases h2 : hi < n
    · obtain rfl : r = hi := by have := HR.out; omega
      clear HR hlh
      go_enter Try.func39, Try.ntmps39
      go_wp2
      go_ret
      exact ⟨rfl, rfl⟩
    · obtain rfl : r = n := by have := HR.out; omega
      clear HR hlh
      go_enter Try.func39, Try.ntmps39
      go_wp2
      go_ret
      exact ⟨rfl, rfl⟩

set_option maxHeartbeats 2000000 in
theorem rflush_any (rd rf : Nat) (d : D) (av : List Nat) (w : World) (h : DiskR w rd rf d av) :
    Calls Try.prog 40 #[ptr rd] w fun e w' => e = .returned (.int .i64 (if d.fuse.stop then 2 else 0)) ∧ DiskR w' rd rf d.flush av ∧ Mod [rd, rf] w w' := by
  obtain ⟨vl, vn, vi, vb, hb, hl, hn, ho⟩ := h.blk
  obtain ⟨na, nn, nc, hv⟩ := hn.sl
  obtain rfl := hv
  obtain ⟨c0, c1, c2, c3, c4, c5, fz⟩ := hb.cells6
  have H := Lib.hid h
  have HB := Lib.hid hb
  have HS := Lib.hid (And.intro hl (And.intro hn ho))
  clear h hb hl hn ho
  cases hst : d.fuse.stop
  · have HST := Lib.hid hst
    clear hst
    go_enter Try.func40, Try.ntmps40
    go_wp2_with fail
    (with_reducible refine (rspend_any rf d.fuse _ H.out.fuse).mono ?_); rintro _ w1 ⟨rfl, hf1, hm1⟩
    rw [HST.out]
    have hb1 := HB.out.mod hm1 (by simp; exact H.out.ne)
    obtain ⟨k0, k1, k2, k3, k4, k5, kz⟩ := hb1.cells6
    have HB1 := Lib.hid hb1
    have HF1 := Lib.hid hf1
    have HM1 := Lib.hid hm1
    clear hb1 hf1 hm1 c0 c1 c2 c3 c4 c5 fz k0
    go_wp2
    go_ret
    have hm2 : Mod [rd] w1 (((w1.setCell ⟨rd, 1, none⟩ (.slice na nn nc)).setCell ⟨rd, 3, none⟩ (.slice none 0 0)).setCell ⟨rd, 4, none⟩ (.slice none 0 0)) := (((Mod.refl [rd] w1).setCell (p := ⟨rd, 1, none⟩) (by simp) _).setCell (p := ⟨rd, 3, none⟩) (by simp) _).setCell (p := ⟨rd, 4, none⟩) (by simp) _
    have hmm := (HM1.out.mono (S' := [rd, rf]) (by simp)).trans (hm2.mono (S' := [rd, rf]) (by simp))
    have hd : d.flush = { d.spend with last := d.now, opn := none } := by unfold D.flush; rw [HST.out]; rfl
    have hn2 := HS.out.2.1.mod hmm (by intro x hx; left; simp at hx ⊢; rcases hx with e | e <;> simp [e])
    refine ⟨rfl, ⟨⟨.slice na nn nc, .slice na nn nc, .slice none 0 0, .slice none 0 0, ?_, ?_, ?_, ?_⟩, ?_, H.out.ne, H.out.out, H.out.fits.flush⟩, hmm⟩
    · rw [hd]; exact ((HB1.out.set 1 (.slice na nn nc)).set 3 (.slice none 0 0)).set 4 (.slice none 0 0)
    · rw [hd]; exact hn2
    · rw [hd]; exact hn2
    · rw [hd]; exact ⟨rfl, rfl⟩
    · rw [hd]; exact HF1.out.mod hm2 (by simp; exact fun e => H.out.ne e.symm)
  · have HST := Lib.hid hst
    clear hst
    go_enter Try.func40, Try.ntmps40
    go_wp2_with fail
    (with_reducible refine (rspend_any rf d.fuse _ H.out.fuse).mono ?_); rintro _ w1 ⟨rfl, hf1, hm1⟩
    rw [HST.out]
    have HF1 := Lib.hid hf1
    have HM1 := Lib.hid hm1
    clear hf1 hm1
    go_wp2
    go_ret
    have hd : d.flush = d.spend := by unfold D.flush; rw [HST.out]; rfl
    rw [hd]
    exact ⟨rfl, DiskR.spent H.out HF1.out HM1.out, HM1.out.mono (by simp)⟩

theorem info_int : (Try.prog.info? 3).map (fun i => (i.zero, i.size, i.bytes)) = some (some (.int .i64 0), 1, 8) := by kernel_rfl

set_option maxHeartbeats 4000000 in
theorem rwrite_any (rd rf : Nat) (d : D) (av : List Nat) (i : Nat) (b : ByteArray) (w : World) (h : DiskR w rd rf d av) (hav : ∀ x ∈ av, x < w.heap.size) (hop : d.opn = none) (hi : i < d.last.length) (hb : b.size = d.size) :
    Calls Try.prog 64 #[ptr rd, .int .i64 i, .string b] w fun e w' =>
      e = .returned (.int .i64 (if d.fuse.stop then 2 else 0)) ∧ DiskR w' rd rf (d.write i b) av ∧ Mod [rd, rf] w w' := by
  obtain ⟨vl, vn, vi, vb, hbk, hl, hn, ho⟩ := h.blk
  rw [hop] at ho
  obtain ⟨rfl, rfl⟩ := ho
  have hnl : d.now.length = d.last.length := D.now_length d
  obtain ⟨na, nc, hv⟩ : ∃ a c, vn = .slice a d.now.length c := by
    rcases hn with ⟨e1, e2⟩ | ⟨g, cap, h1, _⟩
    · exact ⟨none, 0, by rw [e1, e2]; rfl⟩
    · exact ⟨_, _, h1⟩
  obtain rfl := hv
  rw [hnl] at hbk hn
  obtain ⟨c0, c1, c2, c3, c4, c5, fz⟩ := hbk.cells6
  have H := Lib.hid h
  have HB := Lib.hid hbk
  have HS := Lib.hid (And.intro hl hn)
  have HI := Lib.hid (And.intro hi hb)
  have HOP := Lib.hid hop
  have HAV := Lib.hid hav
  have hii : (i : Int) < (d.last.length : Int) := by omega
  have hsb : ((b.size : Int) != (d.size : Int)) = false := by rw [hb]; simp
  clear h hbk hl hn hop hi hb hav hnl
  cases hst : d.fuse.stop
  · have HST := Lib.hid hst
    clear hst
    go_enter Try.func64, Try.ntmps64
    go_wp2_with fail
    (with_reducible refine (rspend_any rf d.fuse _ H.out.fuse).mono ?_); rintro _ w1 ⟨rfl, hf1, hm1⟩
    rw [HST.out]
    have hb1 := HB.out.mod hm1 (by simp; exact H.out.ne)
    obtain ⟨k0, k1, k2, k3, k4, k5, kz⟩ := hb1.cells6
    have HB1 := Lib.hid hb1
    have HF1 := Lib.hid hf1
    have HM1 := Lib.hid hm1
    have hn1 := HS.out.2.mod hm1 (by simp)
    have HN1 := Lib.hid hn1
    have HI2 := Lib.hid (show i < d.now.length ∧ d.now.length ≤ 100000 by rw [D.now_length]; have := HI.out.1; have := H.out.fits.n2; omega)
    have HAV1 := Lib.hid (show ∀ x ∈ [rd, rf] ++ av, x < w1.heap.size from by
      have h1 := H.out.lts
      have h2 := hm1.size
      intro x hx
      simp only [List.cons_append, List.nil_append, List.mem_cons] at hx
      rcases hx with e | e | e
      · rw [e]; omega
      · rw [e]; omega
      · exact Nat.lt_of_lt_of_le (HAV.out x e) h2)
    clear hb1 hf1 hm1 c0 c1 c2 c3 c4 c5 fz k0 hn1
    go_wp2_with fail
    (with_reducible refine (rset_str _ d.now _ i b _ HN1.out HI2.out.1 HI2.out.2).mono ?_); rintro _ w2 ⟨v2, rfl, hm2, hv2⟩
    have hs2 := hv2 ([rd, rf] ++ av) (HAV1.out)
    obtain ⟨ya, yn, yc, rfl⟩ := hs2.sl
    have hb2 := HB1.out.mod hm2 (by simp)
    obtain ⟨k0, k1, k2, k3, k4, k5, kz⟩ := hb2.cells6
    have HB2 := Lib.hid hb2
    have HS2 := Lib.hid hs2
    have HM2 := Lib.hid hm2
    have hlt2 : rd < w2.heap.size := hb2.lt
    obtain ⟨i0, hinf, hz0, hz1, hz2⟩ := info_parts info_int
    have HI0 := Lib.hid (And.intro hinf (And.intro hz0 (And.intro hz1 hz2)))
    obtain ⟨s0, sinf, sz0, sz1, sz2⟩ := info_parts info_str
    have HS0 := Lib.hid (And.intro sinf (And.intro sz0 (And.intro sz1 sz2)))
    have HLT2 := Lib.hid hlt2
    clear hv2 hb2 hm2 hs2 k0 k1 k5 hinf hz0 hz1 hz2 sinf sz0 sz1 sz2
    go_wp2_with (at_builtin; refine wpList_append_own _ rfl (.tmp 49) (.tmp 51) 74 rfl w2.heap.size 3 i0 (.int .i64 0) 1 8 Try.underlying74 HI0.out.1 HI0.out.2.1 HI0.out.2.2.1 HI0.out.2.2.2 rfl (by decide) _ 0 [] rfl ((own_empty_at _ 3 _ (by simp)).alloc _) ⟨w2.heap.size + 1, 0, none⟩ 1 1 [.int .i64 i] rfl rfl (one_new_at _ _ _ _ (by simp)) (by intro u hu; simp at hu; subst hu; rfl) (by simp [maxLen]) (by omega) (by simp; omega) ?_)
    intro v3 w3 hown3 hg3 _
    have hm3 : Mod [] (w2.setCell ⟨rd, 2, none⟩ (.slice ya yn yc)) w3 := (((Mod.refl [] _).alloc _).alloc _).grown hg3 (fun k hk => by simp [Value.ownBlock] at hk ⊢; omega)
    have hb3 := (HB2.out.set 2 (.slice ya yn yc)).mod hm3 (by simp)
    obtain ⟨k0, k1, k2, k3, k4, k5, kz⟩ := hb3.cells6
    obtain ⟨g1, e1, rfl, hg1, hc1⟩ := own_one hown3
    have HB3 := Lib.hid hb3
    have HM3 := Lib.hid hm3
    have HC1 := Lib.hid (And.intro hg1 hc1)
    have hlt3 : rd < w3.heap.size := hb3.lt
    have HLT3 := Lib.hid hlt3
    clear hown3 hg3 hm3 hb3 k0 k1 k2 k5 hg1 hc1 hlt2
    go_wp2_with (at_builtin; refine wpList_append_own _ rfl (.tmp 61) (.tmp 63) 31 rfl w3.heap.size 9 s0 (.string ⟨#[]⟩) 1 16 Try.underlying31 HS0.out.1 HS0.out.2.1 HS0.out.2.2.1 HS0.out.2.2.2 rfl (by decide) _ 0 [] rfl ((own_empty_at _ 9 _ (by simp)).alloc _) ⟨w3.heap.size + 1, 0, none⟩ 1 1 [.string b] rfl rfl (one_new_at _ _ _ _ (by simp)) (by intro u hu; simp at hu; subst hu; rfl) (by simp [maxLen]) (by omega) (by simp; omega) ?_)
    intro v4 w4 hown4 hg4 _
    have hm4 : Mod [] (w3.setCell ⟨rd, 3, none⟩ (.slice (some ⟨g1, 0, none⟩) 1 e1)) w4 := (((Mod.refl [] _).alloc _).alloc _).grown hg4 (fun k hk => by simp [Value.ownBlock] at hk ⊢; omega)
    have hb4 := (HB3.out.set 3 (.slice (some ⟨g1, 0, none⟩) 1 e1)).mod hm4 (by simp)
    obtain ⟨k0, k1, k2, k3, k4, k5, kz⟩ := hb4.cells6
    obtain ⟨g2, e2, rfl, hg2, hc2⟩ := own_one hown4
    have HB4 := Lib.hid hb4
    have HM4 := Lib.hid hm4
    have HC2 := Lib.hid (And.intro hg2 hc2)
    clear hown4 hg4 hm4 hb4 k0 k1 k2 k3 k5 hg2 hc2 hlt3
    go_wp2
    go_ret
    have m2 : Mod [rd] w2 (w2.setCell ⟨rd, 2, none⟩ (.slice ya yn yc)) := (Mod.refl [rd] _).setCell (by simp) _
    have m3 : Mod [rd] w3 (w3.setCell ⟨rd, 3, none⟩ (.slice (some ⟨g1, 0, none⟩) 1 e1)) := (Mod.refl [rd] _).setCell (by simp) _
    have m4 : Mod [rd] w4 (w4.setCell ⟨rd, 4, none⟩ (.slice (some ⟨g2, 0, none⟩) 1 e2)) := (Mod.refl [rd] _).setCell (by simp) _
    have m34 : Mod [rd] w3 (w4.setCell ⟨rd, 4, none⟩ (.slice (some ⟨g2, 0, none⟩) 1 e2)) := (m3.trans (HM4.out.mono (by simp))).trans m4
    have m24 : Mod [rd] w2 (w4.setCell ⟨rd, 4, none⟩ (.slice (some ⟨g2, 0, none⟩) 1 e2)) := (m2.trans (HM3.out.mono (by simp))).trans m34
    have m14 : Mod [rd] w1 (w4.setCell ⟨rd, 4, none⟩ (.slice (some ⟨g2, 0, none⟩) 1 e2)) := (HM2.out.mono (by simp)).trans m24
    have mm : Mod [rd, rf] w (w4.setCell ⟨rd, 4, none⟩ (.slice (some ⟨g2, 0, none⟩) 1 e2)) := (HM1.out.mono (by simp)).trans (m14.mono (by simp))
    have hd : d.write i b = { d.spend with opn := some (i, b) } := by unfold D.write; rw [HST.out]; rfl
    have hnow : ({ d.spend with opn := some (i, b) } : D).now = d.now.set i b := by
      have := HOP.out
      unfold D.now
      rw [this]
      rfl
    have hlt2 := HM2.out.size
    have hlt3 := m2.size
    have hlt4 := HM3.out.size
    have hav2 : ∀ x ∈ [rd, rf] ++ av, x < w2.heap.size := fun x hx => Nat.lt_of_lt_of_le (HAV1.out x hx) hlt2
    have hav3 : ∀ x ∈ [rd, rf] ++ av, x < w3.heap.size := fun x hx => Nat.lt_of_lt_of_le (hav2 x hx) (Nat.le_trans hlt3 hlt4)
    refine ⟨rfl, ⟨⟨vl, .slice ya yn yc, .slice (some ⟨g1, 0, none⟩) 1 e1, .slice (some ⟨g2, 0, none⟩) 1 e2, ?_, ?_, ?_, ?_⟩, ?_, H.out.ne, H.out.out, H.out.fits.write i b HI.out.1 HI.out.2⟩, mm⟩
    · rw [hd]; exact HB4.out.set 4 (.slice (some ⟨g2, 0, none⟩) 1 e2)
    · rw [hd]; exact HS.out.1.mod mm (by intro x hx; left; simp at hx ⊢; rcases hx with e | e <;> simp [e])
    · rw [hd, hnow]; exact HS2.out.mod m24 (by intro x hx; left; simp at hx ⊢; simp [hx])
    · rw [hd]
      refine ⟨g1, e1, g2, e2, rfl, rfl, m34.cell HC1.out.2 (by simp; intro e; have h1 := HC1.out.1; have h2 := hav2 rd (by simp); omega), m4.cell HC2.out.2 (by simp; intro e; have h1 := HC2.out.1; have h2 := hav3 rd (by simp); omega), ?_, ?_⟩
      · intro hx; have h1 := HC1.out.1; have h2 := hav2 _ hx; omega
      · intro hx; have h1 := HC2.out.1; have h2 := hav3 _ hx; omega
    · rw [hd]; exact HF1.out.mod m14 (by simp; exact fun e => H.out.ne e.symm)
  · have HST := Lib.hid hst
    clear hst
    go_enter Try.func64, Try.ntmps64
    go_wp2_with fail
    (with_reducible refine (rspend_any rf d.fuse _ H.out.fuse).mono ?_); rintro _ w1 ⟨rfl, hf1, hm1⟩
    rw [HST.out]
    have HF1 := Lib.hid hf1
    have HM1 := Lib.hid hm1
    clear hf1 hm1
    go_wp2
    go_ret
    have hd : d.write i b = d.spend := by unfold D.write; rw [HST.out]; rfl
    rw [hd]
    exact ⟨rfl, DiskR.spent H.out HF1.out HM1.out, HM1.out.mono (by simp)⟩
end Go.Proofs.Yteidhbjfmmodhaa
