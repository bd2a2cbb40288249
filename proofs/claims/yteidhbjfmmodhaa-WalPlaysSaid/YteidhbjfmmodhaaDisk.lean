/- The walks over the disk. -/
import Derived.Test.YteidhbjfmmodhaaDskPure
import Derived.Test.YteidhbjfmmodhaaOrd
import Derived.OwnWalk
import Derived.RegionTactic
import Derived.StillTailTactics
namespace Go.Proofs.Yteidhbjfmmodhaa
open Go.RowKit Crc Fr

/-- The write that isn't flushed, in memory. -/
def OpenAt (w : World) (os : Value) : Option (Nat × ByteArray) → List Nat → Prop
  | none, _ => os = .slice none 0 0
  | some (i, b), out => ∃ bo cap, os = .slice (some ⟨bo, 0, none⟩) 1 cap ∧ 1 ≤ cap ∧ w.cell? ⟨bo, 0, none⟩ = some (.int .i64 i) ∧ w.cell? ⟨bo, 1, none⟩ = some (.string b) ∧ bo ∉ out
theorem OpenAt.mod {S : List Nat} {w w' : World} {os : Value} {o : Option (Nat × ByteArray)} {out : List Nat} (h : OpenAt w os o out) (hm : Mod S w w') (hs : ∀ x ∈ S, x ∈ out) : OpenAt w' os o out := by
  cases o with
  | none => exact h
  | some p =>
    obtain ⟨i, b⟩ := p
    obtain ⟨bo, cap, h1, h2, h3, h4, h5⟩ := h
    exact ⟨bo, cap, h1, h2, hm.cell h3 (fun hx => h5 (hs _ hx)), hm.cell h4 (fun hx => h5 (hs _ hx)), h5⟩
theorem OpenAt.out {w : World} {os : Value} {o : Option (Nat × ByteArray)} {out out' : List Nat} (h : OpenAt w os o out) (hs : ∀ x ∈ out', x ∈ out ∨ w.heap.size ≤ x) : OpenAt w os o out' := by
  cases o with
  | none => exact h
  | some p =>
    obtain ⟨i, b⟩ := p
    obtain ⟨bo, cap, h1, h2, h3, h4, h5⟩ := h
    refine ⟨bo, cap, h1, h2, h3, h4, fun hx => ?_⟩
    rcases hs _ hx with h6 | h6
    · exact h5 h6
    · have := lt_of_cell h3
      simp at this
      omega

/-- The program's disk, in memory: its blocks are none of the list's. -/
structure DiskI (w : World) (bd bs bf : Nat) (d : D) (av : List Nat) : Prop where
  blk : ∃ os, Blk w bd [.int .i64 d.size, .slice (some ⟨bs, 0, none⟩) d.last.length d.last.length, os, ptr bf] 61 ∧ OpenAt w os d.opn ([bd, bs, bf] ++ av)
  secs : Blk w bs (d.last.map Value.string) 9
  fuse : FuseI w bf d.fuse
  ne : bd ≠ bs ∧ bd ≠ bf ∧ bs ≠ bf
  out : bd ∉ av ∧ bs ∉ av ∧ bf ∉ av
  fits : d.Fits

theorem DiskI.mod {S : List Nat} {w w' : World} {bd bs bf : Nat} {d : D} {av : List Nat} (h : DiskI w bd bs bf d av) (hm : Mod S w w') (hs : ∀ x ∈ S, x ∈ av) : DiskI w' bd bs bf d av := by
  obtain ⟨⟨os, h1, h2⟩, h3, h4, h5, h6, h7⟩ := h
  exact ⟨⟨os, h1.mod hm (fun hx => h6.1 (hs _ hx)), h2.mod hm (fun x hx => List.mem_append_right _ (hs x hx))⟩, h3.mod hm (fun hx => h6.2.1 (hs _ hx)), h4.mod hm (fun hx => h6.2.2 (hs _ hx)), h5, h6, h7⟩
theorem DiskI.same {w w' : World} {bd bs bf : Nat} {d : D} {av : List Nat} (h : DiskI w bd bs bf d av) (hm : Mod [] w w') : DiskI w' bd bs bf d av := h.mod hm (by simp)
theorem DiskI.avoid {w : World} {bd bs bf : Nat} {d : D} {av av' : List Nat} (h : DiskI w bd bs bf d av) (hs : ∀ x ∈ av', x ∈ av ∨ w.heap.size ≤ x) : DiskI w bd bs bf d av' := by
  obtain ⟨⟨os, h1, h2⟩, h3, h4, h5, h6, h7⟩ := h
  have g : ∀ k, k < w.heap.size → k ∉ av → k ∉ av' := by
    intro k hk hn hx
    rcases hs k hx with h8 | h8
    · exact hn h8
    · omega
  refine ⟨⟨os, h1, h2.out (fun x hx => ?_)⟩, h3, h4, h5, ⟨g _ h1.lt h6.1, g _ h3.lt h6.2.1, g _ h4.blk.lt h6.2.2⟩, h7⟩
  rcases List.mem_append.1 hx with hx | hx
  · exact .inl (List.mem_append_left _ hx)
  · rcases hs x hx with h8 | h8
    · exact .inl (List.mem_append_right _ h8)
    · exact .inr h8

/-- The facts that a walk wants. -/
theorem DiskI.cells {w : World} {bd bs bf : Nat} {d : D} {av : List Nat} (h : DiskI w bd bs bf d av) : ∃ os,
    w.cell? ⟨bd, 0, none⟩ = some (.int .i64 d.size) ∧ w.cell? ⟨bd, 1, none⟩ = some (.slice (some ⟨bs, 0, none⟩) d.last.length d.last.length) ∧ w.cell? ⟨bd, 2, none⟩ = some os ∧ w.cell? ⟨bd, 3, none⟩ = some (ptr bf) ∧
    (∀ i, w.frozen? ⟨bd, i, none⟩ = false) ∧ OpenAt w os d.opn ([bd, bs, bf] ++ av) := by
  obtain ⟨⟨os, h1, h2⟩, _⟩ := h
  obtain ⟨c0, c1, c2, c3, fz⟩ := h1.cells4
  exact ⟨os, c0, c1, c2, c3, fz, h2⟩

set_option maxHeartbeats 1000000 in
theorem size_any (bd bs bf : Nat) (d : D) (av : List Nat) (w : World) (h : DiskI w bd bs bf d av) :
    Calls Try.prog 57 #[ptr bd] w fun e w' => e = .returned (.int .i64 d.size) ∧ w' = w := by
  obtain ⟨os, c0, c1, c2, c3, fz, _⟩ := h.cells
  clear h c1 c2 c3 fz
  go_enter Try.func57, Try.ntmps57
  go_wp2
  go_ret
  exact ⟨rfl, rfl⟩
set_option maxHeartbeats 1000000 in
theorem len_any (bd bs bf : Nat) (d : D) (av : List Nat) (w : World) (h : DiskI w bd bs bf d av) :
    Calls Try.prog 15 #[ptr bd] w fun e w' => e = .returned (.int .i64 d.last.length) ∧ w' = w := by
  obtain ⟨os, c0, c1, c2, c3, fz, _⟩ := h.cells
  clear h c0 c2 c3 fz
  go_enter Try.func15, Try.ntmps15
  go_wp2
  go_ret
  exact ⟨rfl, rfl⟩
set_option maxHeartbeats 1000000 in
theorem is_any (bd bs bf : Nat) (d : D) (av : List Nat) (i : Int) (w : World) (h : DiskI w bd bs bf d av) (h0 : 0 ≤ i) (h1 : i < (d.last.length : Int)) :
    Calls Try.prog 59 #[ptr bd, .int .i64 i] w fun e w' => e = .returned (.bool true) ∧ w' = w := by
  obtain ⟨os, c0, c1, c2, c3, fz, _⟩ := h.cells
  clear h c0 c2 c3 fz
  go_enter Try.func59, Try.ntmps59
  go_wp2
  go_ret
  exact ⟨rfl, rfl⟩
def opnN (d : D) : Int := match d.opn with | none => 0 | some _ => 1
set_option maxHeartbeats 1000000 in
theorem dopen_any (bd bs bf : Nat) (d : D) (av : List Nat) (w : World) (h : DiskI w bd bs bf d av) :
    Calls Try.prog 31 #[ptr bd] w fun e w' => e = .returned (.int .i64 (opnN d)) ∧ w' = w := by
  obtain ⟨os, c0, c1, c2, c3, fz, ho⟩ := h.cells
  clear h c0 c1 c3 fz
  unfold opnN
  cases hd : d.opn with
  | none =>
    rw [hd] at ho
    obtain rfl := ho
    clear hd
    go_enter Try.func31, Try.ntmps31
    go_wp2
    go_ret
    exact ⟨rfl, rfl⟩
  | some p =>
    obtain ⟨i, b⟩ := p
    rw [hd] at ho
    obtain ⟨bo, cap, rfl, h2, h3, h4, h5⟩ := ho
    clear hd h2 h3 h4 h5
    go_enter Try.func31, Try.ntmps31
    go_wp2
    go_ret
    exact ⟨rfl, rfl⟩

theorem secs_cell {w : World} {bs : Nat} {l : List ByteArray} (h : Blk w bs (l.map Value.string) 9) (i : Nat) (hi : i < l.length) : w.cell? ⟨bs, i, none⟩ = some (.string (sect l i)) := by
  rw [h.cell]; unfold sect; simp [List.getD, hi]

set_option maxHeartbeats 2000000 in
theorem read_any (bd bs bf : Nat) (d : D) (av : List Nat) (i : Nat) (w : World) (h : DiskI w bd bs bf d av) (h1 : i < d.last.length) :
    Calls Try.prog 36 #[ptr bd, .int .i64 i] w fun e w' => e = .returned (.tuple #[.string (sect d.now i), .int .i64 0]) ∧ w' = w := by
  have hc := secs_cell h.secs i h1
  have hn2 := h.fits.n2
  obtain ⟨os, c0, c1, c2, c3, fz, ho⟩ := h.cells
  have HI := Lib.hid h
  have HL := Lib.hid h1
  have h1i : (i : Int) < (d.last.length : Int) := by omega
  clear h c0 c3 fz
  cases hd : d.opn with
  | none =>
    rw [hd] at ho
    obtain rfl := ho
    have HN := Lib.hid (show d.now = d.last by unfold D.now; rw [hd])
    clear hd
    go_enter Try.func36, Try.ntmps36
    go_wp2_with fail
    (with_reducible refine (is_any bd bs bf d av _ _ HI.out (by omega) (by have := HL.out; omega)).mono ?_); rintro _ w' ⟨rfl, rfl⟩
    go_wp2
    go_loop [6] (fun k => k = .int .i64 (-1)) (fun _ => 0)
    case atStart => rfl
    case round =>
      obtain rfl := hrel
      go_wp2
      go_ret2
      exact ⟨by rw [HN.out]; rfl, rfl⟩
  | some p =>
    obtain ⟨j, b⟩ := p
    rw [hd] at ho
    obtain ⟨bo, cap, rfl, hcap, ho0, ho1, _⟩ := ho
    have hj := (HI.out.fits.opn j b hd).1
    by_cases hij : j = i
    · subst hij
      have HN := Lib.hid (show sect d.now j = b by unfold D.now; rw [hd]; exact sect_set b hj)
      clear hd
      go_enter Try.func36, Try.ntmps36
      go_wp2_with fail
      (with_reducible refine (is_any bd bs bf d av _ _ HI.out (by omega) (by have := HL.out; omega)).mono ?_); rintro _ w' ⟨rfl, rfl⟩
      go_wp2
      go_loop [6] (fun k => k = .int .i64 0) (fun _ => 0)
      case atStart => rfl
      case round =>
        obtain rfl := hrel
        go_wp2
        go_ret2
        exact ⟨by rw [HN.out]; rfl, rfl⟩
    · have HN := Lib.hid (show sect d.now i = sect d.last i by unfold D.now; rw [hd]; exact sect_other b hij)
      have hne : ((j : Int) == (i : Int)) = false := by simp; omega
      clear hd
      go_enter Try.func36, Try.ntmps36
      go_wp2_with fail
      (with_reducible refine (is_any bd bs bf d av _ _ HI.out (by omega) (by have := HL.out; omega)).mono ?_); rintro _ w' ⟨rfl, rfl⟩
      go_wp2
      go_loop [6] (fun k => k = .int .i64 0 ∨ k = .int .i64 (-1)) (fun k => ((intOf k) + 1).toNat)
      case atStart => exact .inl rfl
      case round =>
        rcases hrel with rfl | rfl
        · go_wp2
          go_round
          case rel => exact .inr rfl
          case measure => simp [intOf]
        · go_wp2
          go_ret2
          exact ⟨by rw [HN.out]; rfl, rfl⟩

theorem info_write : (Try.prog.info? 82).map (fun i => (i.zero, i.size, i.bytes)) = some (some (.agg #[.int .i64 0, .string ⟨#[]⟩]), 2, 24) := by kernel_rfl

/-- A row of one write. -/
theorem open_of_own {w : World} {base : Nat} {e : TypeId} {v : Value} {i : Int} {b : ByteArray} (h : w.ownsRow base e 2 v 1 [.int .i64 i, .string b]) :
    ∃ bo cap, v = .slice (some ⟨bo, 0, none⟩) 1 cap ∧ 1 ≤ cap ∧ base ≤ bo ∧ w.cell? ⟨bo, 0, none⟩ = some (.int .i64 i) ∧ w.cell? ⟨bo, 1, none⟩ = some (.string b) := by
  obtain ⟨_, h2⟩ := h
  rcases h2 with ⟨_, h3⟩ | ⟨g, cap, cur, rfl, hg, hh, hcap, _, hsz, hcur⟩
  · omega
  · refine ⟨g, cap, rfl, hcap, hg, ?_, ?_⟩
    · have : (cur.toList.take (1 * 2))[0]? = some (.int .i64 i) := by rw [hcur]; rfl
      unfold World.cell?
      simp only [hh, Option.isSome_none, Bool.false_eq_true, if_false]
      simpa [List.getElem?_take] using this
    · have : (cur.toList.take (1 * 2))[1]? = some (.string b) := by rw [hcur]; rfl
      unfold World.cell?
      simp only [hh, Option.isSome_none, Bool.false_eq_true, if_false]
      simpa [List.getElem?_take] using this
theorem two_new (w : World) (x y : Value) (e : TypeId) : ∀ (j : Nat) (u : Value), [x, y][j]? = some u → (w.alloc (.cells #[x, y] e)).cell? ((⟨w.heap.size, 0, none⟩ : Addr).add j) = some u := by
  intro j u h
  match j, h with
  | 0, h => simp at h; subst h; show (w.alloc (.cells #[x, y] e)).cell? ⟨w.heap.size, 0, none⟩ = _; simp [go_sem]
  | 1, h => simp at h; subst h; show (w.alloc (.cells #[x, y] e)).cell? ⟨w.heap.size, 1, none⟩ = _; simp [go_sem]
  | j + 2, h => simp at h

set_option maxHeartbeats 2000000 in
theorem write_any (bd bs bf : Nat) (d : D) (av : List Nat) (i : Nat) (b : ByteArray) (w : World) (h : DiskI w bd bs bf d av) (hav : ∀ x ∈ av, x < w.heap.size) (hop : d.opn = none) (hi : i < d.last.length) (hb : b.size = d.size) :
    Calls Try.prog 58 #[ptr bd, .int .i64 i, .string b] w fun e w' =>
      e = .returned (.int .i64 (if d.fuse.stop then 2 else 0)) ∧ DiskI w' bd bs bf (d.write i b) av ∧ Mod [bd, bf] w w' := by
  have hfit := h.fits.write i b hi hb
  obtain ⟨os, c0, c1, c2, c3, fz, ho⟩ := h.cells
  rw [hop] at ho
  obtain rfl := ho
  have HI := Lib.hid h
  have HL := Lib.hid hi
  have HO := Lib.hid hop
  have HFT := Lib.hid hfit
  have HAV := Lib.hid hav
  obtain ⟨i0, hinf, hz0, hz1, hz2⟩ := info_parts info_write
  have HN := Lib.hid (And.intro hinf (And.intro hz0 (And.intro hz1 hz2)))
  clear hop hfit h hi hav hinf hz0 hz1 hz2 c1 fz
  have hsb : ((b.size : Int) != (d.size : Int)) = false := by rw [hb]; simp
  have HSB := Lib.hid hb
  clear hb
  cases hst : d.fuse.stop
  · have HST := Lib.hid hst
    clear hst
    go_enter Try.func58, Try.ntmps58
    go_wp2_with fail
    (with_reducible refine (is_any bd bs bf d av _ _ HI.out (by omega) (by have := HL.out; omega)).mono ?_); rintro _ w' ⟨rfl, rfl⟩
    go_wp2_with fail
    (with_reducible refine (spend_any bf d.fuse _ HI.out.fuse).mono ?_); rintro _ w1 ⟨rfl, hf1, hm1⟩
    rw [HST.out]
    have hblk : Blk w1 bd [.int .i64 d.size, .slice (some ⟨bs, 0, none⟩) d.last.length d.last.length, .slice none 0 0, ptr bf] 61 := by
      obtain ⟨os, h1, h2⟩ := HI.out.blk
      rw [HO.out] at h2
      obtain rfl := h2
      exact h1.mod hm1 (by simp; exact HI.out.ne.2.1)
    obtain ⟨k0, k1, k2, k3, kz⟩ := hblk.cells4
    have HB1 := Lib.hid hblk
    have HF1 := Lib.hid hf1
    have HM1 := Lib.hid hm1
    clear hblk hf1 hm1 k0 k1 k3 c0 c2 c3
    go_wp2_with (at_builtin; refine wpList_append_own _ rfl (.tmp 32) (.tmp 36) 59 rfl w1.heap.size 82 i0 (.agg #[.int .i64 0, .string ⟨#[]⟩]) 2 24 Try.underlying59 HN.out.1 HN.out.2.1 HN.out.2.2.1 HN.out.2.2.2 rfl (by decide) _ 0 [] rfl ⟨rfl, .inl ⟨rfl, rfl⟩⟩ ⟨w1.heap.size, 0, none⟩ 1 1 [.int .i64 i, .string b] rfl rfl (two_new _ _ _ _) (by intro u hu; simp at hu; rcases hu with rfl | rfl <;> rfl) (by simp [maxLen]) (by omega) (by simp) ?_)
    intro v' w2 hown hg2 _
    obtain ⟨bo, cap, rfl, hcap, hbo, ho0, ho1⟩ := open_of_own hown
    have hm2 : Mod [bf] w' w2 := (HM1.out.alloc _).grown hg2 (by intro k hk; cases hk)
    have hblk2 := (HB1.out.alloc (.cells #[.int .i64 i, .string b] 82)).mod (S := []) ⟨hg2.os, hg2.tape, hg2.output, hg2.size, fun k hk _ => hg2.block k hk (by simp [Value.ownBlock])⟩ (by simp)
    have hf2 : FuseI w2 bf d.fuse.spend := ⟨(HF1.out.blk.alloc (.cells #[.int .i64 i, .string b] 82)).mod (S := []) ⟨hg2.os, hg2.tape, hg2.output, hg2.size, fun k hk _ => hg2.block k hk (by simp [Value.ownBlock])⟩ (by simp), HF1.out.fits⟩
    obtain ⟨q0, q1, q2, q3, qz⟩ := hblk2.cells4
    have HF2 := Lib.hid hf2
    have HM2 := Lib.hid hm2
    have HB2 := Lib.hid hblk2
    have HBO := Lib.hid (And.intro hcap (And.intro hbo (And.intro ho0 ho1)))
    clear hown hg2 hm2 hblk2 hf2 k2 kz q0 q1 q3 hcap hbo ho0 ho1
    go_wp2
    go_ret
    obtain ⟨hcap, hbo, ho0, ho1⟩ := HBO.out
    have hw1 := HM1.out.size
    have hne := HI.out.ne
    have hblt : ∀ k ∈ [bd, bs, bf] ++ av, k < w'.heap.size := by
      intro k hk
      rcases List.mem_append.1 hk with hk | hk
      · simp at hk
        obtain ⟨os, hbl, _⟩ := HI.out.blk
        rcases hk with rfl | rfl | rfl
        · exact hbl.lt
        · exact HI.out.secs.lt
        · exact HI.out.fuse.blk.lt
      · exact HAV.out k hk
    have hbd := hblt bd (by simp)
    have hmod : Mod [bd, bf] w' (w2.setCell ⟨bd, 2, none⟩ (.slice (some ⟨bo, 0, none⟩) 1 cap)) := (HM2.out.mono (by simp)).setCell (by simp) _
    have hd : d.write i b = { d.spend with opn := some (i, b) } := by unfold D.write; rw [HST.out]; rfl
    refine ⟨rfl, ⟨⟨.slice (some ⟨bo, 0, none⟩) 1 cap, ?_, ?_⟩, ?_, ?_, hne, HI.out.out, HFT.out⟩, hmod⟩
    · rw [hd]; exact HB2.out.set 2 _
    · rw [hd]
      refine ⟨bo, cap, rfl, hcap, ?_, ?_, fun hx => ?_⟩
      · rw [World.cell?_setCell_other (h := by intro e; cases e <;> omega)]; exact ho0
      · rw [World.cell?_setCell_other (h := by intro e; cases e <;> omega)]; exact ho1
      · have := hblt bo hx; omega
    · rw [hd]; exact HI.out.secs.mod hmod (by simp; exact ⟨fun e => hne.1 e.symm, hne.2.2⟩)
    · rw [hd]; exact ⟨HF2.out.blk.setOther hne.2.1 _, HF2.out.fits⟩
  · have HST := Lib.hid hst
    clear hst
    go_enter Try.func58, Try.ntmps58
    go_wp2_with fail
    (with_reducible refine (is_any bd bs bf d av _ _ HI.out (by omega) (by have := HL.out; omega)).mono ?_); rintro _ w' ⟨rfl, rfl⟩
    go_wp2_with fail
    (with_reducible refine (spend_any bf d.fuse _ HI.out.fuse).mono ?_); rintro _ w1 ⟨rfl, hf1, hm1⟩
    rw [HST.out]
    have HF1 := Lib.hid hf1
    have HM1 := Lib.hid hm1
    clear hf1 hm1
    go_wp2
    go_ret
    have hne := HI.out.ne
    have hd : d.write i b = d.spend := by unfold D.write; rw [HST.out]; rfl
    have hmod : Mod [bf] w' w1 := HM1.out
    obtain ⟨os, hbl, hop⟩ := HI.out.blk
    refine ⟨rfl, ⟨⟨os, ?_, ?_⟩, ?_, ?_, hne, HI.out.out, HFT.out⟩, hmod.mono (by simp)⟩
    · rw [hd]; exact hbl.mod hmod (by simp; exact hne.2.1)
    · rw [hd]; exact hop.mod hmod (by simp)
    · rw [hd]; exact HI.out.secs.mod hmod (by simp; exact hne.2.2)
    · rw [hd]; exact HF1.out

def ap (l : List ByteArray) : Option (Nat × ByteArray) → List ByteArray
  | none => l
  | some (i, b) => l.set i b
/-- A slice of no write, or of one. -/
def WritesAt (w : World) (os : Value) : Option (Nat × ByteArray) → Prop
  | none => ∃ a cap, os = .slice a 0 cap
  | some (i, b) => ∃ bo cap, os = .slice (some ⟨bo, 0, none⟩) 1 cap ∧ w.cell? ⟨bo, 0, none⟩ = some (.int .i64 i) ∧ w.cell? ⟨bo, 1, none⟩ = some (.string b)

set_option maxHeartbeats 2000000 in
theorem last_any (bd bs bf : Nat) (d : D) (av : List Nat) (os : Value) (ol : Option (Nat × ByteArray)) (w : World) (h : DiskI w bd bs bf d av) (ho : WritesAt w os ol)
    (hfit : ∀ i b, ol = some (i, b) → i < d.last.length ∧ b.size = d.size) :
    Calls Try.prog 45 #[ptr bd, os] w fun e w' =>
      e = .returned (.tuple #[]) ∧ DiskI w' bd bs bf { d with last := ap d.last ol, opn := none } av ∧ Mod [bd, bs] w w' := by
  obtain ⟨od, c0, c1, c2, c3, fz, _⟩ := h.cells
  have HI := Lib.hid h
  have hne := h.ne
  have HNE := Lib.hid hne
  clear h hne c0 c3
  cases ol with
  | none =>
    obtain ⟨a, cap, rfl⟩ := ho
    clear hfit
    go_enter Try.func45, Try.ntmps45
    go_wp2
    go_loop [8] (fun i => i = .int .i64 0) (fun _ => 0)
    case atStart => rfl
    case round =>
      obtain rfl := hrel
      go_wp2
      go_end0
      have hmod : Mod [bd] w (w.setCell ⟨bd, 2, none⟩ (.slice none 0 0)) := (Mod.refl _ _).setCell (by simp) _
      obtain ⟨os, hbl, _⟩ := HI.out.blk
      refine ⟨rfl, ⟨⟨.slice none 0 0, hbl.set 2 _, rfl⟩, HI.out.secs.mod hmod (by simp; exact fun e => HNE.out.1 e.symm), HI.out.fuse.mod hmod (by simp; exact fun e => HNE.out.2.1 e.symm), HNE.out, HI.out.out, ?_⟩, hmod.mono (by simp)⟩
      have hf := HI.out.fits
      exact ⟨hf.s1, hf.s2, hf.n1, hf.n2, hf.each, fun i b hi => by cases hi⟩
  | some p =>
    obtain ⟨i, b⟩ := p
    obtain ⟨bo, cap, rfl, ho0, ho1⟩ := ho
    obtain ⟨hi, hb⟩ := hfit i b rfl
    have HIB := Lib.hid (And.intro hi hb)
    clear hfit hb
    have hcs := secs_cell HI.out.secs i hi
    have hfs := HI.out.secs.free i
    have hn2 := HI.out.fits.n2
    have hii : (i : Int) < (d.last.length : Int) := by omega
    have hbd := HI.out.blk
    go_enter Try.func45, Try.ntmps45
    go_wp2
    go_loopw [8] (fun k wr => (k = .int .i64 0 ∧ wr = w) ∨ (k = .int .i64 1 ∧ Blk wr bs ((d.last.set i b).map Value.string) 9 ∧ Mod [bs] w wr)) (fun k _ => 1 - (intOf k).toNat)
    case atStart => exact .inl ⟨rfl, rfl⟩
    case round =>
      rcases hrel with ⟨rfl, rfl⟩ | ⟨rfl, hsec, hmod⟩
      · go_wp2
        clear hn2
        obtain ⟨od2, hbl, _⟩ := hbd
        have hbl2 := hbl.alloc (.cells #[.int .i64 i, .string b] 82)
        have hsc2 := HI.out.secs.alloc (.cells #[.int .i64 i, .string b] 82)
        have e1 := hbl2.cells4.2.1
        have e2 := secs_cell hsc2 i hi
        have e3 := hsc2.free i
        have HSC := Lib.hid hsc2
        clear hbl hbl2 hsc2 hcs hfs c1 c2 fz ho0 ho1
        go_region
        go_wp2
        refine ⟨.inr ⟨rfl, ?_, ((((Mod.refl [bs] _).alloc _).setCell (by simp) _).drew)⟩, by simp [intOf]⟩
        rw [List.map_set]
        exact ((HSC.out.set i _).drew)
      · obtain ⟨od2, hbl, _⟩ := hbd
        have hbl2 := hbl.mod hmod (by simp; exact HNE.out.1)
        obtain ⟨_, _, q2, _, qz⟩ := hbl2.cells4
        have HBL := Lib.hid hbl2
        have HSEC := Lib.hid hsec
        have HMOD := Lib.hid hmod
        clear hbl hbl2 hsec hmod hcs hfs c1 c2 fz ho0 ho1 hn2
        go_wp2
        go_end0
        have hmod2 : Mod [bd, bs] w (wr.setCell ⟨bd, 2, none⟩ (.slice none 0 0)) := (HMOD.out.mono (by simp)).setCell (by simp) _
        obtain ⟨hi, hb⟩ := HIB.out
        have hf := HI.out.fits
        refine ⟨rfl, ⟨⟨.slice none 0 0, ?_, rfl⟩, ?_, ?_, HNE.out, HI.out.out, ?_⟩, hmod2⟩
        · have := HBL.out.set 2 (.slice none 0 0)
          show Blk _ bd [_, .slice (some ⟨bs, 0, none⟩) ((d.last.set i b).length : Nat) ((d.last.set i b).length : Nat), _, _] _
          rw [List.length_set]
          exact this
        · exact HSEC.out.setOther (fun e => HNE.out.1 e) _
        · exact HI.out.fuse.mod hmod2 (by simp; exact ⟨fun e => HNE.out.2.1 e.symm, fun e => HNE.out.2.2 e.symm⟩)
        · refine ⟨hf.s1, hf.s2, ?_, ?_, ?_, fun i b hi => by cases hi⟩
          · show 4 ≤ (d.last.set i b).length
            rw [List.length_set]; exact hf.n1
          · show (d.last.set i b).length ≤ 1024
            rw [List.length_set]; exact hf.n2
          · intro s hs
            rcases List.mem_or_eq_of_mem_set hs with h1 | h1
            · exact hf.each s h1
            · rw [h1]; exact hb

theorem OpenAt.slice {w : World} {os : Value} {o : Option (Nat × ByteArray)} {out : List Nat} (h : OpenAt w os o out) : ∃ a n c, os = .slice a n c := by
  cases o with
  | none => exact ⟨_, _, _, h⟩
  | some p =>
    obtain ⟨i, b⟩ := p
    obtain ⟨bo, cap, h1, _⟩ := h
    exact ⟨_, _, _, h1⟩
theorem OpenAt.writes {w : World} {os : Value} {o : Option (Nat × ByteArray)} {out : List Nat} (h : OpenAt w os o out) : WritesAt w os o := by
  cases o with
  | none => exact ⟨none, 0, h⟩
  | some p =>
    obtain ⟨i, b⟩ := p
    obtain ⟨bo, cap, h1, h2, h3, h4, h5⟩ := h
    exact ⟨bo, cap, h1, h3, h4⟩

set_option maxHeartbeats 2000000 in
theorem flush_any (bd bs bf : Nat) (d : D) (av : List Nat) (w : World) (h : DiskI w bd bs bf d av) :
    Calls Try.prog 32 #[ptr bd] w fun e w' =>
      e = .returned (.int .i64 (if d.fuse.stop then 2 else 0)) ∧ DiskI w' bd bs bf d.flush av ∧ Mod [bd, bs, bf] w w' := by
  obtain ⟨os, c0, c1, c2, c3, fz, ho⟩ := h.cells
  have HI := Lib.hid h
  have HO := Lib.hid ho
  clear h ho c0 c1 fz
  have hsp : ∀ w1, FuseI w1 bf d.fuse.spend → Mod [bf] w w1 → DiskI w1 bd bs bf d.spend av := by
    intro w1 hf1 hm1
    obtain ⟨os2, h1, h2⟩ := HI.out.blk
    have hne := HI.out.ne
    exact ⟨⟨os2, h1.mod hm1 (by simp; exact hne.2.1), h2.mod hm1 (by simp)⟩, HI.out.secs.mod hm1 (by simp; exact hne.2.2), hf1, hne, HI.out.out, HI.out.fits.spend⟩
  have HSP := Lib.hid hsp
  clear hsp
  cases hst : d.fuse.stop
  · have HST := Lib.hid hst
    clear hst
    go_enter Try.func32, Try.ntmps32
    go_wp2_with fail
    (with_reducible refine (spend_any bf d.fuse _ HI.out.fuse).mono ?_); rintro _ w1 ⟨rfl, hf1, hm1⟩
    rw [HST.out]
    have hd1 := HSP.out w1 hf1 hm1
    obtain ⟨os2, k0, k1, k2, k3, kz, ho2⟩ := hd1.cells
    have HD1 := Lib.hid hd1
    have HO2 := Lib.hid ho2
    have HM1 := Lib.hid hm1
    obtain ⟨sa, sn, sc, hos⟩ := ho2.slice
    obtain rfl := hos
    have hfo : ∀ i b, d.opn = some (i, b) → i < d.spend.last.length ∧ b.size = d.spend.size := HI.out.fits.opn
    have hwr : WritesAt w1 (.slice sa sn sc) d.opn := HO2.out.writes
    have HFO := Lib.hid (And.intro hwr hfo)
    clear hd1 ho2 hm1 hf1 k0 k1 k3 c2 c3 hfo hwr
    go_wp2_with fail
    (with_reducible refine (last_any bd bs bf d.spend av _ d.opn _ HD1.out HFO.out.1 HFO.out.2).mono ?_); rintro _ w2 ⟨rfl, hd2, hm2⟩
    have HD2 := Lib.hid hd2
    have HM2 := Lib.hid hm2
    clear hd2 hm2
    go_wp2
    go_ret
    refine ⟨rfl, ?_, (HM1.out.mono (by simp)).trans (HM2.out.mono (by simp))⟩
    have : d.flush = { d.spend with last := ap d.spend.last d.opn, opn := none } := by
      unfold D.flush D.now ap
      rw [HST.out]
      rfl
    rw [this]
    exact HD2.out
  · have HST := Lib.hid hst
    clear hst
    go_enter Try.func32, Try.ntmps32
    go_wp2_with fail
    (with_reducible refine (spend_any bf d.fuse _ HI.out.fuse).mono ?_); rintro _ w1 ⟨rfl, hf1, hm1⟩
    rw [HST.out]
    have HF1 := Lib.hid hf1
    have HM1 := Lib.hid hm1
    clear hf1 hm1
    go_wp2
    go_ret
    have : d.flush = d.spend := by unfold D.flush; rw [HST.out]; rfl
    rw [this]
    exact ⟨rfl, HSP.out _ HF1.out HM1.out, HM1.out.mono (by simp)⟩
end Go.Proofs.Yteidhbjfmmodhaa
