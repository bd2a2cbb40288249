/- A sound log in memory, and its calls. -/
import Derived.Test.YteidhbjfmmodhaaWal4
import Derived.Test.YteidhbjfmmodhaaWalFresh
namespace Go.Proofs.Yteidhbjfmmodhaa
open Go.RowKit Crc Fr

theorem may_ok {d : D} {l : Lg} {s : ByteArray} (h : Sound d l) (hp : (s.size : Int) ≤ (d.size : Int) - 14) : mayE d l s = 0 := by
  unfold mayE; rw [h.broken, if_neg (by simp), if_neg (by omega)]
theorem may_long {d : D} {l : Lg} {s : ByteArray} (h : Sound d l) (hp : (d.size : Int) - 14 < (s.size : Int)) : mayE d l s = 5 := by
  unfold mayE; rw [h.broken, if_neg (by simp), if_pos (by omega)]
theorem app_ok {d : D} {l : Lg} {s : ByteArray} (h : Sound d l) (hp : (s.size : Int) ≤ (d.size : Int) - 14) (hr : l.recs.length + 1 < d.half) :
    appE d l s = 0 ∧ appD d l s = lay d l.area l.gen (l.recs.length + 1) s ∧ appL d l s = { l with recs := l.recs ++ [s] } := by
  have h1 := may_ok h hp
  have h2 : roomN d l ≠ 0 := by unfold roomN; omega
  have h3 := lay_ok h.safe l.area l.gen (l.recs.length + 1) s
  refine ⟨?_, ?_, ?_⟩
  · unfold appE; rw [if_neg (by omega), if_neg h2, if_pos h3]
  · unfold appD; rw [if_neg (by omega)]
  · unfold appL; rw [if_neg (by omega), if_pos h3]
theorem app_full {d : D} {l : Lg} {s : ByteArray} (h : Sound d l) (hp : (s.size : Int) ≤ (d.size : Int) - 14) (hr : l.recs.length + 1 = d.half) :
    appE d l s = 3 ∧ appD d l s = d ∧ appL d l s = l := by
  have h1 := may_ok h hp
  have h2 : roomN d l = 0 := by unfold roomN; omega
  refine ⟨?_, ?_, ?_⟩
  · unfold appE; rw [if_neg (by omega), if_pos h2]
  · unfold appD; rw [if_pos (.inr h2)]
  · unfold appL; rw [if_pos (.inr h2)]
theorem app_long {d : D} {l : Lg} {s : ByteArray} (h : Sound d l) (hp : (d.size : Int) - 14 < (s.size : Int)) :
    appE d l s = 5 ∧ appD d l s = d ∧ appL d l s = l := by
  have h1 := may_long h hp
  refine ⟨?_, ?_, ?_⟩
  · unfold appE; rw [if_pos (by omega), h1]
  · unfold appD; rw [if_pos (.inl (by omega))]
  · unfold appL; rw [if_pos (.inl (by omega))]
theorem app_sound {d : D} {l : Lg} (s : ByteArray) (h : Sound d l) : Sound (appD d l s) (appL d l s) := by
  by_cases hp : (s.size : Int) ≤ (d.size : Int) - 14
  · have hr := h.recs
    by_cases he : l.recs.length + 1 = d.half
    · obtain ⟨_, h1, h2⟩ := app_full h hp he
      rw [h1, h2]; exact h
    · obtain ⟨_, h1, h2⟩ := app_ok h hp (by omega)
      rw [h1, h2]; exact h.append hp (by omega)
  · obtain ⟨_, h1, h2⟩ := app_long h (s := s) (by omega)
    rw [h1, h2]; exact h
theorem app_half (d : D) (l : Lg) (s : ByteArray) : (appD d l s).half = d.half ∧ (appD d l s).size = d.size := by
  unfold appD
  split
  · exact ⟨rfl, rfl⟩
  · exact ⟨lay_half _ _ _ _ _, lay_size _ _ _ _ _⟩
theorem chk_ok {d : D} {l : Lg} {s : ByteArray} (h : Sound d l) (hp : (s.size : Int) ≤ (d.size : Int) - 14) (hg : l.gen + 1 ≤ 4294967295) :
    chkE d l s = 0 ∧ chkD d l s = lay (lay d (1 - l.area) (l.gen + 1) 1 s) (1 - l.area) (l.gen + 1) 0 headS ∧ chkL d l s = { l with area := 1 - l.area, gen := l.gen + 1, recs := [s] } := by
  have h1 := may_ok h hp
  have h2 : chk1Ok d l s = true := lay_ok h.safe _ _ _ _
  have h3 : chk2Ok d l s = true := lay_ok (lay_safe h.safe _ _ _ _) _ _ _ _
  refine ⟨?_, ?_, ?_⟩
  · unfold chkE; rw [if_neg (by omega), if_neg (by omega), h2, h3]; rfl
  · unfold chkD; rw [if_neg (by omega), if_pos h2]; rfl
  · unfold chkL; rw [if_neg (by omega), h2, h3]; rfl
theorem chk_long {d : D} {l : Lg} {s : ByteArray} (h : Sound d l) (hp : (d.size : Int) - 14 < (s.size : Int)) :
    chkE d l s = 5 ∧ chkD d l s = d ∧ chkL d l s = l := by
  have h1 := may_long h hp
  refine ⟨?_, ?_, ?_⟩
  · unfold chkE; rw [if_pos (by omega), h1]
  · unfold chkD; rw [if_pos (.inl (by omega))]
  · unfold chkL; rw [if_pos (.inl (by omega))]
theorem chk_over {d : D} {l : Lg} {s : ByteArray} (h : l.gen = 4294967295) : chkD d l s = d ∧ chkL d l s = l := by
  refine ⟨?_, ?_⟩
  · unfold chkD; rw [if_pos (.inr h)]
  · unfold chkL; rw [if_pos (.inr h)]
theorem chk_sound {d : D} {l : Lg} (s : ByteArray) (h : Sound d l) : Sound (chkD d l s) (chkL d l s) := by
  by_cases hp : (s.size : Int) ≤ (d.size : Int) - 14
  · by_cases hg : l.gen = 4294967295
    · obtain ⟨h1, h2⟩ := chk_over (d := d) (s := s) hg
      rw [h1, h2]; exact h
    · have := h.gen2
      obtain ⟨_, h1, h2⟩ := chk_ok h hp (by omega)
      rw [h1, h2]; exact h.check hp (by omega)
  · obtain ⟨_, h1, h2⟩ := chk_long h (s := s) (by omega)
    rw [h1, h2]; exact h
theorem chk_half (d : D) (l : Lg) (s : ByteArray) : (chkD d l s).half = d.half ∧ (chkD d l s).size = d.size := by
  unfold chkD
  split
  · exact ⟨rfl, rfl⟩
  · split
    · exact ⟨by rw [lay_half]; exact lay_half _ _ _ _ _, by rw [lay_size]; exact lay_size _ _ _ _ _⟩
    · exact ⟨lay_half _ _ _ _ _, lay_size _ _ _ _ _⟩

/-- A sound log in memory. -/
structure Obj (w : World) (bw bd bs bf : Nat) (d : D) (l : Lg) (av : List Nat) : Prop where
  log : LogI w bw bd l
  disk : DiskI w bd bs bf d av
  snd : Sound d l
  mem : bw ∈ av
  lt : ∀ x ∈ av, x < w.heap.size
theorem Obj.mod {S : List Nat} {w w' : World} {bw bd bs bf : Nat} {d : D} {l : Lg} {av : List Nat} (h : Obj w bw bd bs bf d l av) (hm : Mod S w w') (hs : ∀ x ∈ S, x ∈ av ∧ x ≠ bw) : Obj w' bw bd bs bf d l av :=
  ⟨h.log.mod hm (fun hx => (hs _ hx).2 rfl), h.disk.mod hm (fun x hx => (hs x hx).1), h.snd, h.mem, fun x hx => Nat.lt_of_lt_of_le (h.lt x hx) hm.size⟩
theorem Obj.same {w w' : World} {bw bd bs bf : Nat} {d : D} {l : Lg} {av : List Nat} (h : Obj w bw bd bs bf d l av) (hm : Mod [] w w') : Obj w' bw bd bs bf d l av := h.mod hm (by simp)

theorem append_o (bw bd bs bf : Nat) (d : D) (l : Lg) (av : List Nat) (s : ByteArray) (w : World) (h : Obj w bw bd bs bf d l av) :
    Calls Try.prog 16 #[ptr bw, .string s] w fun e w' => e = .returned (.int .i64 (appE d l s)) ∧ Obj w' bw bd bs bf (appD d l s) (appL d l s) av ∧ Mod [bd, bs, bf, bw] w w' :=
  (append_any bw bd bs bf d av l s w h.log h.disk h.snd.lgfits h.lt h.mem).mono fun _ _ ⟨he, h1, h2, h3⟩ => ⟨he, ⟨h1, h2, app_sound s h.snd, h.mem, fun x hx => Nat.lt_of_lt_of_le (h.lt x hx) h3.size⟩, h3⟩
theorem check_o (bw bd bs bf : Nat) (d : D) (l : Lg) (av : List Nat) (s : ByteArray) (w : World) (h : Obj w bw bd bs bf d l av) :
    Calls Try.prog 17 #[ptr bw, .string s] w fun e w' => e = .returned (.int .i64 (chkE d l s)) ∧ Obj w' bw bd bs bf (chkD d l s) (chkL d l s) av ∧ Mod [bd, bs, bf, bw] w w' :=
  (check_any bw bd bs bf d av l s w h.log h.disk h.snd.lgfits h.lt h.mem).mono fun _ _ ⟨he, h1, h2, h3⟩ => ⟨he, ⟨h1, h2, chk_sound s h.snd, h.mem, fun x hx => Nat.lt_of_lt_of_le (h.lt x hx) h3.size⟩, h3⟩
theorem room_o (bw bd bs bf : Nat) (d : D) (l : Lg) (av : List Nat) (w : World) (h : Obj w bw bd bs bf d l av) :
    Calls Try.prog 14 #[ptr bw] w fun e w' => e = .returned (.int .i64 (roomN d l)) ∧ Mod [] w w' :=
  wroom_any bw bd bs bf d av l w h.log h.disk h.snd.recs
theorem StrsAt.slice {w : World} {v : Value} {l : List ByteArray} {out : List Nat} (h : StrsAt w v l out) : ∃ a c, v = .slice a l.length c := by
  rcases h with ⟨rfl, rfl⟩ | ⟨g, cap, h1, _⟩
  · exact ⟨_, _, rfl⟩
  · exact ⟨_, _, h1⟩
/-- Opened anew. -/
theorem open_o (bd bs bf : Nat) (d : D) (l : Lg) (av : List Nat) (w : World) (h : DiskI w bd bs bf d av) (hs : Sound d l) (hav : ∀ x ∈ av, x < w.heap.size) :
    Calls Try.prog 12 #[ptr bd] w fun e w' => ∃ bw v, e = .returned (.tuple #[ptr bw, v, .int .i64 0]) ∧ w.heap.size ≤ bw ∧ Obj w' bw bd bs bf d l (bw :: av) ∧ StrsAt w' v l.recs (bw :: [bd, bs, bf] ++ av) ∧ Mod [bd, bs, bf] w w' := by
  obtain ⟨h1, h2, h3⟩ := hs.opened
  refine (open_any bd bs bf d av w h hav).mono fun e w' ⟨hm, h4⟩ => ?_
  rcases h4 with ⟨_, bw, v, he, hlt, hl, hd, hst⟩ | ⟨h5, _⟩
  · rw [h3] at hl hst
    rw [h2] at hd
    refine ⟨bw, v, he, hlt, ⟨hl, hd, hs, List.mem_cons_self, fun x hx => ?_⟩, hst, hm⟩
    rcases List.mem_cons.1 hx with e | e
    · rw [e]; exact Blk.lt hl
    · exact Nat.lt_of_lt_of_le (hav x e) hm.size
  · rw [h1] at h5; cases h5
/-- A fresh disk is opened. -/
theorem open_fresh (bd bs bf : Nat) (size n : Int) (f : F) (hff : f.left = none ∧ f.blown = false) (av : List Nat) (w : World) (h : DiskI w bd bs bf (dNew size n f) av) (hav : ∀ x ∈ av, x < w.heap.size) :
    Calls Try.prog 12 #[ptr bd] w fun e w' => ∃ bw a c, e = .returned (.tuple #[ptr bw, .slice a 0 c, .int .i64 0]) ∧ w.heap.size ≤ bw ∧ Obj w' bw bd bs bf (fresh0 size n f) freshL (bw :: av) ∧ Mod [bd, bs, bf] w w' := by
  obtain ⟨h1, h2, h3⟩ := fresh_open size n f hff
  refine (open_any bd bs bf _ av w h hav).mono fun e w' ⟨hm, h4⟩ => ?_
  rcases h4 with ⟨_, bw, v, he, hlt, hl, hd, hst⟩ | ⟨h5, _⟩
  · rw [h3] at hl hst
    rw [h2] at hd
    obtain ⟨a, c, rfl⟩ := hst.slice
    refine ⟨bw, a, c, he, hlt, ⟨hl, hd, fresh_sound size n f hff, List.mem_cons_self, fun x hx => ?_⟩, hm⟩
    rcases List.mem_cons.1 hx with e | e
    · rw [e]; exact Blk.lt hl
    · exact Nat.lt_of_lt_of_le (hav x e) hm.size
  · rw [h1] at h5; cases h5

/-- What a log shows. -/
structure St (d : D) (l : Lg) (half size : Nat) (recs : List ByteArray) (gen : Nat) : Prop where
  half : d.half = half
  size : d.size = size
  recs : l.recs = recs
  gen : l.gen = gen
theorem St.room {d : D} {l : Lg} {half size : Nat} {recs : List ByteArray} {gen : Nat} (h : St d l half size recs gen) : roomN d l = (half : Int) - 1 - recs.length := by unfold roomN; rw [h.half, h.recs]
section
variable {bw bd bs bf : Nat} {d : D} {l : Lg} {av : List Nat} {half size : Nat} {recs : List ByteArray} {gen : Nat} {s : ByteArray} {w : World} (h : Obj w bw bd bs bf d l av) (hst : St d l half size recs gen)
include h hst
theorem append_yes (hp : (s.size : Int) ≤ (size : Int) - 14) (hr : recs.length + 1 < half) :
    Calls Try.prog 16 #[ptr bw, .string s] w fun e w' => e = .returned (.int .i64 0) ∧ ∃ d' l', Obj w' bw bd bs bf d' l' av ∧ St d' l' half size (recs ++ [s]) gen ∧ Mod [bd, bs, bf, bw] w w' := by
  obtain ⟨h1, h2, h3⟩ := app_ok h.snd (s := s) (by rw [hst.size]; exact hp) (by rw [hst.half, hst.recs]; exact hr)
  refine (append_o bw bd bs bf d l av s w h).mono fun e w' ⟨he, ho, hm⟩ => ?_
  refine ⟨by rw [he, h1]; rfl, _, _, ho, ⟨by rw [(app_half d l s).1, hst.half], by rw [(app_half d l s).2, hst.size], ?_, ?_⟩, hm⟩
  · rw [h3, hst.recs]
  · rw [h3]; exact hst.gen
theorem append_full (hp : (s.size : Int) ≤ (size : Int) - 14) (hr : recs.length + 1 = half) :
    Calls Try.prog 16 #[ptr bw, .string s] w fun e w' => e = .returned (.int .i64 3) ∧ Obj w' bw bd bs bf d l av ∧ Mod [bd, bs, bf, bw] w w' := by
  obtain ⟨h1, h2, h3⟩ := app_full h.snd (s := s) (by rw [hst.size]; exact hp) (by rw [hst.half, hst.recs]; exact hr)
  refine (append_o bw bd bs bf d l av s w h).mono fun e w' ⟨he, ho, hm⟩ => ?_
  rw [h2, h3] at ho
  exact ⟨by rw [he, h1]; rfl, ho, hm⟩
theorem append_long (hp : (size : Int) - 14 < (s.size : Int)) :
    Calls Try.prog 16 #[ptr bw, .string s] w fun e w' => e = .returned (.int .i64 5) ∧ Obj w' bw bd bs bf d l av ∧ Mod [bd, bs, bf, bw] w w' := by
  obtain ⟨h1, h2, h3⟩ := app_long h.snd (s := s) (by rw [hst.size]; exact hp)
  refine (append_o bw bd bs bf d l av s w h).mono fun e w' ⟨he, ho, hm⟩ => ?_
  rw [h2, h3] at ho
  exact ⟨by rw [he, h1]; rfl, ho, hm⟩
theorem check_yes (hp : (s.size : Int) ≤ (size : Int) - 14) (hg : gen + 1 ≤ 4294967295) :
    Calls Try.prog 17 #[ptr bw, .string s] w fun e w' => e = .returned (.int .i64 0) ∧ ∃ d' l', Obj w' bw bd bs bf d' l' av ∧ St d' l' half size [s] (gen + 1) ∧ Mod [bd, bs, bf, bw] w w' := by
  obtain ⟨h1, h2, h3⟩ := chk_ok h.snd (s := s) (by rw [hst.size]; exact hp) (by rw [hst.gen]; exact hg)
  refine (check_o bw bd bs bf d l av s w h).mono fun e w' ⟨he, ho, hm⟩ => ?_
  refine ⟨by rw [he, h1]; rfl, _, _, ho, ⟨by rw [(chk_half d l s).1, hst.half], by rw [(chk_half d l s).2, hst.size], ?_, ?_⟩, hm⟩
  · rw [h3]
  · rw [h3]; show l.gen + 1 = _; rw [hst.gen]
theorem check_long (hp : (size : Int) - 14 < (s.size : Int)) :
    Calls Try.prog 17 #[ptr bw, .string s] w fun e w' => e = .returned (.int .i64 5) ∧ Obj w' bw bd bs bf d l av ∧ Mod [bd, bs, bf, bw] w w' := by
  obtain ⟨h1, h2, h3⟩ := chk_long h.snd (s := s) (by rw [hst.size]; exact hp)
  refine (check_o bw bd bs bf d l av s w h).mono fun e w' ⟨he, ho, hm⟩ => ?_
  rw [h2, h3] at ho
  exact ⟨by rw [he, h1]; rfl, ho, hm⟩
theorem room_st (r : Int) (hr : (half : Int) - 1 - recs.length = r) : Calls Try.prog 14 #[ptr bw] w fun e w' => e = .returned (.int .i64 r) ∧ Mod [] w w' := by
  rw [← hr, ← hst.room]; exact room_o bw bd bs bf d l av w h
theorem gen_st : Calls Try.prog 13 #[ptr bw] w fun e w' => e = .returned (.int .i64 gen) ∧ w' = w := by
  rw [← hst.gen]; exact gen_any bw bd l w h.log
end
theorem Obj.log_after {w w' : World} {bw bd bs bf : Nat} {d : D} {l : Lg} {av : List Nat} (h : Obj w bw bd bs bf d l av) (hm : Mod [bd, bs, bf] w w') : LogI w' bw bd l :=
  h.log.mod hm (by
    have h1 := h.disk.out
    have h2 := h.mem
    intro hx
    simp at hx
    rcases hx with e | e | e
    · exact h1.1 (e ▸ h2)
    · exact h1.2.1 (e ▸ h2)
    · exact h1.2.2 (e ▸ h2))
/-- A fresh log. -/
theorem open_new (bd bs bf : Nat) (size n : Int) (f : F) (hff : f.left = none ∧ f.blown = false) (av : List Nat) (w : World) (h : DiskI w bd bs bf (dNew size n f) av) (hav : ∀ x ∈ av, x < w.heap.size) :
    Calls Try.prog 12 #[ptr bd] w fun e w' => ∃ bw a c d l, e = .returned (.tuple #[ptr bw, .slice a 0 c, .int .i64 0]) ∧ w.heap.size ≤ bw ∧ Obj w' bw bd bs bf d l (bw :: av) ∧ St d l (lenOfI n / 2) (sizeOfI size) [] 1 ∧ Mod [bd, bs, bf] w w' := by
  refine (open_fresh bd bs bf size n f hff av w h hav).mono fun e w' ⟨bw, a, c, he, hlt, ho, hm⟩ => ⟨bw, a, c, _, _, he, hlt, ho, ⟨?_, ?_, rfl, rfl⟩, hm⟩
  · unfold fresh0; rw [lay_half]; unfold D.half dNew; simp
  · unfold fresh0; rw [lay_size]; rfl
end Go.Proofs.Yteidhbjfmmodhaa
