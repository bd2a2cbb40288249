/- The walk over a log's opening. -/
import Derived.Test.YteidhbjfmmodhaaWal3
namespace Go.Proofs.Yteidhbjfmmodhaa
open Go.RowKit Crc Fr

/-- A list of strings, in memory. -/
def StrsAt (w : World) (v : Value) (l : List ByteArray) (out : List Nat) : Prop :=
  (v = .slice none 0 0 ∧ l = []) ∨ ∃ g cap, v = .slice (some ⟨g, 0, none⟩) l.length cap ∧ (∀ i (h : i < l.length), w.cell? ⟨g, i, none⟩ = some (.string l[i])) ∧ g ∉ out ∧ g < w.heap.size
theorem StrsAt.mod {S : List Nat} {w w' : World} {v : Value} {l : List ByteArray} {out : List Nat} (h : StrsAt w v l out) (hm : Mod S w w') (hs : ∀ x ∈ S, x ∈ out ∨ w.heap.size ≤ x) : StrsAt w' v l out := by
  rcases h with h | ⟨g, cap, h1, h2, h3, h4⟩
  · exact .inl h
  · refine .inr ⟨g, cap, h1, fun i hi => hm.cell (h2 i hi) (fun hx => ?_), h3, Nat.lt_of_lt_of_le h4 hm.size⟩
    rcases hs _ hx with h5 | h5
    · exact h3 h5
    · simp at h5; omega

theorem generation0 (bd bs bf : Nat) (d : D) (av : List Nat) (w : World) (h : DiskI w bd bs bf d av) :
    Calls Try.prog 33 #[ptr bd, .int .i64 0] w fun e w' => e = .returned (.int .i64 (headN d 0)) ∧ Mod [] w w' := generation_any bd bs bf d av 0 w h (by omega)
theorem generation1 (bd bs bf : Nat) (d : D) (av : List Nat) (w : World) (h : DiskI w bd bs bf d av) :
    Calls Try.prog 33 #[ptr bd, .int .i64 1] w fun e w' => e = .returned (.int .i64 (headN d 1)) ∧ Mod [] w w' := generation_any bd bs bf d av 1 w h (by omega)
theorem lay_first (bw bd bs bf : Nat) (d : D) (av : List Nat) (c1 c2 c3 : Value) (w : World) (h : DiskI w bd bs bf d av) (hav : ∀ x ∈ av, x < w.heap.size)
    (hb : Blk w bw [ptr bd, c1, c2, c3, .bool false] 66) (hbw : bw ∈ av) (hop : d.opn = none) :
    Calls Try.prog 34 #[ptr bw, .int .i64 0, .int .i64 1, .int .i64 0, .string ⟨#[104, 101, 97, 100]⟩] w fun e w' =>
      e = .returned (.int .i64 (layE d 0 1 0 headS)) ∧ DiskI w' bd bs bf (lay d 0 1 0 headS) av ∧
      Blk w' bw [ptr bd, c1, c2, c3, .bool (!layOk d 0 1 0 headS)] 66 ∧ Mod [bd, bs, bf, bw] w w' :=
  lay_head bw bd bs bf d av 0 1 c1 c2 c3 w h hav hb hbw hop (by omega) (by omega)
theorem DiskI.lts {w : World} {bd bs bf : Nat} {d : D} {av : List Nat} (h : DiskI w bd bs bf d av) : bd < w.heap.size ∧ bs < w.heap.size ∧ bf < w.heap.size := by
  obtain ⟨os, hbl, _⟩ := h.blk
  exact ⟨hbl.lt, h.secs.lt, h.fuse.blk.lt⟩

theorem own_mod {S : List Nat} {w w' : World} {base : Nat} {e : TypeId} {size n : Nat} {v : Value} {xs : List Value} (h : w.ownsRow base e size v n xs) (hm : Mod S w w') (hs : ∀ x ∈ S, x < base) : w'.ownsRow base e size v n xs := by
  obtain ⟨h1, h2⟩ := h
  refine ⟨h1, ?_⟩
  rcases h2 with h2 | ⟨g, cap, cur, h3, h4, h5, h6⟩
  · exact .inl h2
  · exact .inr ⟨g, cap, cur, h3, h4, hm.heap h5 (fun hx => by have := hs _ hx; omega), h6⟩
theorem own_slice {w : World} {base : Nat} {e : TypeId} {n : Nat} {v : Value} {xs : List Value} (h : w.ownsRow base e 1 v n xs) : ∃ a c, v = .slice a n c := by
  obtain ⟨_, h2⟩ := h
  rcases h2 with ⟨rfl, rfl⟩ | ⟨g, cap, cur, h3, _⟩
  · exact ⟨_, _, rfl⟩
  · exact ⟨_, _, h3⟩
theorem own_strs {w : World} {base : Nat} {e : TypeId} {v : Value} {l : List ByteArray} {out : List Nat} (h : w.ownsRow base e 1 v l.length (l.map Value.string)) (ho : ∀ x ∈ out, x < base) : StrsAt w v l out := by
  obtain ⟨_, h2⟩ := h
  rcases h2 with ⟨rfl, h3⟩ | ⟨g, cap, cur, rfl, hg, hh, hcap, _, hsz, hcur⟩
  · exact .inl ⟨rfl, List.eq_nil_of_length_eq_zero h3⟩
  · refine .inr ⟨g, cap, rfl, fun i hi => ?_, fun hx => by have := ho _ hx; omega, lt_of_heap hh⟩
    have hk2 : (l.map Value.string)[i]? = some (.string l[i]) := by simp [hi]
    rw [← hcur] at hk2
    simp only [Nat.mul_one, List.getElem?_take, hi, if_true] at hk2
    unfold World.cell?
    simp only [hh, Option.isSome_none, Bool.false_eq_true, if_false]
    simpa using hk2
theorem recsFrom_none (d : D) (area gen seq fuel : Nat) (h : good d area gen seq = false) : recsFrom d area gen seq fuel = [] := by
  cases fuel with
  | zero => rfl
  | succ f => unfold recsFrom; rw [h]; rfl
theorem recsFrom_good (d : D) (area gen seq fuel : Nat) (h : good d area gen seq = true) : recsFrom d area gen seq (fuel + 1) = recPay d area seq :: recsFrom d area gen (seq + 1) fuel := by
  show (if good d area gen seq then _ else _) = _; rw [h]; rfl

/-- What an opening comes to. -/
def Opened (w w' : World) (e : Ending) (bd bs bf : Nat) (d : D) (av : List Nat) : Prop :=
  Mod [bd, bs, bf] w w' ∧
  ((openOk d = true ∧ ∃ bw v, e = .returned (.tuple #[ptr bw, v, .int .i64 0]) ∧ w.heap.size ≤ bw ∧ LogI w' bw bd (openL d) ∧ DiskI w' bd bs bf (openD d) (bw :: av) ∧ StrsAt w' v (openL d).recs (bw :: [bd, bs, bf] ++ av)) ∨
   (openOk d = false ∧ e = .returned (.tuple #[.pointer none, .slice none 0 0, .int .i64 2]) ∧ DiskI w' bd bs bf (openD d) av))




set_option maxHeartbeats 8000000 in
theorem open_any (bd bs bf : Nat) (d : D) (av : List Nat) (w : World) (h : DiskI w bd bs bf d av) (hav : ∀ x ∈ av, x < w.heap.size) :
    Calls Try.prog 12 #[ptr bd] w fun e w' => Opened w w' e bd bs bf d av := by
  have HD := Lib.hid h
  have HAV := Lib.hid hav
  clear h hav
  cases hop : d.opn with
  | none =>
    have HN := Lib.hid (show opnN d = 0 by unfold opnN; rw [hop])
    have H1 := Lib.hid (show opn1 d = d by unfold opn1; rw [hop]; rfl)
    have HOPD := Lib.hid (show (d.opn.isSome && d.fuse.stop) = false by rw [hop]; rfl)
    go_enter Try.func12, Try.ntmps12
    go_wp2_with fail
    (with_reducible refine (dopen_any bd bs bf d av _ HD.out).mono ?_); rintro _ w1 ⟨rfl, rfl⟩
    rw [HN.out]
    have HD1 := Lib.hid (show DiskI w1 bd bs bf (opn1 d) av by rw [H1.out]; exact HD.out)
    have HM1 := Lib.hid (Mod.refl [bd, bs, bf] w1)
    have HO1 := Lib.hid (show (opn1 d).opn = none by rw [H1.out]; exact hop)
    clear hop
    -- w1: 'opn1 d' on the disk, nothing open (HD1, HM1, HO1)
    go_wp2_with fail
    (with_reducible refine (generation0 bd bs bf (opn1 d) av _ HD1.out).mono ?_); rintro _ w3 ⟨rfl, hm3⟩
    have HM3 := Lib.hid (HM1.out.trans (hm3.mono (S' := [bd, bs, bf]) (by simp)))
    have HD3 := Lib.hid (HD1.out.same hm3)
    clear hm3
    go_wp2_with fail
    obtain ⟨bw, hbw⟩ : ∃ bw, bw = w3.heap.size := ⟨_, rfl⟩
    rw [← hbw]
    have HBW := Lib.hid hbw
    clear hbw
    have ha2 := Blk.new w3 [ptr bd, .int .i64 0, .int .i64 (headN (opn1 d) 0), .int .i64 0, .bool false] 66
    rw [← HBW.out] at ha2
    have hd4 := (HD3.out.avoid (av' := bw :: av) (by intro x hx; rcases List.mem_cons.1 hx with e | e; exact .inr (by rw [e, HBW.out]; exact Nat.le_refl _); exact .inl e)).same ((Mod.refl [] w3).alloc (.cells #[ptr bd, .int .i64 0, .int .i64 (headN (opn1 d) 0), .int .i64 0, .bool false] 66))
    have hm4 := HM3.out.alloc (.cells #[ptr bd, .int .i64 0, .int .i64 (headN (opn1 d) 0), .int .i64 0, .bool false] 66)
    obtain ⟨w4, hw4⟩ : ∃ w4, w4 = w3.alloc (.cells #[ptr bd, .int .i64 0, .int .i64 (headN (opn1 d) 0), .int .i64 0, .bool false] 66) := ⟨_, rfl⟩
    have ha3 : Blk w4 bw [ptr bd, .int .i64 0, .int .i64 (headN (opn1 d) 0), .int .i64 0, .bool false] 66 := by rw [hw4]; exact ha2
    rw [← hw4] at hd4 hm4 ⊢
    clear hw4 ha2
    have HD4 := Lib.hid hd4
    (with_reducible refine (generation1 bd bs bf (opn1 d) _ _ HD4.out).mono ?_); rintro _ w5 ⟨rfl, hm5⟩
    have hb5 := ha3.mod hm5 (by simp)
    obtain ⟨k0, k1, k2, k3, k4, kz⟩ := hb5.cells5
    have HB5 := Lib.hid hb5
    have HD5 := Lib.hid (hd4.same hm5)
    have HM5 := Lib.hid (hm4.trans (hm5.mono (S' := [bd, bs, bf]) (by simp)))
    clear ha3 hd4 hm4 hm5 hb5 HD4
    by_cases hlt : headN (opn1 d) 0 < headN (opn1 d) 1
    · have HA := Lib.hid (show areaN (opn1 d) = 1 by unfold areaN; rw [if_pos hlt])
      have HG := Lib.hid (show genN (opn1 d) = headN (opn1 d) 1 by unfold genN; rw [if_pos hlt])
      have HG2 := Lib.hid (show genN (opn1 d) ≠ 0 by rw [HG.out]; omega)
      have hlt2 : (headN (opn1 d) 0 : Int) < (headN (opn1 d) 1 : Int) := by omega
      have hz : (((headN (opn1 d) 1 : Nat) : Int) == 0) = false := by simp; omega
      clear hlt
      go_wp2_with fail
      have hl6 : Blk ((w5.setCell ⟨bw, 1, none⟩ (.int .i64 1)).setCell ⟨bw, 2, none⟩ (.int .i64 (headN (opn1 d) 1))) bw [ptr bd, .int .i64 1, .int .i64 (headN (opn1 d) 1), .int .i64 0, .bool false] 66 := (HB5.out.set 1 (.int .i64 1)).set 2 (.int .i64 (headN (opn1 d) 1))
      have hm6 : Mod [bd, bs, bf] w1 ((w5.setCell ⟨bw, 1, none⟩ (.int .i64 1)).setCell ⟨bw, 2, none⟩ (.int .i64 (headN (opn1 d) 1))) := (HM5.out.setNew (p := ⟨bw, 1, none⟩) (by have := HM3.out.size; rw [HBW.out]; exact this) _).setNew (p := ⟨bw, 2, none⟩) (by have := HM3.out.size; rw [HBW.out]; exact this) _
      have hd6 : DiskI ((w5.setCell ⟨bw, 1, none⟩ (.int .i64 1)).setCell ⟨bw, 2, none⟩ (.int .i64 (headN (opn1 d) 1))) bd bs bf (opn1 d) (bw :: av) := HD5.out.mod (((Mod.refl [bw] _).setCell (p := ⟨bw, 1, none⟩) (by simp) _).setCell (p := ⟨bw, 2, none⟩) (by simp) _) (by simp)
      obtain ⟨w6, hw6⟩ : ∃ w6, w6 = (w5.setCell ⟨bw, 1, none⟩ (.int .i64 1)).setCell ⟨bw, 2, none⟩ (.int .i64 (headN (opn1 d) 1)) := ⟨_, rfl⟩
      rw [← hw6] at hl6 hm6 hd6 ⊢
      obtain ⟨ar, har⟩ : ∃ ar : Nat, ar = 1 := ⟨_, rfl⟩
      obtain ⟨ge, hge⟩ : ∃ ge : Nat, ge = headN (opn1 d) 1 := ⟨_, rfl⟩
      obtain ⟨d6, hd6e⟩ : ∃ d6, d6 = opn1 d := ⟨_, rfl⟩
      have HL6 := Lib.hid (show Blk w6 bw [ptr bd, .int .i64 ar, .int .i64 ge, .int .i64 0, .bool false] 66 by rw [har, hge]; exact hl6)
      have HD6 := Lib.hid (show DiskI w6 bd bs bf d6 (bw :: av) by rw [hd6e]; exact hd6)
      have HM6 := Lib.hid hm6
      have HV := Lib.hid (show ar ≤ 1 ∧ ar = areaN (opn1 d) ∧ ge = openGen d ∧ d6 = openD d ∧ openOk d = true from ⟨by omega, by rw [har, HA.out], by rw [hge]; unfold openGen; rw [if_neg HG2.out, HG.out], by rw [hd6e]; unfold openD; rw [HOPD.out, if_neg (by simp), if_neg HG2.out], by unfold openOk; rw [HOPD.out, if_neg (by simp), if_neg HG2.out]⟩)
      clear hl6 hm6 hd6 hw6 har hge hd6e k0 k1 k2 k3 k4 kz hlt2 hz
      -- w6: HL6 : Blk w6 bw [.., ar, ge, 0, false], HD6 : DiskI w6 .. d6 (bw :: av), HM6 : Mod [bd, bs, bf] w1 w6, HV
      have hown0 : w6.ownsRow w6.heap.size 9 1 (.slice none 0 0) 0 [] := ⟨rfl, .inl ⟨rfl, rfl⟩⟩
      have HOWN0 := Lib.hid hown0
      clear hown0
      have HH := Lib.hid (half_two HD6.out.fits)
      go_loopw [7, 8] (fun v i wr => ∃ (k : Nat) (col : List ByteArray), i = .int .i64 k ∧ col.length + 1 = k ∧ k ≤ d6.half ∧ recsOf d6 ar ge = col ++ recsFrom d6 ar ge k (d6.half - k) ∧ wr.ownsRow w6.heap.size 9 1 v col.length (col.map Value.string) ∧ Mod [] w6 wr) (fun _ i _ => d6.half - (intOf i).toNat)
      case atStart => exact ⟨1, [], rfl, rfl, by have := HH.out; omega, rfl, HOWN0.out, Mod.refl _ _⟩
      case round =>
        obtain ⟨k, col, rfl, hk1, hk2, hrec, hown, hmr⟩ := hrel
        have HREC := Lib.hid hrec
        have HOWN := Lib.hid hown
        have HMR := Lib.hid hmr
        have HLR := Lib.hid (HL6.out.mod hmr (by simp))
        have HDR := Lib.hid (HD6.out.same hmr)
        have HK := Lib.hid (And.intro hk1 hk2)
        clear hrec hown hmr hk1 hk2
        by_cases hlt : k < d6.half
        · have hlti : (k : Int) < (d6.half : Int) := by omega
          have k1 := HLR.out.cells5.2.1
          have hat := at_lt (d := d6) (area := ar) (seq := k) HD6.out.fits HV.out.1 hlt
          have HAT := Lib.hid hat
          have HPOS := Lib.hid (show wrap64 (wrap64 ((ar : Int) * (d6.half : Int)) + (k : Int)) = ((ar * d6.half + k : Nat) : Int) by
            have := HD6.out.fits.n2
            rw [IntWalk.wrap64_in ((ar : Int) * (d6.half : Int)) (by rw [← Int.natCast_mul]; omega), IntWalk.wrap64_in _ (by rw [← Int.natCast_mul]; omega)]
            rw [Int.natCast_add, Int.natCast_mul])
          have HLT := Lib.hid hlt
          have HWK := Lib.hid (show wrap64 ((k : Int) + 1) = ((k + 1 : Nat) : Int) by have := HH.out; rw [IntWalk.wrap64_in _ (by omega)]; omega)
          obtain ⟨x, hx⟩ : ∃ x, x = sect d6.now (ar * d6.half + k) := ⟨_, rfl⟩
          have HX := Lib.hid hx
          have HSZ := Lib.hid (show x.size ≤ 100000 by
            have := HD6.out.fits.now _ (sect_mem (i := ar * d6.half + k) (l := d6.now) (by rw [D.now_length]; exact hat))
            have := HD6.out.fits.s2
            rw [hx]; omega)
          have HGD := Lib.hid (show good d6 ar ge k = (okB x && (genOf x == ge && seqOf x == k)) by unfold good; rw [hx])
          have HPY := Lib.hid (show recPay d6 ar k = payOf x by unfold recPay; rw [hx])
          clear hat hx hlt
          go_wp2_with fail
          (with_reducible refine (half_any bd bs bf d6 _ _ HDR.out).mono ?_); rintro _ w7 ⟨rfl, rfl⟩
          go_wp2_with fail
          refine Ord.wp_region_ord (fun w' => w'.cell? ⟨bw, 1, none⟩ = some (.int .i64 ar)) [([0, 1, 2, 3, 4, 5, 8], 6), ([7, 9], 10)] [11, 12, 13, 14, 15] (by kernel_rfl) (by kernel_rfl) k1 ?_
          refine Ord.wpOrd_seg [_, _, _, _, _, _, _] _ rfl rfl ?_
          simp only [List.getElem_toArray, List.getElem_cons_zero, List.getElem_cons_succ]
          repeat first | go_big_quiet_skip | (go_big_quiet_want; go_big_quiet_op; first | go_big_quiet_on | (apply Exists.intro; refine ⟨fun _ => ?_, ?_⟩; (focus (intros; first | rfl | (simp only [*]; rfl) | (simp [*]; rfl))); go_big_quiet_on))
          refine wpQuiet_nil ?_
          go_wp2_with fail
          (with_reducible refine (half_any bd bs bf d6 _ _ (HDR.out.same (Mod.refl [] _).drew)).mono ?_); rintro _ w8 ⟨rfl, rfl⟩
          go_wp2_with fail
          refine ⟨k1, ?_⟩
          refine Ord.wpOrd_seg [_, _] _ rfl rfl ?_
          simp only [List.getElem_toArray, List.getElem_cons_zero, List.getElem_cons_succ]
          repeat first | go_big_quiet_skip | (go_big_quiet_want; go_big_quiet_op; first | go_big_quiet_on | (apply Exists.intro; refine ⟨fun _ => ?_, ?_⟩; (focus (intros; first | rfl | (simp only [*]; rfl) | (simp [*]; rfl))); go_big_quiet_on))
          refine wpQuiet_nil ?_
          go_wp2_with fail
          rw [HPOS.out]
          (with_reducible refine (read_any bd bs bf d6 _ _ _ (HDR.out.same (Mod.refl [] _).drew) HAT.out).mono ?_); rintro _ w8 ⟨rfl, rfl⟩
          rw [← HX.out]
          go_wp2_with fail
          refine ⟨k1, ?_⟩
          refine Ord.wpOrd_last [_, _, _, _, _] rfl ?_
          simp only [List.getElem_toArray, List.getElem_cons_zero, List.getElem_cons_succ]
          repeat first | go_big_quiet_skip | (go_big_quiet_want; go_big_quiet_op; first | go_big_quiet_on | (apply Exists.intro; refine ⟨fun _ => ?_, ?_⟩; (focus (intros; first | rfl | (simp only [*]; rfl) | (simp [*]; rfl))); go_big_quiet_on))
          refine wpQuiet_nil ?_
          go_wp2_with fail
          (with_reducible refine (get_any x _ HSZ.out).mono ?_); rintro _ w8 ⟨rfl, hb8⟩
          have hm8 : Mod [] w7 w8 := ((Mod.refl [] w7).drew).then hb8
          have HMX := Lib.hid (HMR.out.trans hm8)
          have HLX := Lib.hid (HLR.out.mod hm8 (by simp))
          have HDX := Lib.hid (HDR.out.same hm8)
          have HOWNX := Lib.hid (own_mod HOWN.out hm8 (by simp))
          have k2 := HLX.out.cells5.2.2.1
          clear hb8 hm8 k1
          cases hok : okB x
          · have HEQ := Lib.hid (show recsOf d6 ar ge = col by rw [HREC.out, recsFrom_none _ _ _ _ _ (by rw [HGD.out, hok]; rfl), List.append_nil])
            simp only [genI, seqI, payB, hok]
            clear hok
            -- HEQ: recsOf d6 ar ge = col; HOWNX, HLX, HDX, HMX in the world at hand
            obtain ⟨sa, sc, hv⟩ := own_slice HOWNX.out
            obtain rfl := hv
            have kx := HLX.out.free 3
            have kc := HLX.out.cells5.2.2.2.1
            go_wp2
            go_ret3
            have hL : openL d = { area := ar, gen := ge, recs := col, broken := false } := by
              unfold openL
              rw [← HV.out.2.1, ← HV.out.2.2.1, ← HV.out.2.2.2.1, HEQ.out]
            have hbw1 : w1.heap.size ≤ bw := by have := HM3.out.size; rw [HBW.out]; exact this
            refine ⟨(HM6.out.trans (HMX.out.mono (by simp))).setNew (p := ⟨bw, 3, none⟩) hbw1 _, .inl ⟨HV.out.2.2.2.2, bw, _, rfl, hbw1, ?_, ?_, ?_⟩⟩
            · rw [hL]; exact HLX.out.set 3 (.int .i64 col.length)
            · rw [← HV.out.2.2.2.1]; exact HDX.out.mod ((Mod.refl [bw] _).setCell (p := ⟨bw, 3, none⟩) (by simp) _) (by simp)
            · rw [hL]
              refine (own_strs HOWNX.out (out := bw :: [bd, bs, bf] ++ av) ?_).mod ((Mod.refl [bw] _).setCell (p := ⟨bw, 3, none⟩) (by simp) _) (by simp)
              intro x hx
              have h1 := HL6.out.lt
              have h2 := HD6.out.lts
              simp only [List.cons_append, List.nil_append, List.mem_cons] at hx
              rcases hx with e | e | e | e | e
              · rw [e]; exact h1
              · rw [e]; exact h2.1
              · rw [e]; exact h2.2.1
              · rw [e]; exact h2.2.2
              · exact Nat.lt_of_lt_of_le (HAV.out x e) HM6.out.size
          · have HOK := Lib.hid hok
            simp only [genI, seqI, payB, hok]
            clear hok
            by_cases hge : genOf x = ge
            · by_cases hse : seqOf x = k
              · have hg1 : (((genOf x : Nat) : Int) != (ge : Int)) = false := by simp [hge]
                have hs1 : (((seqOf x : Nat) : Int) != (k : Int)) = false := by simp [hse]
                have HGOOD := Lib.hid (show good d6 ar ge k = true by rw [HGD.out, HOK.out, hge, hse]; simp)
                clear hge hse hlti
                have hm := Lib.hid (show col.length + 1 ≤ maxLen by have := HK.out; have := HH.out; unfold maxLen; omega)
                have HCL := Lib.hid (show (col.length + 1) * 16 ≤ 140737488355328 by have := HK.out; have := HH.out; omega)
                obtain ⟨i0, hinf, hz0, hz1, hz2⟩ := info_parts info_str
                have HI0 := Lib.hid (And.intro hinf (And.intro hz0 (And.intro hz1 hz2)))
                clear hinf hz0 hz1 hz2
                have HWS := Lib.hid HMX.out.size
                go_wp2_with (at_builtin; refine wpList_append_own _ rfl (.tmp 100) (.tmp 102) 31 rfl w6.heap.size 9 i0 (.string ⟨#[]⟩) 1 16 Try.underlying31 HI0.out.1 HI0.out.2.1 HI0.out.2.2.1 HI0.out.2.2.2 rfl (by decide) _ col.length (col.map Value.string) rfl (HOWNX.out.alloc _) ⟨w8.heap.size, 0, none⟩ 1 1 [.string (payOf x)] rfl rfl (one_new _ _ _) (by intro u hu; simp at hu; subst hu; rfl) hm.out HCL.out (by have := HWS.out; simp; omega) ?_)
                intro v' w9 hown2 hg9 _
                have HM9 := Lib.hid ((HMX.out.alloc (.cells #[.string (payOf x)] 9)).grown hg9 (own_block HOWNX.out))
                have HO9 := Lib.hid hown2
                clear hown2 hg9
                go_wp2
                go_roundw
                case rel =>
                  refine ⟨k + 1, col ++ [payOf x], by rw [HWK.out], by have := HK.out; simp; omega, HLT.out, ?_, ?_, HM9.out⟩
                  · rw [HREC.out, show d6.half - k = (d6.half - (k + 1)) + 1 by have := HLT.out; omega, recsFrom_good _ _ _ _ _ HGOOD.out, HPY.out]
                    simp
                  · have := HO9.out
                    simp only [List.length_append, List.length_singleton, List.map_append, List.map_cons, List.map_nil]
                    exact this
                case measure =>
                  show d6.half - (intOf (.int .i64 (wrap64 ((k : Int) + 1)))).toNat < d6.half - (intOf (.int .i64 (k : Int))).toNat
                  rw [HWK.out]
                  simp only [intOf, Int.toNat_natCast]
                  exact Nat.sub_lt_sub_left HLT.out (Nat.lt_succ_self k)
              · have HEQ := Lib.hid (show recsOf d6 ar ge = col by rw [HREC.out, recsFrom_none _ _ _ _ _ (by rw [HGD.out]; simp [hse]), List.append_nil])
                have hg1 : (((genOf x : Nat) : Int) != (ge : Int)) = false := by simp [hge]
                have hs1 : (((seqOf x : Nat) : Int) != (k : Int)) = true := by simp; omega
                clear hge hse
                -- HEQ: recsOf d6 ar ge = col; HOWNX, HLX, HDX, HMX in the world at hand
                obtain ⟨sa, sc, hv⟩ := own_slice HOWNX.out
                obtain rfl := hv
                have kx := HLX.out.free 3
                have kc := HLX.out.cells5.2.2.2.1
                go_wp2
                go_ret3
                have hL : openL d = { area := ar, gen := ge, recs := col, broken := false } := by
                  unfold openL
                  rw [← HV.out.2.1, ← HV.out.2.2.1, ← HV.out.2.2.2.1, HEQ.out]
                have hbw1 : w1.heap.size ≤ bw := by have := HM3.out.size; rw [HBW.out]; exact this
                refine ⟨(HM6.out.trans (HMX.out.mono (by simp))).setNew (p := ⟨bw, 3, none⟩) hbw1 _, .inl ⟨HV.out.2.2.2.2, bw, _, rfl, hbw1, ?_, ?_, ?_⟩⟩
                · rw [hL]; exact HLX.out.set 3 (.int .i64 col.length)
                · rw [← HV.out.2.2.2.1]; exact HDX.out.mod ((Mod.refl [bw] _).setCell (p := ⟨bw, 3, none⟩) (by simp) _) (by simp)
                · rw [hL]
                  refine (own_strs HOWNX.out (out := bw :: [bd, bs, bf] ++ av) ?_).mod ((Mod.refl [bw] _).setCell (p := ⟨bw, 3, none⟩) (by simp) _) (by simp)
                  intro x hx
                  have h1 := HL6.out.lt
                  have h2 := HD6.out.lts
                  simp only [List.cons_append, List.nil_append, List.mem_cons] at hx
                  rcases hx with e | e | e | e | e
                  · rw [e]; exact h1
                  · rw [e]; exact h2.1
                  · rw [e]; exact h2.2.1
                  · rw [e]; exact h2.2.2
                  · exact Nat.lt_of_lt_of_le (HAV.out x e) HM6.out.size
            · have HEQ := Lib.hid (show recsOf d6 ar ge = col by rw [HREC.out, recsFrom_none _ _ _ _ _ (by rw [HGD.out]; simp [hge]), List.append_nil])
              have hg1 : (((genOf x : Nat) : Int) != (ge : Int)) = true := by simp; omega
              clear hge
              -- HEQ: recsOf d6 ar ge = col; HOWNX, HLX, HDX, HMX in the world at hand
              obtain ⟨sa, sc, hv⟩ := own_slice HOWNX.out
              obtain rfl := hv
              have kx := HLX.out.free 3
              have kc := HLX.out.cells5.2.2.2.1
              go_wp2
              go_ret3
              have hL : openL d = { area := ar, gen := ge, recs := col, broken := false } := by
                unfold openL
                rw [← HV.out.2.1, ← HV.out.2.2.1, ← HV.out.2.2.2.1, HEQ.out]
              have hbw1 : w1.heap.size ≤ bw := by have := HM3.out.size; rw [HBW.out]; exact this
              refine ⟨(HM6.out.trans (HMX.out.mono (by simp))).setNew (p := ⟨bw, 3, none⟩) hbw1 _, .inl ⟨HV.out.2.2.2.2, bw, _, rfl, hbw1, ?_, ?_, ?_⟩⟩
              · rw [hL]; exact HLX.out.set 3 (.int .i64 col.length)
              · rw [← HV.out.2.2.2.1]; exact HDX.out.mod ((Mod.refl [bw] _).setCell (p := ⟨bw, 3, none⟩) (by simp) _) (by simp)
              · rw [hL]
                refine (own_strs HOWNX.out (out := bw :: [bd, bs, bf] ++ av) ?_).mod ((Mod.refl [bw] _).setCell (p := ⟨bw, 3, none⟩) (by simp) _) (by simp)
                intro x hx
                have h1 := HL6.out.lt
                have h2 := HD6.out.lts
                simp only [List.cons_append, List.nil_append, List.mem_cons] at hx
                rcases hx with e | e | e | e | e
                · rw [e]; exact h1
                · rw [e]; exact h2.1
                · rw [e]; exact h2.2.1
                · rw [e]; exact h2.2.2
                · exact Nat.lt_of_lt_of_le (HAV.out x e) HM6.out.size
        · have hlti : (d6.half : Int) ≤ (k : Int) := by omega
          have HEQ := Lib.hid (show recsOf d6 ar ge = col by rw [HREC.out, show d6.half - k = 0 by omega]; simp [recsFrom])
          clear hlt
          go_wp2_with fail
          (with_reducible refine (half_any bd bs bf d6 _ _ HDR.out).mono ?_); rintro _ w7 ⟨rfl, rfl⟩
          have HLX := HLR
          have HDX := HDR
          have HMX := HMR
          have HOWNX := HOWN
          -- HEQ: recsOf d6 ar ge = col; HOWNX, HLX, HDX, HMX in the world at hand
          obtain ⟨sa, sc, hv⟩ := own_slice HOWNX.out
          obtain rfl := hv
          have kx := HLX.out.free 3
          have kc := HLX.out.cells5.2.2.2.1
          go_wp2
          go_ret3
          have hL : openL d = { area := ar, gen := ge, recs := col, broken := false } := by
            unfold openL
            rw [← HV.out.2.1, ← HV.out.2.2.1, ← HV.out.2.2.2.1, HEQ.out]
          have hbw1 : w1.heap.size ≤ bw := by have := HM3.out.size; rw [HBW.out]; exact this
          refine ⟨(HM6.out.trans (HMX.out.mono (by simp))).setNew (p := ⟨bw, 3, none⟩) hbw1 _, .inl ⟨HV.out.2.2.2.2, bw, _, rfl, hbw1, ?_, ?_, ?_⟩⟩
          · rw [hL]; exact HLX.out.set 3 (.int .i64 col.length)
          · rw [← HV.out.2.2.2.1]; exact HDX.out.mod ((Mod.refl [bw] _).setCell (p := ⟨bw, 3, none⟩) (by simp) _) (by simp)
          · rw [hL]
            refine (own_strs HOWNX.out (out := bw :: [bd, bs, bf] ++ av) ?_).mod ((Mod.refl [bw] _).setCell (p := ⟨bw, 3, none⟩) (by simp) _) (by simp)
            intro x hx
            have h1 := HL6.out.lt
            have h2 := HD6.out.lts
            simp only [List.cons_append, List.nil_append, List.mem_cons] at hx
            rcases hx with e | e | e | e | e
            · rw [e]; exact h1
            · rw [e]; exact h2.1
            · rw [e]; exact h2.2.1
            · rw [e]; exact h2.2.2
            · exact Nat.lt_of_lt_of_le (HAV.out x e) HM6.out.size
    · have hle : (headN (opn1 d) 1 : Int) ≤ (headN (opn1 d) 0 : Int) := by omega
      have HA := Lib.hid (show areaN (opn1 d) = 0 by unfold areaN; rw [if_neg hlt])
      have HG := Lib.hid (show genN (opn1 d) = headN (opn1 d) 0 by unfold genN; rw [if_neg hlt])
      clear hlt
      by_cases hz0 : headN (opn1 d) 0 = 0
      · have HG2 := Lib.hid (show genN (opn1 d) = 0 by rw [HG.out, hz0])
        have hb5 := HB5.out
        rw [hz0] at k2 hb5 hle
        have HB5' := Lib.hid hb5
        have hgg : headN (opn1 d) 0 = 0 := hz0
        clear hz0 hb5
        have hl6 : Blk (w5.setCell ⟨bw, 2, none⟩ (.int .i64 1)) bw [ptr bd, .int .i64 0, .int .i64 1, .int .i64 0, .bool false] 66 := HB5'.out.set 2 (.int .i64 1)
        have hm6 : Mod [bd, bs, bf] w1 (w5.setCell ⟨bw, 2, none⟩ (.int .i64 1)) := HM5.out.setNew (p := ⟨bw, 2, none⟩) (by have := HM3.out.size; rw [HBW.out]; exact this) _
        have hd6 : DiskI (w5.setCell ⟨bw, 2, none⟩ (.int .i64 1)) bd bs bf (opn1 d) (bw :: av) := HD5.out.mod ((Mod.refl [bw] _).setCell (p := ⟨bw, 2, none⟩) (by simp) _) (by simp)
        have hav6 : ∀ x ∈ bw :: av, x < (w5.setCell ⟨bw, 2, none⟩ (.int .i64 1)).heap.size := by
          intro x hx
          rcases List.mem_cons.1 hx with e | e
          · rw [e]; exact hl6.lt
          · exact Nat.lt_of_lt_of_le (HAV.out x e) hm6.size
        have HL0 := Lib.hid hl6
        have HM0 := Lib.hid hm6
        have HD0 := Lib.hid hd6
        have HAV0 := Lib.hid hav6
        clear hl6 hm6 hd6 hav6 k0 k1 k3 k4
        rw [hgg]
        clear hgg
        go_wp2_with fail
        (with_reducible refine (lay_first bw bd bs bf (opn1 d) _ _ _ _ _ HD0.out HAV0.out HL0.out (List.mem_cons_self) HO1.out).mono ?_); rintro _ w6 ⟨rfl, hd6, hl6, hm6⟩
        have hmm : Mod [bd, bs, bf] w1 w6 := by
          refine ⟨hm6.os.trans HM0.out.os, hm6.tape.trans HM0.out.tape, hm6.output.trans HM0.out.output, Nat.le_trans HM0.out.size hm6.size, fun j hj hn => ?_⟩
          rw [hm6.block j (Nat.lt_of_lt_of_le hj HM0.out.size) (by have := HM3.out.size; have := HBW.out; simp at hn ⊢; omega)]
          exact HM0.out.block j hj hn
        have HMM := Lib.hid hmm
        have HD6 := Lib.hid hd6
        clear hm6 hmm hd6
        cases hok : layOk (opn1 d) 0 1 0 headS
        · have HE := Lib.hid (show layE (opn1 d) 0 1 0 headS = 2 by unfold layE; rw [hok]; rfl)
          have HOK := Lib.hid hok
          clear hok hl6
          rw [HE.out]
          go_wp2
          go_ret3
          refine ⟨HMM.out, .inr ⟨?_, rfl, ?_⟩⟩
          · unfold openOk; rw [HOPD.out, if_neg (by simp), if_pos HG2.out]; exact HOK.out
          · unfold openD; rw [HOPD.out, if_neg (by simp), if_pos HG2.out]
            exact HD6.out.avoid (fun x hx => .inl (List.mem_cons_of_mem _ hx))
        · have HE := Lib.hid (show layE (opn1 d) 0 1 0 headS = 0 by unfold layE; rw [hok]; rfl)
          have HOK := Lib.hid hok
          rw [hok] at hl6
          clear hok
          rw [HE.out]
          go_wp2_with fail
          obtain ⟨ar, har⟩ : ∃ ar : Nat, ar = 0 := ⟨_, rfl⟩
          obtain ⟨ge, hge⟩ : ∃ ge : Nat, ge = 1 := ⟨_, rfl⟩
          obtain ⟨d6, hd6e⟩ : ∃ d6, d6 = lay (opn1 d) 0 1 0 headS := ⟨_, rfl⟩
          have HL6 := Lib.hid (show Blk w6 bw [ptr bd, .int .i64 ar, .int .i64 ge, .int .i64 0, .bool false] 66 by rw [har, hge]; exact hl6)
          have hd6' := HD6.out
          rw [← hd6e] at hd6'
          have HM6 := HMM
          have HV := Lib.hid (show ar ≤ 1 ∧ ar = areaN (opn1 d) ∧ ge = openGen d ∧ d6 = openD d ∧ openOk d = true from ⟨by omega, by rw [har, HA.out], by rw [hge]; unfold openGen; rw [if_pos HG2.out], by rw [hd6e]; unfold openD; rw [HOPD.out, if_neg (by simp), if_pos HG2.out], by unfold openOk; rw [HOPD.out, if_neg (by simp), if_pos HG2.out]; exact HOK.out⟩)
          have HD6 := Lib.hid hd6'
          clear hl6 har hge hd6e hle kz k2 hd6'
          -- w6: HL6 : Blk w6 bw [.., ar, ge, 0, false], HD6 : DiskI w6 .. d6 (bw :: av), HM6 : Mod [bd, bs, bf] w1 w6, HV
          have hown0 : w6.ownsRow w6.heap.size 9 1 (.slice none 0 0) 0 [] := ⟨rfl, .inl ⟨rfl, rfl⟩⟩
          have HOWN0 := Lib.hid hown0
          clear hown0
          have HH := Lib.hid (half_two HD6.out.fits)
          go_loopw [7, 8] (fun v i wr => ∃ (k : Nat) (col : List ByteArray), i = .int .i64 k ∧ col.length + 1 = k ∧ k ≤ d6.half ∧ recsOf d6 ar ge = col ++ recsFrom d6 ar ge k (d6.half - k) ∧ wr.ownsRow w6.heap.size 9 1 v col.length (col.map Value.string) ∧ Mod [] w6 wr) (fun _ i _ => d6.half - (intOf i).toNat)
          case atStart => exact ⟨1, [], rfl, rfl, by have := HH.out; omega, rfl, HOWN0.out, Mod.refl _ _⟩
          case round =>
            obtain ⟨k, col, rfl, hk1, hk2, hrec, hown, hmr⟩ := hrel
            have HREC := Lib.hid hrec
            have HOWN := Lib.hid hown
            have HMR := Lib.hid hmr
            have HLR := Lib.hid (HL6.out.mod hmr (by simp))
            have HDR := Lib.hid (HD6.out.same hmr)
            have HK := Lib.hid (And.intro hk1 hk2)
            clear hrec hown hmr hk1 hk2
            by_cases hlt : k < d6.half
            · have hlti : (k : Int) < (d6.half : Int) := by omega
              have k1 := HLR.out.cells5.2.1
              have hat := at_lt (d := d6) (area := ar) (seq := k) HD6.out.fits HV.out.1 hlt
              have HAT := Lib.hid hat
              have HPOS := Lib.hid (show wrap64 (wrap64 ((ar : Int) * (d6.half : Int)) + (k : Int)) = ((ar * d6.half + k : Nat) : Int) by
                have := HD6.out.fits.n2
                rw [IntWalk.wrap64_in ((ar : Int) * (d6.half : Int)) (by rw [← Int.natCast_mul]; omega), IntWalk.wrap64_in _ (by rw [← Int.natCast_mul]; omega)]
                rw [Int.natCast_add, Int.natCast_mul])
              have HLT := Lib.hid hlt
              have HWK := Lib.hid (show wrap64 ((k : Int) + 1) = ((k + 1 : Nat) : Int) by have := HH.out; rw [IntWalk.wrap64_in _ (by omega)]; omega)
              obtain ⟨x, hx⟩ : ∃ x, x = sect d6.now (ar * d6.half + k) := ⟨_, rfl⟩
              have HX := Lib.hid hx
              have HSZ := Lib.hid (show x.size ≤ 100000 by
                have := HD6.out.fits.now _ (sect_mem (i := ar * d6.half + k) (l := d6.now) (by rw [D.now_length]; exact hat))
                have := HD6.out.fits.s2
                rw [hx]; omega)
              have HGD := Lib.hid (show good d6 ar ge k = (okB x && (genOf x == ge && seqOf x == k)) by unfold good; rw [hx])
              have HPY := Lib.hid (show recPay d6 ar k = payOf x by unfold recPay; rw [hx])
              clear hat hx hlt
              go_wp2_with fail
              (with_reducible refine (half_any bd bs bf d6 _ _ HDR.out).mono ?_); rintro _ w7 ⟨rfl, rfl⟩
              go_wp2_with fail
              refine Ord.wp_region_ord (fun w' => w'.cell? ⟨bw, 1, none⟩ = some (.int .i64 ar)) [([0, 1, 2, 3, 4, 5, 8], 6), ([7, 9], 10)] [11, 12, 13, 14, 15] (by kernel_rfl) (by kernel_rfl) k1 ?_
              refine Ord.wpOrd_seg [_, _, _, _, _, _, _] _ rfl rfl ?_
              simp only [List.getElem_toArray, List.getElem_cons_zero, List.getElem_cons_succ]
              repeat first | go_big_quiet_skip | (go_big_quiet_want; go_big_quiet_op; first | go_big_quiet_on | (apply Exists.intro; refine ⟨fun _ => ?_, ?_⟩; (focus (intros; first | rfl | (simp only [*]; rfl) | (simp [*]; rfl))); go_big_quiet_on))
              refine wpQuiet_nil ?_
              go_wp2_with fail
              (with_reducible refine (half_any bd bs bf d6 _ _ (HDR.out.same (Mod.refl [] _).drew)).mono ?_); rintro _ w8 ⟨rfl, rfl⟩
              go_wp2_with fail
              refine ⟨k1, ?_⟩
              refine Ord.wpOrd_seg [_, _] _ rfl rfl ?_
              simp only [List.getElem_toArray, List.getElem_cons_zero, List.getElem_cons_succ]
              repeat first | go_big_quiet_skip | (go_big_quiet_want; go_big_quiet_op; first | go_big_quiet_on | (apply Exists.intro; refine ⟨fun _ => ?_, ?_⟩; (focus (intros; first | rfl | (simp only [*]; rfl) | (simp [*]; rfl))); go_big_quiet_on))
              refine wpQuiet_nil ?_
              go_wp2_with fail
              rw [HPOS.out]
              (with_reducible refine (read_any bd bs bf d6 _ _ _ (HDR.out.same (Mod.refl [] _).drew) HAT.out).mono ?_); rintro _ w8 ⟨rfl, rfl⟩
              rw [← HX.out]
              go_wp2_with fail
              refine ⟨k1, ?_⟩
              refine Ord.wpOrd_last [_, _, _, _, _] rfl ?_
              simp only [List.getElem_toArray, List.getElem_cons_zero, List.getElem_cons_succ]
              repeat first | go_big_quiet_skip | (go_big_quiet_want; go_big_quiet_op; first | go_big_quiet_on | (apply Exists.intro; refine ⟨fun _ => ?_, ?_⟩; (focus (intros; first | rfl | (simp only [*]; rfl) | (simp [*]; rfl))); go_big_quiet_on))
              refine wpQuiet_nil ?_
              go_wp2_with fail
              (with_reducible refine (get_any x _ HSZ.out).mono ?_); rintro _ w8 ⟨rfl, hb8⟩
              have hm8 : Mod [] w7 w8 := ((Mod.refl [] w7).drew).then hb8
              have HMX := Lib.hid (HMR.out.trans hm8)
              have HLX := Lib.hid (HLR.out.mod hm8 (by simp))
              have HDX := Lib.hid (HDR.out.same hm8)
              have HOWNX := Lib.hid (own_mod HOWN.out hm8 (by simp))
              have k2 := HLX.out.cells5.2.2.1
              clear hb8 hm8 k1
              cases hok : okB x
              · have HEQ := Lib.hid (show recsOf d6 ar ge = col by rw [HREC.out, recsFrom_none _ _ _ _ _ (by rw [HGD.out, hok]; rfl), List.append_nil])
                simp only [genI, seqI, payB, hok]
                clear hok
                -- HEQ: recsOf d6 ar ge = col; HOWNX, HLX, HDX, HMX in the world at hand
                obtain ⟨sa, sc, hv⟩ := own_slice HOWNX.out
                obtain rfl := hv
                have kx := HLX.out.free 3
                have kc := HLX.out.cells5.2.2.2.1
                go_wp2
                go_ret3
                have hL : openL d = { area := ar, gen := ge, recs := col, broken := false } := by
                  unfold openL
                  rw [← HV.out.2.1, ← HV.out.2.2.1, ← HV.out.2.2.2.1, HEQ.out]
                have hbw1 : w1.heap.size ≤ bw := by have := HM3.out.size; rw [HBW.out]; exact this
                refine ⟨(HM6.out.trans (HMX.out.mono (by simp))).setNew (p := ⟨bw, 3, none⟩) hbw1 _, .inl ⟨HV.out.2.2.2.2, bw, _, rfl, hbw1, ?_, ?_, ?_⟩⟩
                · rw [hL]; exact HLX.out.set 3 (.int .i64 col.length)
                · rw [← HV.out.2.2.2.1]; exact HDX.out.mod ((Mod.refl [bw] _).setCell (p := ⟨bw, 3, none⟩) (by simp) _) (by simp)
                · rw [hL]
                  refine (own_strs HOWNX.out (out := bw :: [bd, bs, bf] ++ av) ?_).mod ((Mod.refl [bw] _).setCell (p := ⟨bw, 3, none⟩) (by simp) _) (by simp)
                  intro x hx
                  have h1 := HL6.out.lt
                  have h2 := HD6.out.lts
                  simp only [List.cons_append, List.nil_append, List.mem_cons] at hx
                  rcases hx with e | e | e | e | e
                  · rw [e]; exact h1
                  · rw [e]; exact h2.1
                  · rw [e]; exact h2.2.1
                  · rw [e]; exact h2.2.2
                  · exact Nat.lt_of_lt_of_le (HAV.out x e) HM6.out.size
              · have HOK := Lib.hid hok
                simp only [genI, seqI, payB, hok]
                clear hok
                by_cases hge : genOf x = ge
                · by_cases hse : seqOf x = k
                  · have hg1 : (((genOf x : Nat) : Int) != (ge : Int)) = false := by simp [hge]
                    have hs1 : (((seqOf x : Nat) : Int) != (k : Int)) = false := by simp [hse]
                    have HGOOD := Lib.hid (show good d6 ar ge k = true by rw [HGD.out, HOK.out, hge, hse]; simp)
                    clear hge hse hlti
                    have hm := Lib.hid (show col.length + 1 ≤ maxLen by have := HK.out; have := HH.out; unfold maxLen; omega)
                    have HCL := Lib.hid (show (col.length + 1) * 16 ≤ 140737488355328 by have := HK.out; have := HH.out; omega)
                    obtain ⟨i0, hinf, hz0, hz1, hz2⟩ := info_parts info_str
                    have HI0 := Lib.hid (And.intro hinf (And.intro hz0 (And.intro hz1 hz2)))
                    clear hinf hz0 hz1 hz2
                    have HWS := Lib.hid HMX.out.size
                    go_wp2_with (at_builtin; refine wpList_append_own _ rfl (.tmp 100) (.tmp 102) 31 rfl w6.heap.size 9 i0 (.string ⟨#[]⟩) 1 16 Try.underlying31 HI0.out.1 HI0.out.2.1 HI0.out.2.2.1 HI0.out.2.2.2 rfl (by decide) _ col.length (col.map Value.string) rfl (HOWNX.out.alloc _) ⟨w8.heap.size, 0, none⟩ 1 1 [.string (payOf x)] rfl rfl (one_new _ _ _) (by intro u hu; simp at hu; subst hu; rfl) hm.out HCL.out (by have := HWS.out; simp; omega) ?_)
                    intro v' w9 hown2 hg9 _
                    have HM9 := Lib.hid ((HMX.out.alloc (.cells #[.string (payOf x)] 9)).grown hg9 (own_block HOWNX.out))
                    have HO9 := Lib.hid hown2
                    clear hown2 hg9
                    go_wp2
                    go_roundw
                    case rel =>
                      refine ⟨k + 1, col ++ [payOf x], by rw [HWK.out], by have := HK.out; simp; omega, HLT.out, ?_, ?_, HM9.out⟩
                      · rw [HREC.out, show d6.half - k = (d6.half - (k + 1)) + 1 by have := HLT.out; omega, recsFrom_good _ _ _ _ _ HGOOD.out, HPY.out]
                        simp
                      · have := HO9.out
                        simp only [List.length_append, List.length_singleton, List.map_append, List.map_cons, List.map_nil]
                        exact this
                    case measure =>
                      show d6.half - (intOf (.int .i64 (wrap64 ((k : Int) + 1)))).toNat < d6.half - (intOf (.int .i64 (k : Int))).toNat
                      rw [HWK.out]
                      simp only [intOf, Int.toNat_natCast]
                      exact Nat.sub_lt_sub_left HLT.out (Nat.lt_succ_self k)
                  · have HEQ := Lib.hid (show recsOf d6 ar ge = col by rw [HREC.out, recsFrom_none _ _ _ _ _ (by rw [HGD.out]; simp [hse]), List.append_nil])
                    have hg1 : (((genOf x : Nat) : Int) != (ge : Int)) = false := by simp [hge]
                    have hs1 : (((seqOf x : Nat) : Int) != (k : Int)) = true := by simp; omega
                    clear hge hse
                    -- HEQ: recsOf d6 ar ge = col; HOWNX, HLX, HDX, HMX in the world at hand
                    obtain ⟨sa, sc, hv⟩ := own_slice HOWNX.out
                    obtain rfl := hv
                    have kx := HLX.out.free 3
                    have kc := HLX.out.cells5.2.2.2.1
                    go_wp2
                    go_ret3
                    have hL : openL d = { area := ar, gen := ge, recs := col, broken := false } := by
                      unfold openL
                      rw [← HV.out.2.1, ← HV.out.2.2.1, ← HV.out.2.2.2.1, HEQ.out]
                    have hbw1 : w1.heap.size ≤ bw := by have := HM3.out.size; rw [HBW.out]; exact this
                    refine ⟨(HM6.out.trans (HMX.out.mono (by simp))).setNew (p := ⟨bw, 3, none⟩) hbw1 _, .inl ⟨HV.out.2.2.2.2, bw, _, rfl, hbw1, ?_, ?_, ?_⟩⟩
                    · rw [hL]; exact HLX.out.set 3 (.int .i64 col.length)
                    · rw [← HV.out.2.2.2.1]; exact HDX.out.mod ((Mod.refl [bw] _).setCell (p := ⟨bw, 3, none⟩) (by simp) _) (by simp)
                    · rw [hL]
                      refine (own_strs HOWNX.out (out := bw :: [bd, bs, bf] ++ av) ?_).mod ((Mod.refl [bw] _).setCell (p := ⟨bw, 3, none⟩) (by simp) _) (by simp)
                      intro x hx
                      have h1 := HL6.out.lt
                      have h2 := HD6.out.lts
                      simp only [List.cons_append, List.nil_append, List.mem_cons] at hx
                      rcases hx with e | e | e | e | e
                      · rw [e]; exact h1
                      · rw [e]; exact h2.1
                      · rw [e]; exact h2.2.1
                      · rw [e]; exact h2.2.2
                      · exact Nat.lt_of_lt_of_le (HAV.out x e) HM6.out.size
                · have HEQ := Lib.hid (show recsOf d6 ar ge = col by rw [HREC.out, recsFrom_none _ _ _ _ _ (by rw [HGD.out]; simp [hge]), List.append_nil])
                  have hg1 : (((genOf x : Nat) : Int) != (ge : Int)) = true := by simp; omega
                  clear hge
                  -- HEQ: recsOf d6 ar ge = col; HOWNX, HLX, HDX, HMX in the world at hand
                  obtain ⟨sa, sc, hv⟩ := own_slice HOWNX.out
                  obtain rfl := hv
                  have kx := HLX.out.free 3
                  have kc := HLX.out.cells5.2.2.2.1
                  go_wp2
                  go_ret3
                  have hL : openL d = { area := ar, gen := ge, recs := col, broken := false } := by
                    unfold openL
                    rw [← HV.out.2.1, ← HV.out.2.2.1, ← HV.out.2.2.2.1, HEQ.out]
                  have hbw1 : w1.heap.size ≤ bw := by have := HM3.out.size; rw [HBW.out]; exact this
                  refine ⟨(HM6.out.trans (HMX.out.mono (by simp))).setNew (p := ⟨bw, 3, none⟩) hbw1 _, .inl ⟨HV.out.2.2.2.2, bw, _, rfl, hbw1, ?_, ?_, ?_⟩⟩
                  · rw [hL]; exact HLX.out.set 3 (.int .i64 col.length)
                  · rw [← HV.out.2.2.2.1]; exact HDX.out.mod ((Mod.refl [bw] _).setCell (p := ⟨bw, 3, none⟩) (by simp) _) (by simp)
                  · rw [hL]
                    refine (own_strs HOWNX.out (out := bw :: [bd, bs, bf] ++ av) ?_).mod ((Mod.refl [bw] _).setCell (p := ⟨bw, 3, none⟩) (by simp) _) (by simp)
                    intro x hx
                    have h1 := HL6.out.lt
                    have h2 := HD6.out.lts
                    simp only [List.cons_append, List.nil_append, List.mem_cons] at hx
                    rcases hx with e | e | e | e | e
                    · rw [e]; exact h1
                    · rw [e]; exact h2.1
                    · rw [e]; exact h2.2.1
                    · rw [e]; exact h2.2.2
                    · exact Nat.lt_of_lt_of_le (HAV.out x e) HM6.out.size
            · have hlti : (d6.half : Int) ≤ (k : Int) := by omega
              have HEQ := Lib.hid (show recsOf d6 ar ge = col by rw [HREC.out, show d6.half - k = 0 by omega]; simp [recsFrom])
              clear hlt
              go_wp2_with fail
              (with_reducible refine (half_any bd bs bf d6 _ _ HDR.out).mono ?_); rintro _ w7 ⟨rfl, rfl⟩
              have HLX := HLR
              have HDX := HDR
              have HMX := HMR
              have HOWNX := HOWN
              -- HEQ: recsOf d6 ar ge = col; HOWNX, HLX, HDX, HMX in the world at hand
              obtain ⟨sa, sc, hv⟩ := own_slice HOWNX.out
              obtain rfl := hv
              have kx := HLX.out.free 3
              have kc := HLX.out.cells5.2.2.2.1
              go_wp2
              go_ret3
              have hL : openL d = { area := ar, gen := ge, recs := col, broken := false } := by
                unfold openL
                rw [← HV.out.2.1, ← HV.out.2.2.1, ← HV.out.2.2.2.1, HEQ.out]
              have hbw1 : w1.heap.size ≤ bw := by have := HM3.out.size; rw [HBW.out]; exact this
              refine ⟨(HM6.out.trans (HMX.out.mono (by simp))).setNew (p := ⟨bw, 3, none⟩) hbw1 _, .inl ⟨HV.out.2.2.2.2, bw, _, rfl, hbw1, ?_, ?_, ?_⟩⟩
              · rw [hL]; exact HLX.out.set 3 (.int .i64 col.length)
              · rw [← HV.out.2.2.2.1]; exact HDX.out.mod ((Mod.refl [bw] _).setCell (p := ⟨bw, 3, none⟩) (by simp) _) (by simp)
              · rw [hL]
                refine (own_strs HOWNX.out (out := bw :: [bd, bs, bf] ++ av) ?_).mod ((Mod.refl [bw] _).setCell (p := ⟨bw, 3, none⟩) (by simp) _) (by simp)
                intro x hx
                have h1 := HL6.out.lt
                have h2 := HD6.out.lts
                simp only [List.cons_append, List.nil_append, List.mem_cons] at hx
                rcases hx with e | e | e | e | e
                · rw [e]; exact h1
                · rw [e]; exact h2.1
                · rw [e]; exact h2.2.1
                · rw [e]; exact h2.2.2
                · exact Nat.lt_of_lt_of_le (HAV.out x e) HM6.out.size
      · have HG2 := Lib.hid (show genN (opn1 d) ≠ 0 by rw [HG.out]; exact hz0)
        have hz : (((headN (opn1 d) 0 : Nat) : Int) == 0) = false := by simp; exact hz0
        have hled : decide (headN (opn1 d) 0 < headN (opn1 d) 1) = false := decide_eq_false (by omega)
        clear hz0 hle
        go_wp2_with fail
        obtain ⟨w6, hw6⟩ : ∃ w6, w6 = w5 := ⟨_, rfl⟩
        obtain ⟨ar, har⟩ : ∃ ar : Nat, ar = 0 := ⟨_, rfl⟩
        obtain ⟨ge, hge⟩ : ∃ ge : Nat, ge = headN (opn1 d) 0 := ⟨_, rfl⟩
        obtain ⟨d6, hd6e⟩ : ∃ d6, d6 = opn1 d := ⟨_, rfl⟩
        have HL6 := Lib.hid (show Blk w6 bw [ptr bd, .int .i64 ar, .int .i64 ge, .int .i64 0, .bool false] 66 by rw [har, hge, hw6]; exact HB5.out)
        have HD6 := Lib.hid (show DiskI w6 bd bs bf d6 (bw :: av) by rw [hd6e, hw6]; exact HD5.out)
        have HM6 := Lib.hid (show Mod [bd, bs, bf] w1 w6 by rw [hw6]; exact HM5.out)
        have HV := Lib.hid (show ar ≤ 1 ∧ ar = areaN (opn1 d) ∧ ge = openGen d ∧ d6 = openD d ∧ openOk d = true from ⟨by omega, by rw [har, HA.out], by rw [hge]; unfold openGen; rw [if_neg HG2.out, HG.out], by rw [hd6e]; unfold openD; rw [HOPD.out, if_neg (by simp), if_neg HG2.out], by unfold openOk; rw [HOPD.out, if_neg (by simp), if_neg HG2.out]⟩)
        rw [← hw6]
        clear hw6 har hge hd6e k0 k1 k2 k3 k4 kz hled hz
        -- w6: HL6 : Blk w6 bw [.., ar, ge, 0, false], HD6 : DiskI w6 .. d6 (bw :: av), HM6 : Mod [bd, bs, bf] w1 w6, HV
        have hown0 : w6.ownsRow w6.heap.size 9 1 (.slice none 0 0) 0 [] := ⟨rfl, .inl ⟨rfl, rfl⟩⟩
        have HOWN0 := Lib.hid hown0
        clear hown0
        have HH := Lib.hid (half_two HD6.out.fits)
        go_loopw [7, 8] (fun v i wr => ∃ (k : Nat) (col : List ByteArray), i = .int .i64 k ∧ col.length + 1 = k ∧ k ≤ d6.half ∧ recsOf d6 ar ge = col ++ recsFrom d6 ar ge k (d6.half - k) ∧ wr.ownsRow w6.heap.size 9 1 v col.length (col.map Value.string) ∧ Mod [] w6 wr) (fun _ i _ => d6.half - (intOf i).toNat)
        case atStart => exact ⟨1, [], rfl, rfl, by have := HH.out; omega, rfl, HOWN0.out, Mod.refl _ _⟩
        case round =>
          obtain ⟨k, col, rfl, hk1, hk2, hrec, hown, hmr⟩ := hrel
          have HREC := Lib.hid hrec
          have HOWN := Lib.hid hown
          have HMR := Lib.hid hmr
          have HLR := Lib.hid (HL6.out.mod hmr (by simp))
          have HDR := Lib.hid (HD6.out.same hmr)
          have HK := Lib.hid (And.intro hk1 hk2)
          clear hrec hown hmr hk1 hk2
          by_cases hlt : k < d6.half
          · have hlti : (k : Int) < (d6.half : Int) := by omega
            have k1 := HLR.out.cells5.2.1
            have hat := at_lt (d := d6) (area := ar) (seq := k) HD6.out.fits HV.out.1 hlt
            have HAT := Lib.hid hat
            have HPOS := Lib.hid (show wrap64 (wrap64 ((ar : Int) * (d6.half : Int)) + (k : Int)) = ((ar * d6.half + k : Nat) : Int) by
              have := HD6.out.fits.n2
              rw [IntWalk.wrap64_in ((ar : Int) * (d6.half : Int)) (by rw [← Int.natCast_mul]; omega), IntWalk.wrap64_in _ (by rw [← Int.natCast_mul]; omega)]
              rw [Int.natCast_add, Int.natCast_mul])
            have HLT := Lib.hid hlt
            have HWK := Lib.hid (show wrap64 ((k : Int) + 1) = ((k + 1 : Nat) : Int) by have := HH.out; rw [IntWalk.wrap64_in _ (by omega)]; omega)
            obtain ⟨x, hx⟩ : ∃ x, x = sect d6.now (ar * d6.half + k) := ⟨_, rfl⟩
            have HX := Lib.hid hx
            have HSZ := Lib.hid (show x.size ≤ 100000 by
              have := HD6.out.fits.now _ (sect_mem (i := ar * d6.half + k) (l := d6.now) (by rw [D.now_length]; exact hat))
              have := HD6.out.fits.s2
              rw [hx]; omega)
            have HGD := Lib.hid (show good d6 ar ge k = (okB x && (genOf x == ge && seqOf x == k)) by unfold good; rw [hx])
            have HPY := Lib.hid (show recPay d6 ar k = payOf x by unfold recPay; rw [hx])
            clear hat hx hlt
            go_wp2_with fail
            (with_reducible refine (half_any bd bs bf d6 _ _ HDR.out).mono ?_); rintro _ w7 ⟨rfl, rfl⟩
            go_wp2_with fail
            refine Ord.wp_region_ord (fun w' => w'.cell? ⟨bw, 1, none⟩ = some (.int .i64 ar)) [([0, 1, 2, 3, 4, 5, 8], 6), ([7, 9], 10)] [11, 12, 13, 14, 15] (by kernel_rfl) (by kernel_rfl) k1 ?_
            refine Ord.wpOrd_seg [_, _, _, _, _, _, _] _ rfl rfl ?_
            simp only [List.getElem_toArray, List.getElem_cons_zero, List.getElem_cons_succ]
            repeat first | go_big_quiet_skip | (go_big_quiet_want; go_big_quiet_op; first | go_big_quiet_on | (apply Exists.intro; refine ⟨fun _ => ?_, ?_⟩; (focus (intros; first | rfl | (simp only [*]; rfl) | (simp [*]; rfl))); go_big_quiet_on))
            refine wpQuiet_nil ?_
            go_wp2_with fail
            (with_reducible refine (half_any bd bs bf d6 _ _ (HDR.out.same (Mod.refl [] _).drew)).mono ?_); rintro _ w8 ⟨rfl, rfl⟩
            go_wp2_with fail
            refine ⟨k1, ?_⟩
            refine Ord.wpOrd_seg [_, _] _ rfl rfl ?_
            simp only [List.getElem_toArray, List.getElem_cons_zero, List.getElem_cons_succ]
            repeat first | go_big_quiet_skip | (go_big_quiet_want; go_big_quiet_op; first | go_big_quiet_on | (apply Exists.intro; refine ⟨fun _ => ?_, ?_⟩; (focus (intros; first | rfl | (simp only [*]; rfl) | (simp [*]; rfl))); go_big_quiet_on))
            refine wpQuiet_nil ?_
            go_wp2_with fail
            rw [HPOS.out]
            (with_reducible refine (read_any bd bs bf d6 _ _ _ (HDR.out.same (Mod.refl [] _).drew) HAT.out).mono ?_); rintro _ w8 ⟨rfl, rfl⟩
            rw [← HX.out]
            go_wp2_with fail
            refine ⟨k1, ?_⟩
            refine Ord.wpOrd_last [_, _, _, _, _] rfl ?_
            simp only [List.getElem_toArray, List.getElem_cons_zero, List.getElem_cons_succ]
            repeat first | go_big_quiet_skip | (go_big_quiet_want; go_big_quiet_op; first | go_big_quiet_on | (apply Exists.intro; refine ⟨fun _ => ?_, ?_⟩; (focus (intros; first | rfl | (simp only [*]; rfl) | (simp [*]; rfl))); go_big_quiet_on))
            refine wpQuiet_nil ?_
            go_wp2_with fail
            (with_reducible refine (get_any x _ HSZ.out).mono ?_); rintro _ w8 ⟨rfl, hb8⟩
            have hm8 : Mod [] w7 w8 := ((Mod.refl [] w7).drew).then hb8
            have HMX := Lib.hid (HMR.out.trans hm8)
            have HLX := Lib.hid (HLR.out.mod hm8 (by simp))
            have HDX := Lib.hid (HDR.out.same hm8)
            have HOWNX := Lib.hid (own_mod HOWN.out hm8 (by simp))
            have k2 := HLX.out.cells5.2.2.1
            clear hb8 hm8 k1
            cases hok : okB x
            · have HEQ := Lib.hid (show recsOf d6 ar ge = col by rw [HREC.out, recsFrom_none _ _ _ _ _ (by rw [HGD.out, hok]; rfl), List.append_nil])
              simp only [genI, seqI, payB, hok]
              clear hok
              -- HEQ: recsOf d6 ar ge = col; HOWNX, HLX, HDX, HMX in the world at hand
              obtain ⟨sa, sc, hv⟩ := own_slice HOWNX.out
              obtain rfl := hv
              have kx := HLX.out.free 3
              have kc := HLX.out.cells5.2.2.2.1
              go_wp2
              go_ret3
              have hL : openL d = { area := ar, gen := ge, recs := col, broken := false } := by
                unfold openL
                rw [← HV.out.2.1, ← HV.out.2.2.1, ← HV.out.2.2.2.1, HEQ.out]
              have hbw1 : w1.heap.size ≤ bw := by have := HM3.out.size; rw [HBW.out]; exact this
              refine ⟨(HM6.out.trans (HMX.out.mono (by simp))).setNew (p := ⟨bw, 3, none⟩) hbw1 _, .inl ⟨HV.out.2.2.2.2, bw, _, rfl, hbw1, ?_, ?_, ?_⟩⟩
              · rw [hL]; exact HLX.out.set 3 (.int .i64 col.length)
              · rw [← HV.out.2.2.2.1]; exact HDX.out.mod ((Mod.refl [bw] _).setCell (p := ⟨bw, 3, none⟩) (by simp) _) (by simp)
              · rw [hL]
                refine (own_strs HOWNX.out (out := bw :: [bd, bs, bf] ++ av) ?_).mod ((Mod.refl [bw] _).setCell (p := ⟨bw, 3, none⟩) (by simp) _) (by simp)
                intro x hx
                have h1 := HL6.out.lt
                have h2 := HD6.out.lts
                simp only [List.cons_append, List.nil_append, List.mem_cons] at hx
                rcases hx with e | e | e | e | e
                · rw [e]; exact h1
                · rw [e]; exact h2.1
                · rw [e]; exact h2.2.1
                · rw [e]; exact h2.2.2
                · exact Nat.lt_of_lt_of_le (HAV.out x e) HM6.out.size
            · have HOK := Lib.hid hok
              simp only [genI, seqI, payB, hok]
              clear hok
              by_cases hge : genOf x = ge
              · by_cases hse : seqOf x = k
                · have hg1 : (((genOf x : Nat) : Int) != (ge : Int)) = false := by simp [hge]
                  have hs1 : (((seqOf x : Nat) : Int) != (k : Int)) = false := by simp [hse]
                  have HGOOD := Lib.hid (show good d6 ar ge k = true by rw [HGD.out, HOK.out, hge, hse]; simp)
                  clear hge hse hlti
                  have hm := Lib.hid (show col.length + 1 ≤ maxLen by have := HK.out; have := HH.out; unfold maxLen; omega)
                  have HCL := Lib.hid (show (col.length + 1) * 16 ≤ 140737488355328 by have := HK.out; have := HH.out; omega)
                  obtain ⟨i0, hinf, hz0, hz1, hz2⟩ := info_parts info_str
                  have HI0 := Lib.hid (And.intro hinf (And.intro hz0 (And.intro hz1 hz2)))
                  clear hinf hz0 hz1 hz2
                  have HWS := Lib.hid HMX.out.size
                  go_wp2_with (at_builtin; refine wpList_append_own _ rfl (.tmp 100) (.tmp 102) 31 rfl w6.heap.size 9 i0 (.string ⟨#[]⟩) 1 16 Try.underlying31 HI0.out.1 HI0.out.2.1 HI0.out.2.2.1 HI0.out.2.2.2 rfl (by decide) _ col.length (col.map Value.string) rfl (HOWNX.out.alloc _) ⟨w8.heap.size, 0, none⟩ 1 1 [.string (payOf x)] rfl rfl (one_new _ _ _) (by intro u hu; simp at hu; subst hu; rfl) hm.out HCL.out (by have := HWS.out; simp; omega) ?_)
                  intro v' w9 hown2 hg9 _
                  have HM9 := Lib.hid ((HMX.out.alloc (.cells #[.string (payOf x)] 9)).grown hg9 (own_block HOWNX.out))
                  have HO9 := Lib.hid hown2
                  clear hown2 hg9
                  go_wp2
                  go_roundw
                  case rel =>
                    refine ⟨k + 1, col ++ [payOf x], by rw [HWK.out], by have := HK.out; simp; omega, HLT.out, ?_, ?_, HM9.out⟩
                    · rw [HREC.out, show d6.half - k = (d6.half - (k + 1)) + 1 by have := HLT.out; omega, recsFrom_good _ _ _ _ _ HGOOD.out, HPY.out]
                      simp
                    · have := HO9.out
                      simp only [List.length_append, List.length_singleton, List.map_append, List.map_cons, List.map_nil]
                      exact this
                  case measure =>
                    show d6.half - (intOf (.int .i64 (wrap64 ((k : Int) + 1)))).toNat < d6.half - (intOf (.int .i64 (k : Int))).toNat
                    rw [HWK.out]
                    simp only [intOf, Int.toNat_natCast]
                    exact Nat.sub_lt_sub_left HLT.out (Nat.lt_succ_self k)
                · have HEQ := Lib.hid (show recsOf d6 ar ge = col by rw [HREC.out, recsFrom_none _ _ _ _ _ (by rw [HGD.out]; simp [hse]), List.append_nil])
                  have hg1 : (((genOf x : Nat) : Int) != (ge : Int)) = false := by simp [hge]
                  have hs1 : (((seqOf x : Nat) : Int) != (k : Int)) = true := by simp; omega
                  clear hge hse
                  -- HEQ: recsOf d6 ar ge = col; HOWNX, HLX, HDX, HMX in the world at hand
                  obtain ⟨sa, sc, hv⟩ := own_slice HOWNX.out
                  obtain rfl := hv
                  have kx := HLX.out.free 3
                  have kc := HLX.out.cells5.2.2.2.1
                  go_wp2
                  go_ret3
                  have hL : openL d = { area := ar, gen := ge, recs := col, broken := false } := by
                    unfold openL
                    rw [← HV.out.2.1, ← HV.out.2.2.1, ← HV.out.2.2.2.1, HEQ.out]
                  have hbw1 : w1.heap.size ≤ bw := by have := HM3.out.size; rw [HBW.out]; exact this
                  refine ⟨(HM6.out.trans (HMX.out.mono (by simp))).setNew (p := ⟨bw, 3, none⟩) hbw1 _, .inl ⟨HV.out.2.2.2.2, bw, _, rfl, hbw1, ?_, ?_, ?_⟩⟩
                  · rw [hL]; exact HLX.out.set 3 (.int .i64 col.length)
                  · rw [← HV.out.2.2.2.1]; exact HDX.out.mod ((Mod.refl [bw] _).setCell (p := ⟨bw, 3, none⟩) (by simp) _) (by simp)
                  · rw [hL]
                    refine (own_strs HOWNX.out (out := bw :: [bd, bs, bf] ++ av) ?_).mod ((Mod.refl [bw] _).setCell (p := ⟨bw, 3, none⟩) (by simp) _) (by simp)
                    intro x hx
                    have h1 := HL6.out.lt
                    have h2 := HD6.out.lts
                    simp only [List.cons_append, List.nil_append, List.mem_cons] at hx
                    rcases hx with e | e | e | e | e
                    · rw [e]; exact h1
                    · rw [e]; exact h2.1
                    · rw [e]; exact h2.2.1
                    · rw [e]; exact h2.2.2
                    · exact Nat.lt_of_lt_of_le (HAV.out x e) HM6.out.size
              · have HEQ := Lib.hid (show recsOf d6 ar ge = col by rw [HREC.out, recsFrom_none _ _ _ _ _ (by rw [HGD.out]; simp [hge]), List.append_nil])
                have hg1 : (((genOf x : Nat) : Int) != (ge : Int)) = true := by simp; omega
                clear hge
                -- HEQ: recsOf d6 ar ge = col; HOWNX, HLX, HDX, HMX in the world at hand
                obtain ⟨sa, sc, hv⟩ := own_slice HOWNX.out
                obtain rfl := hv
                have kx := HLX.out.free 3
                have kc := HLX.out.cells5.2.2.2.1
                go_wp2
                go_ret3
                have hL : openL d = { area := ar, gen := ge, recs := col, broken := false } := by
                  unfold openL
                  rw [← HV.out.2.1, ← HV.out.2.2.1, ← HV.out.2.2.2.1, HEQ.out]
                have hbw1 : w1.heap.size ≤ bw := by have := HM3.out.size; rw [HBW.out]; exact this
                refine ⟨(HM6.out.trans (HMX.out.mono (by simp))).setNew (p := ⟨bw, 3, none⟩) hbw1 _, .inl ⟨HV.out.2.2.2.2, bw, _, rfl, hbw1, ?_, ?_, ?_⟩⟩
                · rw [hL]; exact HLX.out.set 3 (.int .i64 col.length)
                · rw [← HV.out.2.2.2.1]; exact HDX.out.mod ((Mod.refl [bw] _).setCell (p := ⟨bw, 3, none⟩) (by simp) _) (by simp)
                · rw [hL]
                  refine (own_strs HOWNX.out (out := bw :: [bd, bs, bf] ++ av) ?_).mod ((Mod.refl [bw] _).setCell (p := ⟨bw, 3, none⟩) (by simp) _) (by simp)
                  intro x hx
                  have h1 := HL6.out.lt
                  have h2 := HD6.out.lts
                  simp only [List.cons_append, List.nil_append, List.mem_cons] at hx
                  rcases hx with e | e | e | e | e
                  · rw [e]; exact h1
                  · rw [e]; exact h2.1
                  · rw [e]; exact h2.2.1
                  · rw [e]; exact h2.2.2
                  · exact Nat.lt_of_lt_of_le (HAV.out x e) HM6.out.size
          · have hlti : (d6.half : Int) ≤ (k : Int) := by omega
            have HEQ := Lib.hid (show recsOf d6 ar ge = col by rw [HREC.out, show d6.half - k = 0 by omega]; simp [recsFrom])
            clear hlt
            go_wp2_with fail
            (with_reducible refine (half_any bd bs bf d6 _ _ HDR.out).mono ?_); rintro _ w7 ⟨rfl, rfl⟩
            have HLX := HLR
            have HDX := HDR
            have HMX := HMR
            have HOWNX := HOWN
            -- HEQ: recsOf d6 ar ge = col; HOWNX, HLX, HDX, HMX in the world at hand
            obtain ⟨sa, sc, hv⟩ := own_slice HOWNX.out
            obtain rfl := hv
            have kx := HLX.out.free 3
            have kc := HLX.out.cells5.2.2.2.1
            go_wp2
            go_ret3
            have hL : openL d = { area := ar, gen := ge, recs := col, broken := false } := by
              unfold openL
              rw [← HV.out.2.1, ← HV.out.2.2.1, ← HV.out.2.2.2.1, HEQ.out]
            have hbw1 : w1.heap.size ≤ bw := by have := HM3.out.size; rw [HBW.out]; exact this
            refine ⟨(HM6.out.trans (HMX.out.mono (by simp))).setNew (p := ⟨bw, 3, none⟩) hbw1 _, .inl ⟨HV.out.2.2.2.2, bw, _, rfl, hbw1, ?_, ?_, ?_⟩⟩
            · rw [hL]; exact HLX.out.set 3 (.int .i64 col.length)
            · rw [← HV.out.2.2.2.1]; exact HDX.out.mod ((Mod.refl [bw] _).setCell (p := ⟨bw, 3, none⟩) (by simp) _) (by simp)
            · rw [hL]
              refine (own_strs HOWNX.out (out := bw :: [bd, bs, bf] ++ av) ?_).mod ((Mod.refl [bw] _).setCell (p := ⟨bw, 3, none⟩) (by simp) _) (by simp)
              intro x hx
              have h1 := HL6.out.lt
              have h2 := HD6.out.lts
              simp only [List.cons_append, List.nil_append, List.mem_cons] at hx
              rcases hx with e | e | e | e | e
              · rw [e]; exact h1
              · rw [e]; exact h2.1
              · rw [e]; exact h2.2.1
              · rw [e]; exact h2.2.2
              · exact Nat.lt_of_lt_of_le (HAV.out x e) HM6.out.size
  | some p =>
    have HN := Lib.hid (show opnN d = 1 by unfold opnN; rw [hop])
    have H1 := Lib.hid (show opn1 d = d.flush by unfold opn1; rw [hop]; rfl)
    cases hst : d.fuse.stop
    · have HOPD := Lib.hid (show (d.opn.isSome && d.fuse.stop) = false by rw [hst]; simp)
      clear hop
      go_enter Try.func12, Try.ntmps12
      go_wp2_with fail
      (with_reducible refine (dopen_any bd bs bf d av _ HD.out).mono ?_); rintro _ w1 ⟨rfl, rfl⟩
      rw [HN.out]
      go_wp2_with fail
      (with_reducible refine (flush_any bd bs bf d av _ HD.out).mono ?_); rintro _ w2 ⟨rfl, hd2, hm2⟩
      rw [hst]
      have HD1 := Lib.hid (show DiskI w2 bd bs bf (opn1 d) av by rw [H1.out]; exact hd2)
      have HM1 := Lib.hid hm2
      have HO1 := Lib.hid (show (opn1 d).opn = none by rw [H1.out]; exact flush_opn _ hst)
      clear hd2 hm2 hst
      -- w1: 'opn1 d' on the disk, nothing open (HD1, HM1, HO1)
      go_wp2_with fail
      (with_reducible refine (generation0 bd bs bf (opn1 d) av _ HD1.out).mono ?_); rintro _ w3 ⟨rfl, hm3⟩
      have HM3 := Lib.hid (HM1.out.trans (hm3.mono (S' := [bd, bs, bf]) (by simp)))
      have HD3 := Lib.hid (HD1.out.same hm3)
      clear hm3
      go_wp2_with fail
      obtain ⟨bw, hbw⟩ : ∃ bw, bw = w3.heap.size := ⟨_, rfl⟩
      rw [← hbw]
      have HBW := Lib.hid hbw
      clear hbw
      have ha2 := Blk.new w3 [ptr bd, .int .i64 0, .int .i64 (headN (opn1 d) 0), .int .i64 0, .bool false] 66
      rw [← HBW.out] at ha2
      have hd4 := (HD3.out.avoid (av' := bw :: av) (by intro x hx; rcases List.mem_cons.1 hx with e | e; exact .inr (by rw [e, HBW.out]; exact Nat.le_refl _); exact .inl e)).same ((Mod.refl [] w3).alloc (.cells #[ptr bd, .int .i64 0, .int .i64 (headN (opn1 d) 0), .int .i64 0, .bool false] 66))
      have hm4 := HM3.out.alloc (.cells #[ptr bd, .int .i64 0, .int .i64 (headN (opn1 d) 0), .int .i64 0, .bool false] 66)
      obtain ⟨w4, hw4⟩ : ∃ w4, w4 = w3.alloc (.cells #[ptr bd, .int .i64 0, .int .i64 (headN (opn1 d) 0), .int .i64 0, .bool false] 66) := ⟨_, rfl⟩
      have ha3 : Blk w4 bw [ptr bd, .int .i64 0, .int .i64 (headN (opn1 d) 0), .int .i64 0, .bool false] 66 := by rw [hw4]; exact ha2
      rw [← hw4] at hd4 hm4 ⊢
      clear hw4 ha2
      have HD4 := Lib.hid hd4
      (with_reducible refine (generation1 bd bs bf (opn1 d) _ _ HD4.out).mono ?_); rintro _ w5 ⟨rfl, hm5⟩
      have hb5 := ha3.mod hm5 (by simp)
      obtain ⟨k0, k1, k2, k3, k4, kz⟩ := hb5.cells5
      have HB5 := Lib.hid hb5
      have HD5 := Lib.hid (hd4.same hm5)
      have HM5 := Lib.hid (hm4.trans (hm5.mono (S' := [bd, bs, bf]) (by simp)))
      clear ha3 hd4 hm4 hm5 hb5 HD4
      by_cases hlt : headN (opn1 d) 0 < headN (opn1 d) 1
      · have HA := Lib.hid (show areaN (opn1 d) = 1 by unfold areaN; rw [if_pos hlt])
        have HG := Lib.hid (show genN (opn1 d) = headN (opn1 d) 1 by unfold genN; rw [if_pos hlt])
        have HG2 := Lib.hid (show genN (opn1 d) ≠ 0 by rw [HG.out]; omega)
        have hlt2 : (headN (opn1 d) 0 : Int) < (headN (opn1 d) 1 : Int) := by omega
        have hz : (((headN (opn1 d) 1 : Nat) : Int) == 0) = false := by simp; omega
        clear hlt
        go_wp2_with fail
        have hl6 : Blk ((w5.setCell ⟨bw, 1, none⟩ (.int .i64 1)).setCell ⟨bw, 2, none⟩ (.int .i64 (headN (opn1 d) 1))) bw [ptr bd, .int .i64 1, .int .i64 (headN (opn1 d) 1), .int .i64 0, .bool false] 66 := (HB5.out.set 1 (.int .i64 1)).set 2 (.int .i64 (headN (opn1 d) 1))
        have hm6 : Mod [bd, bs, bf] w1 ((w5.setCell ⟨bw, 1, none⟩ (.int .i64 1)).setCell ⟨bw, 2, none⟩ (.int .i64 (headN (opn1 d) 1))) := (HM5.out.setNew (p := ⟨bw, 1, none⟩) (by have := HM3.out.size; rw [HBW.out]; exact this) _).setNew (p := ⟨bw, 2, none⟩) (by have := HM3.out.size; rw [HBW.out]; exact this) _
        have hd6 : DiskI ((w5.setCell ⟨bw, 1, none⟩ (.int .i64 1)).setCell ⟨bw, 2, none⟩ (.int .i64 (headN (opn1 d) 1))) bd bs bf (opn1 d) (bw :: av) := HD5.out.mod (((Mod.refl [bw] _).setCell (p := ⟨bw, 1, none⟩) (by simp) _).setCell (p := ⟨bw, 2, none⟩) (by simp) _) (by simp)
        obtain ⟨w6, hw6⟩ : ∃ w6, w6 = (w5.setCell ⟨bw, 1, none⟩ (.int .i64 1)).setCell ⟨bw, 2, none⟩ (.int .i64 (headN (opn1 d) 1)) := ⟨_, rfl⟩
        rw [← hw6] at hl6 hm6 hd6 ⊢
        obtain ⟨ar, har⟩ : ∃ ar : Nat, ar = 1 := ⟨_, rfl⟩
        obtain ⟨ge, hge⟩ : ∃ ge : Nat, ge = headN (opn1 d) 1 := ⟨_, rfl⟩
        obtain ⟨d6, hd6e⟩ : ∃ d6, d6 = opn1 d := ⟨_, rfl⟩
        have HL6 := Lib.hid (show Blk w6 bw [ptr bd, .int .i64 ar, .int .i64 ge, .int .i64 0, .bool false] 66 by rw [har, hge]; exact hl6)
        have HD6 := Lib.hid (show DiskI w6 bd bs bf d6 (bw :: av) by rw [hd6e]; exact hd6)
        have HM6 := Lib.hid hm6
        have HV := Lib.hid (show ar ≤ 1 ∧ ar = areaN (opn1 d) ∧ ge = openGen d ∧ d6 = openD d ∧ openOk d = true from ⟨by omega, by rw [har, HA.out], by rw [hge]; unfold openGen; rw [if_neg HG2.out, HG.out], by rw [hd6e]; unfold openD; rw [HOPD.out, if_neg (by simp), if_neg HG2.out], by unfold openOk; rw [HOPD.out, if_neg (by simp), if_neg HG2.out]⟩)
        clear hl6 hm6 hd6 hw6 har hge hd6e k0 k1 k2 k3 k4 kz hlt2 hz
        -- w6: HL6 : Blk w6 bw [.., ar, ge, 0, false], HD6 : DiskI w6 .. d6 (bw :: av), HM6 : Mod [bd, bs, bf] w1 w6, HV
        have hown0 : w6.ownsRow w6.heap.size 9 1 (.slice none 0 0) 0 [] := ⟨rfl, .inl ⟨rfl, rfl⟩⟩
        have HOWN0 := Lib.hid hown0
        clear hown0
        have HH := Lib.hid (half_two HD6.out.fits)
        go_loopw [7, 8] (fun v i wr => ∃ (k : Nat) (col : List ByteArray), i = .int .i64 k ∧ col.length + 1 = k ∧ k ≤ d6.half ∧ recsOf d6 ar ge = col ++ recsFrom d6 ar ge k (d6.half - k) ∧ wr.ownsRow w6.heap.size 9 1 v col.length (col.map Value.string) ∧ Mod [] w6 wr) (fun _ i _ => d6.half - (intOf i).toNat)
        case atStart => exact ⟨1, [], rfl, rfl, by have := HH.out; omega, rfl, HOWN0.out, Mod.refl _ _⟩
        case round =>
          obtain ⟨k, col, rfl, hk1, hk2, hrec, hown, hmr⟩ := hrel
          have HREC := Lib.hid hrec
          have HOWN := Lib.hid hown
          have HMR := Lib.hid hmr
          have HLR := Lib.hid (HL6.out.mod hmr (by simp))
          have HDR := Lib.hid (HD6.out.same hmr)
          have HK := Lib.hid (And.intro hk1 hk2)
          clear hrec hown hmr hk1 hk2
          by_cases hlt : k < d6.half
          · have hlti : (k : Int) < (d6.half : Int) := by omega
            have k1 := HLR.out.cells5.2.1
            have hat := at_lt (d := d6) (area := ar) (seq := k) HD6.out.fits HV.out.1 hlt
            have HAT := Lib.hid hat
            have HPOS := Lib.hid (show wrap64 (wrap64 ((ar : Int) * (d6.half : Int)) + (k : Int)) = ((ar * d6.half + k : Nat) : Int) by
              have := HD6.out.fits.n2
              rw [IntWalk.wrap64_in ((ar : Int) * (d6.half : Int)) (by rw [← Int.natCast_mul]; omega), IntWalk.wrap64_in _ (by rw [← Int.natCast_mul]; omega)]
              rw [Int.natCast_add, Int.natCast_mul])
            have HLT := Lib.hid hlt
            have HWK := Lib.hid (show wrap64 ((k : Int) + 1) = ((k + 1 : Nat) : Int) by have := HH.out; rw [IntWalk.wrap64_in _ (by omega)]; omega)
            obtain ⟨x, hx⟩ : ∃ x, x = sect d6.now (ar * d6.half + k) := ⟨_, rfl⟩
            have HX := Lib.hid hx
            have HSZ := Lib.hid (show x.size ≤ 100000 by
              have := HD6.out.fits.now _ (sect_mem (i := ar * d6.half + k) (l := d6.now) (by rw [D.now_length]; exact hat))
              have := HD6.out.fits.s2
              rw [hx]; omega)
            have HGD := Lib.hid (show good d6 ar ge k = (okB x && (genOf x == ge && seqOf x == k)) by unfold good; rw [hx])
            have HPY := Lib.hid (show recPay d6 ar k = payOf x by unfold recPay; rw [hx])
            clear hat hx hlt
            go_wp2_with fail
            (with_reducible refine (half_any bd bs bf d6 _ _ HDR.out).mono ?_); rintro _ w7 ⟨rfl, rfl⟩
            go_wp2_with fail
            refine Ord.wp_region_ord (fun w' => w'.cell? ⟨bw, 1, none⟩ = some (.int .i64 ar)) [([0, 1, 2, 3, 4, 5, 8], 6), ([7, 9], 10)] [11, 12, 13, 14, 15] (by kernel_rfl) (by kernel_rfl) k1 ?_
            refine Ord.wpOrd_seg [_, _, _, _, _, _, _] _ rfl rfl ?_
            simp only [List.getElem_toArray, List.getElem_cons_zero, List.getElem_cons_succ]
            repeat first | go_big_quiet_skip | (go_big_quiet_want; go_big_quiet_op; first | go_big_quiet_on | (apply Exists.intro; refine ⟨fun _ => ?_, ?_⟩; (focus (intros; first | rfl | (simp only [*]; rfl) | (simp [*]; rfl))); go_big_quiet_on))
            refine wpQuiet_nil ?_
            go_wp2_with fail
            (with_reducible refine (half_any bd bs bf d6 _ _ (HDR.out.same (Mod.refl [] _).drew)).mono ?_); rintro _ w8 ⟨rfl, rfl⟩
            go_wp2_with fail
            refine ⟨k1, ?_⟩
            refine Ord.wpOrd_seg [_, _] _ rfl rfl ?_
            simp only [List.getElem_toArray, List.getElem_cons_zero, List.getElem_cons_succ]
            repeat first | go_big_quiet_skip | (go_big_quiet_want; go_big_quiet_op; first | go_big_quiet_on | (apply Exists.intro; refine ⟨fun _ => ?_, ?_⟩; (focus (intros; first | rfl | (simp only [*]; rfl) | (simp [*]; rfl))); go_big_quiet_on))
            refine wpQuiet_nil ?_
            go_wp2_with fail
            rw [HPOS.out]
            (with_reducible refine (read_any bd bs bf d6 _ _ _ (HDR.out.same (Mod.refl [] _).drew) HAT.out).mono ?_); rintro _ w8 ⟨rfl, rfl⟩
            rw [← HX.out]
            go_wp2_with fail
            refine ⟨k1, ?_⟩
            refine Ord.wpOrd_last [_, _, _, _, _] rfl ?_
            simp only [List.getElem_toArray, List.getElem_cons_zero, List.getElem_cons_succ]
            repeat first | go_big_quiet_skip | (go_big_quiet_want; go_big_quiet_op; first | go_big_quiet_on | (apply Exists.intro; refine ⟨fun _ => ?_, ?_⟩; (focus (intros; first | rfl | (simp only [*]; rfl) | (simp [*]; rfl))); go_big_quiet_on))
            refine wpQuiet_nil ?_
            go_wp2_with fail
            (with_reducible refine (get_any x _ HSZ.out).mono ?_); rintro _ w8 ⟨rfl, hb8⟩
            have hm8 : Mod [] w7 w8 := ((Mod.refl [] w7).drew).then hb8
            have HMX := Lib.hid (HMR.out.trans hm8)
            have HLX := Lib.hid (HLR.out.mod hm8 (by simp))
            have HDX := Lib.hid (HDR.out.same hm8)
            have HOWNX := Lib.hid (own_mod HOWN.out hm8 (by simp))
            have k2 := HLX.out.cells5.2.2.1
            clear hb8 hm8 k1
            cases hok : okB x
            · have HEQ := Lib.hid (show recsOf d6 ar ge = col by rw [HREC.out, recsFrom_none _ _ _ _ _ (by rw [HGD.out, hok]; rfl), List.append_nil])
              simp only [genI, seqI, payB, hok]
              clear hok
              -- HEQ: recsOf d6 ar ge = col; HOWNX, HLX, HDX, HMX in the world at hand
              obtain ⟨sa, sc, hv⟩ := own_slice HOWNX.out
              obtain rfl := hv
              have kx := HLX.out.free 3
              have kc := HLX.out.cells5.2.2.2.1
              go_wp2
              go_ret3
              have hL : openL d = { area := ar, gen := ge, recs := col, broken := false } := by
                unfold openL
                rw [← HV.out.2.1, ← HV.out.2.2.1, ← HV.out.2.2.2.1, HEQ.out]
              have hbw1 : w1.heap.size ≤ bw := by have := HM3.out.size; rw [HBW.out]; exact this
              refine ⟨(HM6.out.trans (HMX.out.mono (by simp))).setNew (p := ⟨bw, 3, none⟩) hbw1 _, .inl ⟨HV.out.2.2.2.2, bw, _, rfl, hbw1, ?_, ?_, ?_⟩⟩
              · rw [hL]; exact HLX.out.set 3 (.int .i64 col.length)
              · rw [← HV.out.2.2.2.1]; exact HDX.out.mod ((Mod.refl [bw] _).setCell (p := ⟨bw, 3, none⟩) (by simp) _) (by simp)
              · rw [hL]
                refine (own_strs HOWNX.out (out := bw :: [bd, bs, bf] ++ av) ?_).mod ((Mod.refl [bw] _).setCell (p := ⟨bw, 3, none⟩) (by simp) _) (by simp)
                intro x hx
                have h1 := HL6.out.lt
                have h2 := HD6.out.lts
                simp only [List.cons_append, List.nil_append, List.mem_cons] at hx
                rcases hx with e | e | e | e | e
                · rw [e]; exact h1
                · rw [e]; exact h2.1
                · rw [e]; exact h2.2.1
                · rw [e]; exact h2.2.2
                · exact Nat.lt_of_lt_of_le (HAV.out x e) HM6.out.size
            · have HOK := Lib.hid hok
              simp only [genI, seqI, payB, hok]
              clear hok
              by_cases hge : genOf x = ge
              · by_cases hse : seqOf x = k
                · have hg1 : (((genOf x : Nat) : Int) != (ge : Int)) = false := by simp [hge]
                  have hs1 : (((seqOf x : Nat) : Int) != (k : Int)) = false := by simp [hse]
                  have HGOOD := Lib.hid (show good d6 ar ge k = true by rw [HGD.out, HOK.out, hge, hse]; simp)
                  clear hge hse hlti
                  have hm := Lib.hid (show col.length + 1 ≤ maxLen by have := HK.out; have := HH.out; unfold maxLen; omega)
                  have HCL := Lib.hid (show (col.length + 1) * 16 ≤ 140737488355328 by have := HK.out; have := HH.out; omega)
                  obtain ⟨i0, hinf, hz0, hz1, hz2⟩ := info_parts info_str
                  have HI0 := Lib.hid (And.intro hinf (And.intro hz0 (And.intro hz1 hz2)))
                  clear hinf hz0 hz1 hz2
                  have HWS := Lib.hid HMX.out.size
                  go_wp2_with (at_builtin; refine wpList_append_own _ rfl (.tmp 100) (.tmp 102) 31 rfl w6.heap.size 9 i0 (.string ⟨#[]⟩) 1 16 Try.underlying31 HI0.out.1 HI0.out.2.1 HI0.out.2.2.1 HI0.out.2.2.2 rfl (by decide) _ col.length (col.map Value.string) rfl (HOWNX.out.alloc _) ⟨w8.heap.size, 0, none⟩ 1 1 [.string (payOf x)] rfl rfl (one_new _ _ _) (by intro u hu; simp at hu; subst hu; rfl) hm.out HCL.out (by have := HWS.out; simp; omega) ?_)
                  intro v' w9 hown2 hg9 _
                  have HM9 := Lib.hid ((HMX.out.alloc (.cells #[.string (payOf x)] 9)).grown hg9 (own_block HOWNX.out))
                  have HO9 := Lib.hid hown2
                  clear hown2 hg9
                  go_wp2
                  go_roundw
                  case rel =>
                    refine ⟨k + 1, col ++ [payOf x], by rw [HWK.out], by have := HK.out; simp; omega, HLT.out, ?_, ?_, HM9.out⟩
                    · rw [HREC.out, show d6.half - k = (d6.half - (k + 1)) + 1 by have := HLT.out; omega, recsFrom_good _ _ _ _ _ HGOOD.out, HPY.out]
                      simp
                    · have := HO9.out
                      simp only [List.length_append, List.length_singleton, List.map_append, List.map_cons, List.map_nil]
                      exact this
                  case measure =>
                    show d6.half - (intOf (.int .i64 (wrap64 ((k : Int) + 1)))).toNat < d6.half - (intOf (.int .i64 (k : Int))).toNat
                    rw [HWK.out]
                    simp only [intOf, Int.toNat_natCast]
                    exact Nat.sub_lt_sub_left HLT.out (Nat.lt_succ_self k)
                · have HEQ := Lib.hid (show recsOf d6 ar ge = col by rw [HREC.out, recsFrom_none _ _ _ _ _ (by rw [HGD.out]; simp [hse]), List.append_nil])
                  have hg1 : (((genOf x : Nat) : Int) != (ge : Int)) = false := by simp [hge]
                  have hs1 : (((seqOf x : Nat) : Int) != (k : Int)) = true := by simp; omega
                  clear hge hse
                  -- HEQ: recsOf d6 ar ge = col; HOWNX, HLX, HDX, HMX in the world at hand
                  obtain ⟨sa, sc, hv⟩ := own_slice HOWNX.out
                  obtain rfl := hv
                  have kx := HLX.out.free 3
                  have kc := HLX.out.cells5.2.2.2.1
                  go_wp2
                  go_ret3
                  have hL : openL d = { area := ar, gen := ge, recs := col, broken := false } := by
                    unfold openL
                    rw [← HV.out.2.1, ← HV.out.2.2.1, ← HV.out.2.2.2.1, HEQ.out]
                  have hbw1 : w1.heap.size ≤ bw := by have := HM3.out.size; rw [HBW.out]; exact this
                  refine ⟨(HM6.out.trans (HMX.out.mono (by simp))).setNew (p := ⟨bw, 3, none⟩) hbw1 _, .inl ⟨HV.out.2.2.2.2, bw, _, rfl, hbw1, ?_, ?_, ?_⟩⟩
                  · rw [hL]; exact HLX.out.set 3 (.int .i64 col.length)
                  · rw [← HV.out.2.2.2.1]; exact HDX.out.mod ((Mod.refl [bw] _).setCell (p := ⟨bw, 3, none⟩) (by simp) _) (by simp)
                  · rw [hL]
                    refine (own_strs HOWNX.out (out := bw :: [bd, bs, bf] ++ av) ?_).mod ((Mod.refl [bw] _).setCell (p := ⟨bw, 3, none⟩) (by simp) _) (by simp)
                    intro x hx
                    have h1 := HL6.out.lt
                    have h2 := HD6.out.lts
                    simp only [List.cons_append, List.nil_append, List.mem_cons] at hx
                    rcases hx with e | e | e | e | e
                    · rw [e]; exact h1
                    · rw [e]; exact h2.1
                    · rw [e]; exact h2.2.1
                    · rw [e]; exact h2.2.2
                    · exact Nat.lt_of_lt_of_le (HAV.out x e) HM6.out.size
              · have HEQ := Lib.hid (show recsOf d6 ar ge = col by rw [HREC.out, recsFrom_none _ _ _ _ _ (by rw [HGD.out]; simp [hge]), List.append_nil])
                have hg1 : (((genOf x : Nat) : Int) != (ge : Int)) = true := by simp; omega
                clear hge
                -- HEQ: recsOf d6 ar ge = col; HOWNX, HLX, HDX, HMX in the world at hand
                obtain ⟨sa, sc, hv⟩ := own_slice HOWNX.out
                obtain rfl := hv
                have kx := HLX.out.free 3
                have kc := HLX.out.cells5.2.2.2.1
                go_wp2
                go_ret3
                have hL : openL d = { area := ar, gen := ge, recs := col, broken := false } := by
                  unfold openL
                  rw [← HV.out.2.1, ← HV.out.2.2.1, ← HV.out.2.2.2.1, HEQ.out]
                have hbw1 : w1.heap.size ≤ bw := by have := HM3.out.size; rw [HBW.out]; exact this
                refine ⟨(HM6.out.trans (HMX.out.mono (by simp))).setNew (p := ⟨bw, 3, none⟩) hbw1 _, .inl ⟨HV.out.2.2.2.2, bw, _, rfl, hbw1, ?_, ?_, ?_⟩⟩
                · rw [hL]; exact HLX.out.set 3 (.int .i64 col.length)
                · rw [← HV.out.2.2.2.1]; exact HDX.out.mod ((Mod.refl [bw] _).setCell (p := ⟨bw, 3, none⟩) (by simp) _) (by simp)
                · rw [hL]
                  refine (own_strs HOWNX.out (out := bw :: [bd, bs, bf] ++ av) ?_).mod ((Mod.refl [bw] _).setCell (p := ⟨bw, 3, none⟩) (by simp) _) (by simp)
                  intro x hx
                  have h1 := HL6.out.lt
                  have h2 := HD6.out.lts
                  simp only [List.cons_append, List.nil_append, List.mem_cons] at hx
                  rcases hx with e | e | e | e | e
                  · rw [e]; exact h1
                  · rw [e]; exact h2.1
                  · rw [e]; exact h2.2.1
                  · rw [e]; exact h2.2.2
                  · exact Nat.lt_of_lt_of_le (HAV.out x e) HM6.out.size
          · have hlti : (d6.half : Int) ≤ (k : Int) := by omega
            have HEQ := Lib.hid (show recsOf d6 ar ge = col by rw [HREC.out, show d6.half - k = 0 by omega]; simp [recsFrom])
            clear hlt
            go_wp2_with fail
            (with_reducible refine (half_any bd bs bf d6 _ _ HDR.out).mono ?_); rintro _ w7 ⟨rfl, rfl⟩
            have HLX := HLR
            have HDX := HDR
            have HMX := HMR
            have HOWNX := HOWN
            -- HEQ: recsOf d6 ar ge = col; HOWNX, HLX, HDX, HMX in the world at hand
            obtain ⟨sa, sc, hv⟩ := own_slice HOWNX.out
            obtain rfl := hv
            have kx := HLX.out.free 3
            have kc := HLX.out.cells5.2.2.2.1
            go_wp2
            go_ret3
            have hL : openL d = { area := ar, gen := ge, recs := col, broken := false } := by
              unfold openL
              rw [← HV.out.2.1, ← HV.out.2.2.1, ← HV.out.2.2.2.1, HEQ.out]
            have hbw1 : w1.heap.size ≤ bw := by have := HM3.out.size; rw [HBW.out]; exact this
            refine ⟨(HM6.out.trans (HMX.out.mono (by simp))).setNew (p := ⟨bw, 3, none⟩) hbw1 _, .inl ⟨HV.out.2.2.2.2, bw, _, rfl, hbw1, ?_, ?_, ?_⟩⟩
            · rw [hL]; exact HLX.out.set 3 (.int .i64 col.length)
            · rw [← HV.out.2.2.2.1]; exact HDX.out.mod ((Mod.refl [bw] _).setCell (p := ⟨bw, 3, none⟩) (by simp) _) (by simp)
            · rw [hL]
              refine (own_strs HOWNX.out (out := bw :: [bd, bs, bf] ++ av) ?_).mod ((Mod.refl [bw] _).setCell (p := ⟨bw, 3, none⟩) (by simp) _) (by simp)
              intro x hx
              have h1 := HL6.out.lt
              have h2 := HD6.out.lts
              simp only [List.cons_append, List.nil_append, List.mem_cons] at hx
              rcases hx with e | e | e | e | e
              · rw [e]; exact h1
              · rw [e]; exact h2.1
              · rw [e]; exact h2.2.1
              · rw [e]; exact h2.2.2
              · exact Nat.lt_of_lt_of_le (HAV.out x e) HM6.out.size
      · have hle : (headN (opn1 d) 1 : Int) ≤ (headN (opn1 d) 0 : Int) := by omega
        have HA := Lib.hid (show areaN (opn1 d) = 0 by unfold areaN; rw [if_neg hlt])
        have HG := Lib.hid (show genN (opn1 d) = headN (opn1 d) 0 by unfold genN; rw [if_neg hlt])
        clear hlt
        by_cases hz0 : headN (opn1 d) 0 = 0
        · have HG2 := Lib.hid (show genN (opn1 d) = 0 by rw [HG.out, hz0])
          have hb5 := HB5.out
          rw [hz0] at k2 hb5 hle
          have HB5' := Lib.hid hb5
          have hgg : headN (opn1 d) 0 = 0 := hz0
          clear hz0 hb5
          have hl6 : Blk (w5.setCell ⟨bw, 2, none⟩ (.int .i64 1)) bw [ptr bd, .int .i64 0, .int .i64 1, .int .i64 0, .bool false] 66 := HB5'.out.set 2 (.int .i64 1)
          have hm6 : Mod [bd, bs, bf] w1 (w5.setCell ⟨bw, 2, none⟩ (.int .i64 1)) := HM5.out.setNew (p := ⟨bw, 2, none⟩) (by have := HM3.out.size; rw [HBW.out]; exact this) _
          have hd6 : DiskI (w5.setCell ⟨bw, 2, none⟩ (.int .i64 1)) bd bs bf (opn1 d) (bw :: av) := HD5.out.mod ((Mod.refl [bw] _).setCell (p := ⟨bw, 2, none⟩) (by simp) _) (by simp)
          have hav6 : ∀ x ∈ bw :: av, x < (w5.setCell ⟨bw, 2, none⟩ (.int .i64 1)).heap.size := by
            intro x hx
            rcases List.mem_cons.1 hx with e | e
            · rw [e]; exact hl6.lt
            · exact Nat.lt_of_lt_of_le (HAV.out x e) hm6.size
          have HL0 := Lib.hid hl6
          have HM0 := Lib.hid hm6
          have HD0 := Lib.hid hd6
          have HAV0 := Lib.hid hav6
          clear hl6 hm6 hd6 hav6 k0 k1 k3 k4
          rw [hgg]
          clear hgg
          go_wp2_with fail
          (with_reducible refine (lay_first bw bd bs bf (opn1 d) _ _ _ _ _ HD0.out HAV0.out HL0.out (List.mem_cons_self) HO1.out).mono ?_); rintro _ w6 ⟨rfl, hd6, hl6, hm6⟩
          have hmm : Mod [bd, bs, bf] w1 w6 := by
            refine ⟨hm6.os.trans HM0.out.os, hm6.tape.trans HM0.out.tape, hm6.output.trans HM0.out.output, Nat.le_trans HM0.out.size hm6.size, fun j hj hn => ?_⟩
            rw [hm6.block j (Nat.lt_of_lt_of_le hj HM0.out.size) (by have := HM3.out.size; have := HBW.out; simp at hn ⊢; omega)]
            exact HM0.out.block j hj hn
          have HMM := Lib.hid hmm
          have HD6 := Lib.hid hd6
          clear hm6 hmm hd6
          cases hok : layOk (opn1 d) 0 1 0 headS
          · have HE := Lib.hid (show layE (opn1 d) 0 1 0 headS = 2 by unfold layE; rw [hok]; rfl)
            have HOK := Lib.hid hok
            clear hok hl6
            rw [HE.out]
            go_wp2
            go_ret3
            refine ⟨HMM.out, .inr ⟨?_, rfl, ?_⟩⟩
            · unfold openOk; rw [HOPD.out, if_neg (by simp), if_pos HG2.out]; exact HOK.out
            · unfold openD; rw [HOPD.out, if_neg (by simp), if_pos HG2.out]
              exact HD6.out.avoid (fun x hx => .inl (List.mem_cons_of_mem _ hx))
          · have HE := Lib.hid (show layE (opn1 d) 0 1 0 headS = 0 by unfold layE; rw [hok]; rfl)
            have HOK := Lib.hid hok
            rw [hok] at hl6
            clear hok
            rw [HE.out]
            go_wp2_with fail
            obtain ⟨ar, har⟩ : ∃ ar : Nat, ar = 0 := ⟨_, rfl⟩
            obtain ⟨ge, hge⟩ : ∃ ge : Nat, ge = 1 := ⟨_, rfl⟩
            obtain ⟨d6, hd6e⟩ : ∃ d6, d6 = lay (opn1 d) 0 1 0 headS := ⟨_, rfl⟩
            have HL6 := Lib.hid (show Blk w6 bw [ptr bd, .int .i64 ar, .int .i64 ge, .int .i64 0, .bool false] 66 by rw [har, hge]; exact hl6)
            have hd6' := HD6.out
            rw [← hd6e] at hd6'
            have HM6 := HMM
            have HV := Lib.hid (show ar ≤ 1 ∧ ar = areaN (opn1 d) ∧ ge = openGen d ∧ d6 = openD d ∧ openOk d = true from ⟨by omega, by rw [har, HA.out], by rw [hge]; unfold openGen; rw [if_pos HG2.out], by rw [hd6e]; unfold openD; rw [HOPD.out, if_neg (by simp), if_pos HG2.out], by unfold openOk; rw [HOPD.out, if_neg (by simp), if_pos HG2.out]; exact HOK.out⟩)
            have HD6 := Lib.hid hd6'
            clear hl6 har hge hd6e hle kz k2 hd6'
            -- w6: HL6 : Blk w6 bw [.., ar, ge, 0, false], HD6 : DiskI w6 .. d6 (bw :: av), HM6 : Mod [bd, bs, bf] w1 w6, HV
            have hown0 : w6.ownsRow w6.heap.size 9 1 (.slice none 0 0) 0 [] := ⟨rfl, .inl ⟨rfl, rfl⟩⟩
            have HOWN0 := Lib.hid hown0
            clear hown0
            have HH := Lib.hid (half_two HD6.out.fits)
            go_loopw [7, 8] (fun v i wr => ∃ (k : Nat) (col : List ByteArray), i = .int .i64 k ∧ col.length + 1 = k ∧ k ≤ d6.half ∧ recsOf d6 ar ge = col ++ recsFrom d6 ar ge k (d6.half - k) ∧ wr.ownsRow w6.heap.size 9 1 v col.length (col.map Value.string) ∧ Mod [] w6 wr) (fun _ i _ => d6.half - (intOf i).toNat)
            case atStart => exact ⟨1, [], rfl, rfl, by have := HH.out; omega, rfl, HOWN0.out, Mod.refl _ _⟩
            case round =>
              obtain ⟨k, col, rfl, hk1, hk2, hrec, hown, hmr⟩ := hrel
              have HREC := Lib.hid hrec
              have HOWN := Lib.hid hown
              have HMR := Lib.hid hmr
              have HLR := Lib.hid (HL6.out.mod hmr (by simp))
              have HDR := Lib.hid (HD6.out.same hmr)
              have HK := Lib.hid (And.intro hk1 hk2)
              clear hrec hown hmr hk1 hk2
              by_cases hlt : k < d6.half
              · have hlti : (k : Int) < (d6.half : Int) := by omega
                have k1 := HLR.out.cells5.2.1
                have hat := at_lt (d := d6) (area := ar) (seq := k) HD6.out.fits HV.out.1 hlt
                have HAT := Lib.hid hat
                have HPOS := Lib.hid (show wrap64 (wrap64 ((ar : Int) * (d6.half : Int)) + (k : Int)) = ((ar * d6.half + k : Nat) : Int) by
                  have := HD6.out.fits.n2
                  rw [IntWalk.wrap64_in ((ar : Int) * (d6.half : Int)) (by rw [← Int.natCast_mul]; omega), IntWalk.wrap64_in _ (by rw [← Int.natCast_mul]; omega)]
                  rw [Int.natCast_add, Int.natCast_mul])
                have HLT := Lib.hid hlt
                have HWK := Lib.hid (show wrap64 ((k : Int) + 1) = ((k + 1 : Nat) : Int) by have := HH.out; rw [IntWalk.wrap64_in _ (by omega)]; omega)
                obtain ⟨x, hx⟩ : ∃ x, x = sect d6.now (ar * d6.half + k) := ⟨_, rfl⟩
                have HX := Lib.hid hx
                have HSZ := Lib.hid (show x.size ≤ 100000 by
                  have := HD6.out.fits.now _ (sect_mem (i := ar * d6.half + k) (l := d6.now) (by rw [D.now_length]; exact hat))
                  have := HD6.out.fits.s2
                  rw [hx]; omega)
                have HGD := Lib.hid (show good d6 ar ge k = (okB x && (genOf x == ge && seqOf x == k)) by unfold good; rw [hx])
                have HPY := Lib.hid (show recPay d6 ar k = payOf x by unfold recPay; rw [hx])
                clear hat hx hlt
                go_wp2_with fail
                (with_reducible refine (half_any bd bs bf d6 _ _ HDR.out).mono ?_); rintro _ w7 ⟨rfl, rfl⟩
                go_wp2_with fail
                refine Ord.wp_region_ord (fun w' => w'.cell? ⟨bw, 1, none⟩ = some (.int .i64 ar)) [([0, 1, 2, 3, 4, 5, 8], 6), ([7, 9], 10)] [11, 12, 13, 14, 15] (by kernel_rfl) (by kernel_rfl) k1 ?_
                refine Ord.wpOrd_seg [_, _, _, _, _, _, _] _ rfl rfl ?_
                simp only [List.getElem_toArray, List.getElem_cons_zero, List.getElem_cons_succ]
                repeat first | go_big_quiet_skip | (go_big_quiet_want; go_big_quiet_op; first | go_big_quiet_on | (apply Exists.intro; refine ⟨fun _ => ?_, ?_⟩; (focus (intros; first | rfl | (simp only [*]; rfl) | (simp [*]; rfl))); go_big_quiet_on))
                refine wpQuiet_nil ?_
                go_wp2_with fail
                (with_reducible refine (half_any bd bs bf d6 _ _ (HDR.out.same (Mod.refl [] _).drew)).mono ?_); rintro _ w8 ⟨rfl, rfl⟩
                go_wp2_with fail
                refine ⟨k1, ?_⟩
                refine Ord.wpOrd_seg [_, _] _ rfl rfl ?_
                simp only [List.getElem_toArray, List.getElem_cons_zero, List.getElem_cons_succ]
                repeat first | go_big_quiet_skip | (go_big_quiet_want; go_big_quiet_op; first | go_big_quiet_on | (apply Exists.intro; refine ⟨fun _ => ?_, ?_⟩; (focus (intros; first | rfl | (simp only [*]; rfl) | (simp [*]; rfl))); go_big_quiet_on))
                refine wpQuiet_nil ?_
                go_wp2_with fail
                rw [HPOS.out]
                (with_reducible refine (read_any bd bs bf d6 _ _ _ (HDR.out.same (Mod.refl [] _).drew) HAT.out).mono ?_); rintro _ w8 ⟨rfl, rfl⟩
                rw [← HX.out]
                go_wp2_with fail
                refine ⟨k1, ?_⟩
                refine Ord.wpOrd_last [_, _, _, _, _] rfl ?_
                simp only [List.getElem_toArray, List.getElem_cons_zero, List.getElem_cons_succ]
                repeat first | go_big_quiet_skip | (go_big_quiet_want; go_big_quiet_op; first | go_big_quiet_on | (apply Exists.intro; refine ⟨fun _ => ?_, ?_⟩; (focus (intros; first | rfl | (simp only [*]; rfl) | (simp [*]; rfl))); go_big_quiet_on))
                refine wpQuiet_nil ?_
                go_wp2_with fail
                (with_reducible refine (get_any x _ HSZ.out).mono ?_); rintro _ w8 ⟨rfl, hb8⟩
                have hm8 : Mod [] w7 w8 := ((Mod.refl [] w7).drew).then hb8
                have HMX := Lib.hid (HMR.out.trans hm8)
                have HLX := Lib.hid (HLR.out.mod hm8 (by simp))
                have HDX := Lib.hid (HDR.out.same hm8)
                have HOWNX := Lib.hid (own_mod HOWN.out hm8 (by simp))
                have k2 := HLX.out.cells5.2.2.1
                clear hb8 hm8 k1
                cases hok : okB x
                · have HEQ := Lib.hid (show recsOf d6 ar ge = col by rw [HREC.out, recsFrom_none _ _ _ _ _ (by rw [HGD.out, hok]; rfl), List.append_nil])
                  simp only [genI, seqI, payB, hok]
                  clear hok
                  -- HEQ: recsOf d6 ar ge = col; HOWNX, HLX, HDX, HMX in the world at hand
                  obtain ⟨sa, sc, hv⟩ := own_slice HOWNX.out
                  obtain rfl := hv
                  have kx := HLX.out.free 3
                  have kc := HLX.out.cells5.2.2.2.1
                  go_wp2
                  go_ret3
                  have hL : openL d = { area := ar, gen := ge, recs := col, broken := false } := by
                    unfold openL
                    rw [← HV.out.2.1, ← HV.out.2.2.1, ← HV.out.2.2.2.1, HEQ.out]
                  have hbw1 : w1.heap.size ≤ bw := by have := HM3.out.size; rw [HBW.out]; exact this
                  refine ⟨(HM6.out.trans (HMX.out.mono (by simp))).setNew (p := ⟨bw, 3, none⟩) hbw1 _, .inl ⟨HV.out.2.2.2.2, bw, _, rfl, hbw1, ?_, ?_, ?_⟩⟩
                  · rw [hL]; exact HLX.out.set 3 (.int .i64 col.length)
                  · rw [← HV.out.2.2.2.1]; exact HDX.out.mod ((Mod.refl [bw] _).setCell (p := ⟨bw, 3, none⟩) (by simp) _) (by simp)
                  · rw [hL]
                    refine (own_strs HOWNX.out (out := bw :: [bd, bs, bf] ++ av) ?_).mod ((Mod.refl [bw] _).setCell (p := ⟨bw, 3, none⟩) (by simp) _) (by simp)
                    intro x hx
                    have h1 := HL6.out.lt
                    have h2 := HD6.out.lts
                    simp only [List.cons_append, List.nil_append, List.mem_cons] at hx
                    rcases hx with e | e | e | e | e
                    · rw [e]; exact h1
                    · rw [e]; exact h2.1
                    · rw [e]; exact h2.2.1
                    · rw [e]; exact h2.2.2
                    · exact Nat.lt_of_lt_of_le (HAV.out x e) HM6.out.size
                · have HOK := Lib.hid hok
                  simp only [genI, seqI, payB, hok]
                  clear hok
                  by_cases hge : genOf x = ge
                  · by_cases hse : seqOf x = k
                    · have hg1 : (((genOf x : Nat) : Int) != (ge : Int)) = false := by simp [hge]
                      have hs1 : (((seqOf x : Nat) : Int) != (k : Int)) = false := by simp [hse]
                      have HGOOD := Lib.hid (show good d6 ar ge k = true by rw [HGD.out, HOK.out, hge, hse]; simp)
                      clear hge hse hlti
                      have hm := Lib.hid (show col.length + 1 ≤ maxLen by have := HK.out; have := HH.out; unfold maxLen; omega)
                      have HCL := Lib.hid (show (col.length + 1) * 16 ≤ 140737488355328 by have := HK.out; have := HH.out; omega)
                      obtain ⟨i0, hinf, hz0, hz1, hz2⟩ := info_parts info_str
                      have HI0 := Lib.hid (And.intro hinf (And.intro hz0 (And.intro hz1 hz2)))
                      clear hinf hz0 hz1 hz2
                      have HWS := Lib.hid HMX.out.size
                      go_wp2_with (at_builtin; refine wpList_append_own _ rfl (.tmp 100) (.tmp 102) 31 rfl w6.heap.size 9 i0 (.string ⟨#[]⟩) 1 16 Try.underlying31 HI0.out.1 HI0.out.2.1 HI0.out.2.2.1 HI0.out.2.2.2 rfl (by decide) _ col.length (col.map Value.string) rfl (HOWNX.out.alloc _) ⟨w8.heap.size, 0, none⟩ 1 1 [.string (payOf x)] rfl rfl (one_new _ _ _) (by intro u hu; simp at hu; subst hu; rfl) hm.out HCL.out (by have := HWS.out; simp; omega) ?_)
                      intro v' w9 hown2 hg9 _
                      have HM9 := Lib.hid ((HMX.out.alloc (.cells #[.string (payOf x)] 9)).grown hg9 (own_block HOWNX.out))
                      have HO9 := Lib.hid hown2
                      clear hown2 hg9
                      go_wp2
                      go_roundw
                      case rel =>
                        refine ⟨k + 1, col ++ [payOf x], by rw [HWK.out], by have := HK.out; simp; omega, HLT.out, ?_, ?_, HM9.out⟩
                        · rw [HREC.out, show d6.half - k = (d6.half - (k + 1)) + 1 by have := HLT.out; omega, recsFrom_good _ _ _ _ _ HGOOD.out, HPY.out]
                          simp
                        · have := HO9.out
                          simp only [List.length_append, List.length_singleton, List.map_append, List.map_cons, List.map_nil]
                          exact this
                      case measure =>
                        show d6.half - (intOf (.int .i64 (wrap64 ((k : Int) + 1)))).toNat < d6.half - (intOf (.int .i64 (k : Int))).toNat
                        rw [HWK.out]
                        simp only [intOf, Int.toNat_natCast]
                        exact Nat.sub_lt_sub_left HLT.out (Nat.lt_succ_self k)
                    · have HEQ := Lib.hid (show recsOf d6 ar ge = col by rw [HREC.out, recsFrom_none _ _ _ _ _ (by rw [HGD.out]; simp [hse]), List.append_nil])
                      have hg1 : (((genOf x : Nat) : Int) != (ge : Int)) = false := by simp [hge]
                      have hs1 : (((seqOf x : Nat) : Int) != (k : Int)) = true := by simp; omega
                      clear hge hse
                      -- HEQ: recsOf d6 ar ge = col; HOWNX, HLX, HDX, HMX in the world at hand
                      obtain ⟨sa, sc, hv⟩ := own_slice HOWNX.out
                      obtain rfl := hv
                      have kx := HLX.out.free 3
                      have kc := HLX.out.cells5.2.2.2.1
                      go_wp2
                      go_ret3
                      have hL : openL d = { area := ar, gen := ge, recs := col, broken := false } := by
                        unfold openL
                        rw [← HV.out.2.1, ← HV.out.2.2.1, ← HV.out.2.2.2.1, HEQ.out]
                      have hbw1 : w1.heap.size ≤ bw := by have := HM3.out.size; rw [HBW.out]; exact this
                      refine ⟨(HM6.out.trans (HMX.out.mono (by simp))).setNew (p := ⟨bw, 3, none⟩) hbw1 _, .inl ⟨HV.out.2.2.2.2, bw, _, rfl, hbw1, ?_, ?_, ?_⟩⟩
                      · rw [hL]; exact HLX.out.set 3 (.int .i64 col.length)
                      · rw [← HV.out.2.2.2.1]; exact HDX.out.mod ((Mod.refl [bw] _).setCell (p := ⟨bw, 3, none⟩) (by simp) _) (by simp)
                      · rw [hL]
                        refine (own_strs HOWNX.out (out := bw :: [bd, bs, bf] ++ av) ?_).mod ((Mod.refl [bw] _).setCell (p := ⟨bw, 3, none⟩) (by simp) _) (by simp)
                        intro x hx
                        have h1 := HL6.out.lt
                        have h2 := HD6.out.lts
                        simp only [List.cons_append, List.nil_append, List.mem_cons] at hx
                        rcases hx with e | e | e | e | e
                        · rw [e]; exact h1
                        · rw [e]; exact h2.1
                        · rw [e]; exact h2.2.1
                        · rw [e]; exact h2.2.2
                        · exact Nat.lt_of_lt_of_le (HAV.out x e) HM6.out.size
                  · have HEQ := Lib.hid (show recsOf d6 ar ge = col by rw [HREC.out, recsFrom_none _ _ _ _ _ (by rw [HGD.out]; simp [hge]), List.append_nil])
                    have hg1 : (((genOf x : Nat) : Int) != (ge : Int)) = true := by simp; omega
                    clear hge
                    -- HEQ: recsOf d6 ar ge = col; HOWNX, HLX, HDX, HMX in the world at hand
                    obtain ⟨sa, sc, hv⟩ := own_slice HOWNX.out
                    obtain rfl := hv
                    have kx := HLX.out.free 3
                    have kc := HLX.out.cells5.2.2.2.1
                    go_wp2
                    go_ret3
                    have hL : openL d = { area := ar, gen := ge, recs := col, broken := false } := by
                      unfold openL
                      rw [← HV.out.2.1, ← HV.out.2.2.1, ← HV.out.2.2.2.1, HEQ.out]
                    have hbw1 : w1.heap.size ≤ bw := by have := HM3.out.size; rw [HBW.out]; exact this
                    refine ⟨(HM6.out.trans (HMX.out.mono (by simp))).setNew (p := ⟨bw, 3, none⟩) hbw1 _, .inl ⟨HV.out.2.2.2.2, bw, _, rfl, hbw1, ?_, ?_, ?_⟩⟩
                    · rw [hL]; exact HLX.out.set 3 (.int .i64 col.length)
                    · rw [← HV.out.2.2.2.1]; exact HDX.out.mod ((Mod.refl [bw] _).setCell (p := ⟨bw, 3, none⟩) (by simp) _) (by simp)
                    · rw [hL]
                      refine (own_strs HOWNX.out (out := bw :: [bd, bs, bf] ++ av) ?_).mod ((Mod.refl [bw] _).setCell (p := ⟨bw, 3, none⟩) (by simp) _) (by simp)
                      intro x hx
                      have h1 := HL6.out.lt
                      have h2 := HD6.out.lts
                      simp only [List.cons_append, List.nil_append, List.mem_cons] at hx
                      rcases hx with e | e | e | e | e
                      · rw [e]; exact h1
                      · rw [e]; exact h2.1
                      · rw [e]; exact h2.2.1
                      · rw [e]; exact h2.2.2
                      · exact Nat.lt_of_lt_of_le (HAV.out x e) HM6.out.size
              · have hlti : (d6.half : Int) ≤ (k : Int) := by omega
                have HEQ := Lib.hid (show recsOf d6 ar ge = col by rw [HREC.out, show d6.half - k = 0 by omega]; simp [recsFrom])
                clear hlt
                go_wp2_with fail
                (with_reducible refine (half_any bd bs bf d6 _ _ HDR.out).mono ?_); rintro _ w7 ⟨rfl, rfl⟩
                have HLX := HLR
                have HDX := HDR
                have HMX := HMR
                have HOWNX := HOWN
                -- HEQ: recsOf d6 ar ge = col; HOWNX, HLX, HDX, HMX in the world at hand
                obtain ⟨sa, sc, hv⟩ := own_slice HOWNX.out
                obtain rfl := hv
                have kx := HLX.out.free 3
                have kc := HLX.out.cells5.2.2.2.1
                go_wp2
                go_ret3
                have hL : openL d = { area := ar, gen := ge, recs := col, broken := false } := by
                  unfold openL
                  rw [← HV.out.2.1, ← HV.out.2.2.1, ← HV.out.2.2.2.1, HEQ.out]
                have hbw1 : w1.heap.size ≤ bw := by have := HM3.out.size; rw [HBW.out]; exact this
                refine ⟨(HM6.out.trans (HMX.out.mono (by simp))).setNew (p := ⟨bw, 3, none⟩) hbw1 _, .inl ⟨HV.out.2.2.2.2, bw, _, rfl, hbw1, ?_, ?_, ?_⟩⟩
                · rw [hL]; exact HLX.out.set 3 (.int .i64 col.length)
                · rw [← HV.out.2.2.2.1]; exact HDX.out.mod ((Mod.refl [bw] _).setCell (p := ⟨bw, 3, none⟩) (by simp) _) (by simp)
                · rw [hL]
                  refine (own_strs HOWNX.out (out := bw :: [bd, bs, bf] ++ av) ?_).mod ((Mod.refl [bw] _).setCell (p := ⟨bw, 3, none⟩) (by simp) _) (by simp)
                  intro x hx
                  have h1 := HL6.out.lt
                  have h2 := HD6.out.lts
                  simp only [List.cons_append, List.nil_append, List.mem_cons] at hx
                  rcases hx with e | e | e | e | e
                  · rw [e]; exact h1
                  · rw [e]; exact h2.1
                  · rw [e]; exact h2.2.1
                  · rw [e]; exact h2.2.2
                  · exact Nat.lt_of_lt_of_le (HAV.out x e) HM6.out.size
        · have HG2 := Lib.hid (show genN (opn1 d) ≠ 0 by rw [HG.out]; exact hz0)
          have hz : (((headN (opn1 d) 0 : Nat) : Int) == 0) = false := by simp; exact hz0
          have hled : decide (headN (opn1 d) 0 < headN (opn1 d) 1) = false := decide_eq_false (by omega)
          clear hz0 hle
          go_wp2_with fail
          obtain ⟨w6, hw6⟩ : ∃ w6, w6 = w5 := ⟨_, rfl⟩
          obtain ⟨ar, har⟩ : ∃ ar : Nat, ar = 0 := ⟨_, rfl⟩
          obtain ⟨ge, hge⟩ : ∃ ge : Nat, ge = headN (opn1 d) 0 := ⟨_, rfl⟩
          obtain ⟨d6, hd6e⟩ : ∃ d6, d6 = opn1 d := ⟨_, rfl⟩
          have HL6 := Lib.hid (show Blk w6 bw [ptr bd, .int .i64 ar, .int .i64 ge, .int .i64 0, .bool false] 66 by rw [har, hge, hw6]; exact HB5.out)
          have HD6 := Lib.hid (show DiskI w6 bd bs bf d6 (bw :: av) by rw [hd6e, hw6]; exact HD5.out)
          have HM6 := Lib.hid (show Mod [bd, bs, bf] w1 w6 by rw [hw6]; exact HM5.out)
          have HV := Lib.hid (show ar ≤ 1 ∧ ar = areaN (opn1 d) ∧ ge = openGen d ∧ d6 = openD d ∧ openOk d = true from ⟨by omega, by rw [har, HA.out], by rw [hge]; unfold openGen; rw [if_neg HG2.out, HG.out], by rw [hd6e]; unfold openD; rw [HOPD.out, if_neg (by simp), if_neg HG2.out], by unfold openOk; rw [HOPD.out, if_neg (by simp), if_neg HG2.out]⟩)
          rw [← hw6]
          clear hw6 har hge hd6e k0 k1 k2 k3 k4 kz hled hz
          -- w6: HL6 : Blk w6 bw [.., ar, ge, 0, false], HD6 : DiskI w6 .. d6 (bw :: av), HM6 : Mod [bd, bs, bf] w1 w6, HV
          have hown0 : w6.ownsRow w6.heap.size 9 1 (.slice none 0 0) 0 [] := ⟨rfl, .inl ⟨rfl, rfl⟩⟩
          have HOWN0 := Lib.hid hown0
          clear hown0
          have HH := Lib.hid (half_two HD6.out.fits)
          go_loopw [7, 8] (fun v i wr => ∃ (k : Nat) (col : List ByteArray), i = .int .i64 k ∧ col.length + 1 = k ∧ k ≤ d6.half ∧ recsOf d6 ar ge = col ++ recsFrom d6 ar ge k (d6.half - k) ∧ wr.ownsRow w6.heap.size 9 1 v col.length (col.map Value.string) ∧ Mod [] w6 wr) (fun _ i _ => d6.half - (intOf i).toNat)
          case atStart => exact ⟨1, [], rfl, rfl, by have := HH.out; omega, rfl, HOWN0.out, Mod.refl _ _⟩
          case round =>
            obtain ⟨k, col, rfl, hk1, hk2, hrec, hown, hmr⟩ := hrel
            have HREC := Lib.hid hrec
            have HOWN := Lib.hid hown
            have HMR := Lib.hid hmr
            have HLR := Lib.hid (HL6.out.mod hmr (by simp))
            have HDR := Lib.hid (HD6.out.same hmr)
            have HK := Lib.hid (And.intro hk1 hk2)
            clear hrec hown hmr hk1 hk2
            by_cases hlt : k < d6.half
            · have hlti : (k : Int) < (d6.half : Int) := by omega
              have k1 := HLR.out.cells5.2.1
              have hat := at_lt (d := d6) (area := ar) (seq := k) HD6.out.fits HV.out.1 hlt
              have HAT := Lib.hid hat
              have HPOS := Lib.hid (show wrap64 (wrap64 ((ar : Int) * (d6.half : Int)) + (k : Int)) = ((ar * d6.half + k : Nat) : Int) by
                have := HD6.out.fits.n2
                rw [IntWalk.wrap64_in ((ar : Int) * (d6.half : Int)) (by rw [← Int.natCast_mul]; omega), IntWalk.wrap64_in _ (by rw [← Int.natCast_mul]; omega)]
                rw [Int.natCast_add, Int.natCast_mul])
              have HLT := Lib.hid hlt
              have HWK := Lib.hid (show wrap64 ((k : Int) + 1) = ((k + 1 : Nat) : Int) by have := HH.out; rw [IntWalk.wrap64_in _ (by omega)]; omega)
              obtain ⟨x, hx⟩ : ∃ x, x = sect d6.now (ar * d6.half + k) := ⟨_, rfl⟩
              have HX := Lib.hid hx
              have HSZ := Lib.hid (show x.size ≤ 100000 by
                have := HD6.out.fits.now _ (sect_mem (i := ar * d6.half + k) (l := d6.now) (by rw [D.now_length]; exact hat))
                have := HD6.out.fits.s2
                rw [hx]; omega)
              have HGD := Lib.hid (show good d6 ar ge k = (okB x && (genOf x == ge && seqOf x == k)) by unfold good; rw [hx])
              have HPY := Lib.hid (show recPay d6 ar k = payOf x by unfold recPay; rw [hx])
              clear hat hx hlt
              go_wp2_with fail
              (with_reducible refine (half_any bd bs bf d6 _ _ HDR.out).mono ?_); rintro _ w7 ⟨rfl, rfl⟩
              go_wp2_with fail
              refine Ord.wp_region_ord (fun w' => w'.cell? ⟨bw, 1, none⟩ = some (.int .i64 ar)) [([0, 1, 2, 3, 4, 5, 8], 6), ([7, 9], 10)] [11, 12, 13, 14, 15] (by kernel_rfl) (by kernel_rfl) k1 ?_
              refine Ord.wpOrd_seg [_, _, _, _, _, _, _] _ rfl rfl ?_
              simp only [List.getElem_toArray, List.getElem_cons_zero, List.getElem_cons_succ]
              repeat first | go_big_quiet_skip | (go_big_quiet_want; go_big_quiet_op; first | go_big_quiet_on | (apply Exists.intro; refine ⟨fun _ => ?_, ?_⟩; (focus (intros; first | rfl | (simp only [*]; rfl) | (simp [*]; rfl))); go_big_quiet_on))
              refine wpQuiet_nil ?_
              go_wp2_with fail
              (with_reducible refine (half_any bd bs bf d6 _ _ (HDR.out.same (Mod.refl [] _).drew)).mono ?_); rintro _ w8 ⟨rfl, rfl⟩
              go_wp2_with fail
              refine ⟨k1, ?_⟩
              refine Ord.wpOrd_seg [_, _] _ rfl rfl ?_
              simp only [List.getElem_toArray, List.getElem_cons_zero, List.getElem_cons_succ]
              repeat first | go_big_quiet_skip | (go_big_quiet_want; go_big_quiet_op; first | go_big_quiet_on | (apply Exists.intro; refine ⟨fun _ => ?_, ?_⟩; (focus (intros; first | rfl | (simp only [*]; rfl) | (simp [*]; rfl))); go_big_quiet_on))
              refine wpQuiet_nil ?_
              go_wp2_with fail
              rw [HPOS.out]
              (with_reducible refine (read_any bd bs bf d6 _ _ _ (HDR.out.same (Mod.refl [] _).drew) HAT.out).mono ?_); rintro _ w8 ⟨rfl, rfl⟩
              rw [← HX.out]
              go_wp2_with fail
              refine ⟨k1, ?_⟩
              refine Ord.wpOrd_last [_, _, _, _, _] rfl ?_
              simp only [List.getElem_toArray, List.getElem_cons_zero, List.getElem_cons_succ]
              repeat first | go_big_quiet_skip | (go_big_quiet_want; go_big_quiet_op; first | go_big_quiet_on | (apply Exists.intro; refine ⟨fun _ => ?_, ?_⟩; (focus (intros; first | rfl | (simp only [*]; rfl) | (simp [*]; rfl))); go_big_quiet_on))
              refine wpQuiet_nil ?_
              go_wp2_with fail
              (with_reducible refine (get_any x _ HSZ.out).mono ?_); rintro _ w8 ⟨rfl, hb8⟩
              have hm8 : Mod [] w7 w8 := ((Mod.refl [] w7).drew).then hb8
              have HMX := Lib.hid (HMR.out.trans hm8)
              have HLX := Lib.hid (HLR.out.mod hm8 (by simp))
              have HDX := Lib.hid (HDR.out.same hm8)
              have HOWNX := Lib.hid (own_mod HOWN.out hm8 (by simp))
              have k2 := HLX.out.cells5.2.2.1
              clear hb8 hm8 k1
              cases hok : okB x
              · have HEQ := Lib.hid (show recsOf d6 ar ge = col by rw [HREC.out, recsFrom_none _ _ _ _ _ (by rw [HGD.out, hok]; rfl), List.append_nil])
                simp only [genI, seqI, payB, hok]
                clear hok
                -- HEQ: recsOf d6 ar ge = col; HOWNX, HLX, HDX, HMX in the world at hand
                obtain ⟨sa, sc, hv⟩ := own_slice HOWNX.out
                obtain rfl := hv
                have kx := HLX.out.free 3
                have kc := HLX.out.cells5.2.2.2.1
                go_wp2
                go_ret3
                have hL : openL d = { area := ar, gen := ge, recs := col, broken := false } := by
                  unfold openL
                  rw [← HV.out.2.1, ← HV.out.2.2.1, ← HV.out.2.2.2.1, HEQ.out]
                have hbw1 : w1.heap.size ≤ bw := by have := HM3.out.size; rw [HBW.out]; exact this
                refine ⟨(HM6.out.trans (HMX.out.mono (by simp))).setNew (p := ⟨bw, 3, none⟩) hbw1 _, .inl ⟨HV.out.2.2.2.2, bw, _, rfl, hbw1, ?_, ?_, ?_⟩⟩
                · rw [hL]; exact HLX.out.set 3 (.int .i64 col.length)
                · rw [← HV.out.2.2.2.1]; exact HDX.out.mod ((Mod.refl [bw] _).setCell (p := ⟨bw, 3, none⟩) (by simp) _) (by simp)
                · rw [hL]
                  refine (own_strs HOWNX.out (out := bw :: [bd, bs, bf] ++ av) ?_).mod ((Mod.refl [bw] _).setCell (p := ⟨bw, 3, none⟩) (by simp) _) (by simp)
                  intro x hx
                  have h1 := HL6.out.lt
                  have h2 := HD6.out.lts
                  simp only [List.cons_append, List.nil_append, List.mem_cons] at hx
                  rcases hx with e | e | e | e | e
                  · rw [e]; exact h1
                  · rw [e]; exact h2.1
                  · rw [e]; exact h2.2.1
                  · rw [e]; exact h2.2.2
                  · exact Nat.lt_of_lt_of_le (HAV.out x e) HM6.out.size
              · have HOK := Lib.hid hok
                simp only [genI, seqI, payB, hok]
                clear hok
                by_cases hge : genOf x = ge
                · by_cases hse : seqOf x = k
                  · have hg1 : (((genOf x : Nat) : Int) != (ge : Int)) = false := by simp [hge]
                    have hs1 : (((seqOf x : Nat) : Int) != (k : Int)) = false := by simp [hse]
                    have HGOOD := Lib.hid (show good d6 ar ge k = true by rw [HGD.out, HOK.out, hge, hse]; simp)
                    clear hge hse hlti
                    have hm := Lib.hid (show col.length + 1 ≤ maxLen by have := HK.out; have := HH.out; unfold maxLen; omega)
                    have HCL := Lib.hid (show (col.length + 1) * 16 ≤ 140737488355328 by have := HK.out; have := HH.out; omega)
                    obtain ⟨i0, hinf, hz0, hz1, hz2⟩ := info_parts info_str
                    have HI0 := Lib.hid (And.intro hinf (And.intro hz0 (And.intro hz1 hz2)))
                    clear hinf hz0 hz1 hz2
                    have HWS := Lib.hid HMX.out.size
                    go_wp2_with (at_builtin; refine wpList_append_own _ rfl (.tmp 100) (.tmp 102) 31 rfl w6.heap.size 9 i0 (.string ⟨#[]⟩) 1 16 Try.underlying31 HI0.out.1 HI0.out.2.1 HI0.out.2.2.1 HI0.out.2.2.2 rfl (by decide) _ col.length (col.map Value.string) rfl (HOWNX.out.alloc _) ⟨w8.heap.size, 0, none⟩ 1 1 [.string (payOf x)] rfl rfl (one_new _ _ _) (by intro u hu; simp at hu; subst hu; rfl) hm.out HCL.out (by have := HWS.out; simp; omega) ?_)
                    intro v' w9 hown2 hg9 _
                    have HM9 := Lib.hid ((HMX.out.alloc (.cells #[.string (payOf x)] 9)).grown hg9 (own_block HOWNX.out))
                    have HO9 := Lib.hid hown2
                    clear hown2 hg9
                    go_wp2
                    go_roundw
                    case rel =>
                      refine ⟨k + 1, col ++ [payOf x], by rw [HWK.out], by have := HK.out; simp; omega, HLT.out, ?_, ?_, HM9.out⟩
                      · rw [HREC.out, show d6.half - k = (d6.half - (k + 1)) + 1 by have := HLT.out; omega, recsFrom_good _ _ _ _ _ HGOOD.out, HPY.out]
                        simp
                      · have := HO9.out
                        simp only [List.length_append, List.length_singleton, List.map_append, List.map_cons, List.map_nil]
                        exact this
                    case measure =>
                      show d6.half - (intOf (.int .i64 (wrap64 ((k : Int) + 1)))).toNat < d6.half - (intOf (.int .i64 (k : Int))).toNat
                      rw [HWK.out]
                      simp only [intOf, Int.toNat_natCast]
                      exact Nat.sub_lt_sub_left HLT.out (Nat.lt_succ_self k)
                  · have HEQ := Lib.hid (show recsOf d6 ar ge = col by rw [HREC.out, recsFrom_none _ _ _ _ _ (by rw [HGD.out]; simp [hse]), List.append_nil])
                    have hg1 : (((genOf x : Nat) : Int) != (ge : Int)) = false := by simp [hge]
                    have hs1 : (((seqOf x : Nat) : Int) != (k : Int)) = true := by simp; omega
                    clear hge hse
                    -- HEQ: recsOf d6 ar ge = col; HOWNX, HLX, HDX, HMX in the world at hand
                    obtain ⟨sa, sc, hv⟩ := own_slice HOWNX.out
                    obtain rfl := hv
                    have kx := HLX.out.free 3
                    have kc := HLX.out.cells5.2.2.2.1
                    go_wp2
                    go_ret3
                    have hL : openL d = { area := ar, gen := ge, recs := col, broken := false } := by
                      unfold openL
                      rw [← HV.out.2.1, ← HV.out.2.2.1, ← HV.out.2.2.2.1, HEQ.out]
                    have hbw1 : w1.heap.size ≤ bw := by have := HM3.out.size; rw [HBW.out]; exact this
                    refine ⟨(HM6.out.trans (HMX.out.mono (by simp))).setNew (p := ⟨bw, 3, none⟩) hbw1 _, .inl ⟨HV.out.2.2.2.2, bw, _, rfl, hbw1, ?_, ?_, ?_⟩⟩
                    · rw [hL]; exact HLX.out.set 3 (.int .i64 col.length)
                    · rw [← HV.out.2.2.2.1]; exact HDX.out.mod ((Mod.refl [bw] _).setCell (p := ⟨bw, 3, none⟩) (by simp) _) (by simp)
                    · rw [hL]
                      refine (own_strs HOWNX.out (out := bw :: [bd, bs, bf] ++ av) ?_).mod ((Mod.refl [bw] _).setCell (p := ⟨bw, 3, none⟩) (by simp) _) (by simp)
                      intro x hx
                      have h1 := HL6.out.lt
                      have h2 := HD6.out.lts
                      simp only [List.cons_append, List.nil_append, List.mem_cons] at hx
                      rcases hx with e | e | e | e | e
                      · rw [e]; exact h1
                      · rw [e]; exact h2.1
                      · rw [e]; exact h2.2.1
                      · rw [e]; exact h2.2.2
                      · exact Nat.lt_of_lt_of_le (HAV.out x e) HM6.out.size
                · have HEQ := Lib.hid (show recsOf d6 ar ge = col by rw [HREC.out, recsFrom_none _ _ _ _ _ (by rw [HGD.out]; simp [hge]), List.append_nil])
                  have hg1 : (((genOf x : Nat) : Int) != (ge : Int)) = true := by simp; omega
                  clear hge
                  -- HEQ: recsOf d6 ar ge = col; HOWNX, HLX, HDX, HMX in the world at hand
                  obtain ⟨sa, sc, hv⟩ := own_slice HOWNX.out
                  obtain rfl := hv
                  have kx := HLX.out.free 3
                  have kc := HLX.out.cells5.2.2.2.1
                  go_wp2
                  go_ret3
                  have hL : openL d = { area := ar, gen := ge, recs := col, broken := false } := by
                    unfold openL
                    rw [← HV.out.2.1, ← HV.out.2.2.1, ← HV.out.2.2.2.1, HEQ.out]
                  have hbw1 : w1.heap.size ≤ bw := by have := HM3.out.size; rw [HBW.out]; exact this
                  refine ⟨(HM6.out.trans (HMX.out.mono (by simp))).setNew (p := ⟨bw, 3, none⟩) hbw1 _, .inl ⟨HV.out.2.2.2.2, bw, _, rfl, hbw1, ?_, ?_, ?_⟩⟩
                  · rw [hL]; exact HLX.out.set 3 (.int .i64 col.length)
                  · rw [← HV.out.2.2.2.1]; exact HDX.out.mod ((Mod.refl [bw] _).setCell (p := ⟨bw, 3, none⟩) (by simp) _) (by simp)
                  · rw [hL]
                    refine (own_strs HOWNX.out (out := bw :: [bd, bs, bf] ++ av) ?_).mod ((Mod.refl [bw] _).setCell (p := ⟨bw, 3, none⟩) (by simp) _) (by simp)
                    intro x hx
                    have h1 := HL6.out.lt
                    have h2 := HD6.out.lts
                    simp only [List.cons_append, List.nil_append, List.mem_cons] at hx
                    rcases hx with e | e | e | e | e
                    · rw [e]; exact h1
                    · rw [e]; exact h2.1
                    · rw [e]; exact h2.2.1
                    · rw [e]; exact h2.2.2
                    · exact Nat.lt_of_lt_of_le (HAV.out x e) HM6.out.size
            · have hlti : (d6.half : Int) ≤ (k : Int) := by omega
              have HEQ := Lib.hid (show recsOf d6 ar ge = col by rw [HREC.out, show d6.half - k = 0 by omega]; simp [recsFrom])
              clear hlt
              go_wp2_with fail
              (with_reducible refine (half_any bd bs bf d6 _ _ HDR.out).mono ?_); rintro _ w7 ⟨rfl, rfl⟩
              have HLX := HLR
              have HDX := HDR
              have HMX := HMR
              have HOWNX := HOWN
              -- HEQ: recsOf d6 ar ge = col; HOWNX, HLX, HDX, HMX in the world at hand
              obtain ⟨sa, sc, hv⟩ := own_slice HOWNX.out
              obtain rfl := hv
              have kx := HLX.out.free 3
              have kc := HLX.out.cells5.2.2.2.1
              go_wp2
              go_ret3
              have hL : openL d = { area := ar, gen := ge, recs := col, broken := false } := by
                unfold openL
                rw [← HV.out.2.1, ← HV.out.2.2.1, ← HV.out.2.2.2.1, HEQ.out]
              have hbw1 : w1.heap.size ≤ bw := by have := HM3.out.size; rw [HBW.out]; exact this
              refine ⟨(HM6.out.trans (HMX.out.mono (by simp))).setNew (p := ⟨bw, 3, none⟩) hbw1 _, .inl ⟨HV.out.2.2.2.2, bw, _, rfl, hbw1, ?_, ?_, ?_⟩⟩
              · rw [hL]; exact HLX.out.set 3 (.int .i64 col.length)
              · rw [← HV.out.2.2.2.1]; exact HDX.out.mod ((Mod.refl [bw] _).setCell (p := ⟨bw, 3, none⟩) (by simp) _) (by simp)
              · rw [hL]
                refine (own_strs HOWNX.out (out := bw :: [bd, bs, bf] ++ av) ?_).mod ((Mod.refl [bw] _).setCell (p := ⟨bw, 3, none⟩) (by simp) _) (by simp)
                intro x hx
                have h1 := HL6.out.lt
                have h2 := HD6.out.lts
                simp only [List.cons_append, List.nil_append, List.mem_cons] at hx
                rcases hx with e | e | e | e | e
                · rw [e]; exact h1
                · rw [e]; exact h2.1
                · rw [e]; exact h2.2.1
                · rw [e]; exact h2.2.2
                · exact Nat.lt_of_lt_of_le (HAV.out x e) HM6.out.size
    · have HOPD := Lib.hid (show (d.opn.isSome && d.fuse.stop) = true by rw [hst, hop]; rfl)
      clear hop
      go_enter Try.func12, Try.ntmps12
      go_wp2_with fail
      (with_reducible refine (dopen_any bd bs bf d av _ HD.out).mono ?_); rintro _ w1 ⟨rfl, rfl⟩
      rw [HN.out]
      go_wp2_with fail
      (with_reducible refine (flush_any bd bs bf d av _ HD.out).mono ?_); rintro _ w2 ⟨rfl, hd2, hm2⟩
      have HST := Lib.hid hst
      rw [HST.out]
      clear hst
      have HD2 := Lib.hid hd2
      have HM2 := Lib.hid hm2
      clear hd2 hm2
      go_wp2
      go_ret3
      refine ⟨HM2.out, .inr ⟨?_, rfl, ?_⟩⟩
      · unfold openOk; rw [HOPD.out]; rfl
      · unfold openD; rw [HOPD.out]; exact HD2.out
end Go.Proofs.Yteidhbjfmmodhaa
