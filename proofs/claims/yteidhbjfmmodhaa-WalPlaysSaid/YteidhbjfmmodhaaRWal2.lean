/- The walk over the opening of the reference's log. -/
import Derived.Test.YteidhbjfmmodhaaRWal
namespace Go.Proofs.Yteidhbjfmmodhaa
open Go.RowKit Crc Fr

theorem rhead0 (rd rf : Nat) (d : D) (av : List Nat) (w : World) (h : DiskR w rd rf d av) :
    Calls Try.prog 41 #[ptr rd, .int .i64 0] w fun e w' => e = .returned (.int .i64 (headN d 0)) ∧ Mod [] w w' := rhead_any rd rf d av 0 w h (by omega)
theorem rhead1 (rd rf : Nat) (d : D) (av : List Nat) (w : World) (h : DiskR w rd rf d av) :
    Calls Try.prog 41 #[ptr rd, .int .i64 1] w fun e w' => e = .returned (.int .i64 (headN d 1)) ∧ Mod [] w w' := rhead_any rd rf d av 1 w h (by omega)
theorem rlay_first (rw rd rf : Nat) (d : D) (av : List Nat) (c1 c2 c3 : Value) (w : World) (h : DiskR w rd rf d av) (hav : ∀ x ∈ av, x < w.heap.size)
    (hb : Blk w rw [ptr rd, c1, c2, c3, .bool false] 56) (hrw : rw ∈ av) (hop : d.opn = none) :
    Calls Try.prog 42 #[ptr rw, .int .i64 0, .int .i64 1, .int .i64 0, .string ⟨#[104, 101, 97, 100]⟩] w fun e w' =>
      e = .returned (.bool (layOk d 0 1 0 headS)) ∧ DiskR w' rd rf (lay d 0 1 0 headS) av ∧
      Blk w' rw [ptr rd, c1, c2, c3, .bool (!layOk d 0 1 0 headS)] 56 ∧ Mod [rd, rf, rw] w w' :=
  rlay_any rw rd rf d av 0 1 0 c1 c2 c3 headS w h hav hb hrw hop (by omega) (by omega) (by have := half_two h.fits; omega) (by have := h.fits.s1; have : headS.size = 4 := rfl; omega)

theorem Mod.transNew {S T : List Nat} {a b c : World} (h : Mod S a b) (k : Mod T b c) (hT : ∀ x ∈ T, a.heap.size ≤ x ∨ x ∈ S) : Mod S a c := by
  refine ⟨k.os.trans h.os, k.tape.trans h.tape, k.output.trans h.output, Nat.le_trans h.size k.size, fun j hj hn => ?_⟩
  rw [k.block j (Nat.lt_of_lt_of_le hj h.size) (fun hx => by rcases hT j hx with e | e; omega; exact hn e)]
  exact h.block j hj hn

/-- The reference's log, in memory. -/
def LogR (w : World) (rw rd : Nat) (l : Lg) (out : List Nat) : Prop :=
  ∃ v, Blk w rw [ptr rd, .int .i64 l.area, .int .i64 l.gen, v, .bool l.broken] 56 ∧ StrsAt w v l.recs out
/-- What an opening of the reference's comes to. -/
def ROpened (w w' : World) (e : Ending) (rd rf : Nat) (d : D) (av : List Nat) : Prop :=
  Mod [rd, rf] w w' ∧
  ((openOk d = true ∧ ∃ rw, e = .returned (.tuple #[ptr rw, .int .i64 0]) ∧ w.heap.size ≤ rw ∧ LogR w' rw rd (openL d) (rw :: [rd, rf] ++ av) ∧ DiskR w' rd rf (openD d) (rw :: av)) ∨
   (openOk d = false ∧ e = .returned (.tuple #[.pointer none, .int .i64 2]) ∧ DiskR w' rd rf (openD d) av))





set_option maxRecDepth 100000 in
set_option maxHeartbeats 8000000 in
theorem ropen_any (rd rf : Nat) (d : D) (av : List Nat) (w : World) (h : DiskR w rd rf d av) (hav : ∀ x ∈ av, x < w.heap.size) :
    Calls Try.prog 22 #[ptr rd] w fun e w' => ROpened w w' e rd rf d av := by
  have HD := Lib.hid h
  have HAV := Lib.hid hav
  obtain ⟨vl, vn, vi, vb, hb, hl, hn, ho⟩ := h.blk
  have c3 := hb.cells6.2.2.2.1
  clear h hav hb hl hn
  cases hop : d.opn with
  | none =>
    rw [hop] at ho
    obtain ⟨rfl, rfl⟩ := ho
    have H1 := Lib.hid (show opn1 d = d by unfold opn1; rw [hop]; rfl)
    have HOPD := Lib.hid (show (d.opn.isSome && d.fuse.stop) = false by rw [hop]; rfl)
    go_enter Try.func22, Try.ntmps22
    obtain ⟨w1, hw1⟩ : ∃ w1, w1 = w := ⟨_, rfl⟩
    obtain rfl := hw1
    have HD1 := Lib.hid (show DiskR w1 rd rf (opn1 d) av by rw [H1.out]; exact HD.out)
    have HM1 := Lib.hid (Mod.refl [rd, rf] w1)
    have HO1 := Lib.hid (show (opn1 d).opn = none by rw [H1.out]; exact hop)
    clear hop
    -- w1: 'opn1 d' on the disk, nothing open (HD1, HM1, HO1)
    go_wp2_with fail
    obtain ⟨rw_, hrw⟩ : ∃ rw_, rw_ = w1.heap.size := ⟨_, rfl⟩
    have ha2 := Blk.new w1 [ptr rd, .int .i64 0, .int .i64 0, .slice none 0 0, .bool false] 56
    have hd4 := (HD1.out.avoid (av' := rw_ :: av) (by intro x hx; rcases List.mem_cons.1 hx with e | e; exact .inr (by rw [e, hrw]; exact Nat.le_refl _); exact .inl e)).same ((Mod.refl [] w1).alloc (.cells #[ptr rd, .int .i64 0, .int .i64 0, .slice none 0 0, .bool false] 56))
    have hm4 := HM1.out.alloc (.cells #[ptr rd, .int .i64 0, .int .i64 0, .slice none 0 0, .bool false] 56)
    obtain ⟨w4, hw4⟩ : ∃ w4, w4 = w1.alloc (.cells #[ptr rd, .int .i64 0, .int .i64 0, .slice none 0 0, .bool false] 56) := ⟨_, rfl⟩
    have ha3 : Blk w4 rw_ [ptr rd, .int .i64 0, .int .i64 0, .slice none 0 0, .bool false] 56 := by rw [hw4, hrw]; exact ha2
    have hrwn : w1.heap.size ≤ rw_ := by rw [hrw]; exact Nat.le_refl _
    have HRWN := Lib.hid (And.intro hrwn (Nat.le_trans HM1.out.size hrwn))
    clear hrwn
    rw [← hw4] at hd4 hm4 ⊢
    rw [← hrw]
    clear hw4 ha2 hrw
    have HD4 := Lib.hid hd4
    (with_reducible refine (rhead0 rd rf (opn1 d) _ _ HD4.out).mono ?_); rintro _ w3 ⟨rfl, hm3⟩
    have HD3 := Lib.hid (HD4.out.same hm3)
    have ha4 := ha3.mod hm3 (by simp)
    have hm5 := hm4.trans (hm3.mono (S' := [rd, rf]) (by simp))
    clear hm3 hm4 hd4 ha3
    go_wp2_with fail
    (with_reducible refine (rhead1 rd rf (opn1 d) _ _ HD3.out).mono ?_); rintro _ w5 ⟨rfl, hm6⟩
    have HD5 := Lib.hid (HD3.out.same hm6)
    have hb5 := ha4.mod hm6 (by simp)
    have HM5 := Lib.hid (hm5.trans (hm6.mono (S' := [rd, rf]) (by simp)))
    obtain ⟨k0, k1, k2, k3, k4, kz⟩ := hb5.cells5
    have HB5 := Lib.hid hb5
    clear hm5 hm6 ha4 hb5 HD3 HD4
    by_cases hlt : headN (opn1 d) 0 < headN (opn1 d) 1
    · have HA := Lib.hid (show areaN (opn1 d) = 1 by unfold areaN; rw [if_pos hlt])
      have HG := Lib.hid (show genN (opn1 d) = headN (opn1 d) 1 by unfold genN; rw [if_pos hlt])
      have HG2 := Lib.hid (show genN (opn1 d) ≠ 0 by rw [HG.out]; omega)
      have hlt2 : (headN (opn1 d) 0 : Int) < (headN (opn1 d) 1 : Int) := by omega
      have hz : (((headN (opn1 d) 1 : Nat) : Int) == 0) = false := by simp; omega
      obtain ⟨gn, cn, hn6, _⟩ := HD5.out.now_at
      have hne1 : ¬ rd = rw_ := fun e => HD5.out.out.1 (by rw [e]; simp)
      have hne2 : ¬ rw_ = rd := fun e => hne1 e.symm
      clear hlt
      go_wp2_with fail
      clear hn6 hne1 hne2
      obtain ⟨w6, hw6⟩ : ∃ w6, w6 = ((w5.setCell ⟨rw_, 2, none⟩ (.int .i64 (headN (opn1 d) 0))).setCell ⟨rw_, 1, none⟩ (.int .i64 1)).setCell ⟨rw_, 2, none⟩ (.int .i64 (headN (opn1 d) 1)) := ⟨_, rfl⟩
      have hm6 : Mod [rw_] w5 w6 := by rw [hw6]; exact (((Mod.refl [rw_] w5).setCell (p := ⟨rw_, 2, none⟩) (by simp) _).setCell (p := ⟨rw_, 1, none⟩) (by simp) _).setCell (p := ⟨rw_, 2, none⟩) (by simp) _
      have hl6 : Blk w6 rw_ [ptr rd, .int .i64 1, .int .i64 (headN (opn1 d) 1), .slice none 0 0, .bool false] 56 := by rw [hw6]; exact ((HB5.out.set 2 (.int .i64 (headN (opn1 d) 0))).set 1 (.int .i64 1)).set 2 (.int .i64 (headN (opn1 d) 1))
      rw [← hw6]
      obtain ⟨ar, har⟩ : ∃ ar : Nat, ar = 1 := ⟨_, rfl⟩
      obtain ⟨ge, hge⟩ : ∃ ge : Nat, ge = headN (opn1 d) 1 := ⟨_, rfl⟩
      obtain ⟨d6, hd6e⟩ : ∃ d6, d6 = opn1 d := ⟨_, rfl⟩
      have HL6 := Lib.hid (show Blk w6 rw_ [ptr rd, .int .i64 ar, .int .i64 ge, .slice none 0 0, .bool false] 56 by rw [har, hge]; exact hl6)
      rw [← hd6e]
      have HD6 := Lib.hid (show DiskR w6 rd rf d6 (rw_ :: av) by rw [hd6e]; exact HD5.out.mod hm6 (by simp))
      have HM6 := Lib.hid (HM5.out.transNew hm6 (by intro x hx; left; simp at hx; rw [hx]; exact HRWN.out.2))
      have HV := Lib.hid (show ar ≤ 1 ∧ ar = areaN (opn1 d) ∧ ge = openGen d ∧ d6 = openD d ∧ openOk d = true from ⟨by omega, by rw [har, HA.out], by rw [hge]; unfold openGen; rw [if_neg HG2.out, HG.out], by rw [hd6e]; unfold openD; rw [HOPD.out, if_neg (by simp), if_neg HG2.out], by unfold openOk; rw [HOPD.out, if_neg (by simp), if_neg HG2.out]⟩)
      clear hl6 hm6 hw6 har hge hd6e k0 k1 k2 k3 k4 kz hlt2 hz
      -- w6: HL6 : Blk w6 rw_ [.., ar, ge, nil, false], HD6 : DiskR w6 .. d6 (rw_ :: av), HM6 : Mod [rd, rf] w w6, HV, HRWN : (w.heap.size ≤ w.heap.size ..)
      have HH := Lib.hid (half_two HD6.out.fits)
      have hwh : wrap64 ((d6.last.length : Int) / 2) = (d6.half : Int) := by
        have := HD6.out.fits.n2
        rw [IntWalk.wrap64_in _ (by omega)]; unfold D.half; omega
      rw [hwh]
      clear hwh
      go_loopw [8] (fun i wr => ∃ (k : Nat) (col : List ByteArray) (v : Value), i = .int .i64 k ∧ col.length + 1 = k ∧ k ≤ d6.half ∧ recsOf d6 ar ge = col ++ recsFrom d6 ar ge k (d6.half - k) ∧ Blk wr rw_ [ptr rd, .int .i64 ar, .int .i64 ge, v, .bool false] 56 ∧ wr.ownsRow w6.heap.size 9 1 v col.length (col.map Value.string) ∧ Mod [rw_] w6 wr) (fun i _ => d6.half - (intOf i).toNat)
      case atStart => exact ⟨1, [], .slice none 0 0, rfl, rfl, by have := HH.out; omega, rfl, HL6.out, World.ownsRow_nil _ _ _ _, Mod.refl _ _⟩
      case round =>
        obtain ⟨k, col, v, rfl, hk1, hk2, hrec, hb, hown, hmr⟩ := hrel
        obtain ⟨sa, sc, hv⟩ := own_slice hown
        obtain rfl := hv
        obtain ⟨k0, k1, k2, k3, k4, kz⟩ := hb.cells5
        have HREC := Lib.hid hrec
        have HOWN := Lib.hid hown
        have HMR := Lib.hid hmr
        have HLR := Lib.hid hb
        have hdr := HD6.out.mod hmr (by simp)
        have HDR := Lib.hid hdr
        have HK := Lib.hid (And.intro hk1 hk2)
        clear hrec hown hmr hb hk1 hk2
        by_cases hlt : k < d6.half
        · have hlti : (k : Int) < (d6.half : Int) := by omega
          obtain ⟨gn, cn, hn6, hnc⟩ := hdr.now_at
          have hat := at_lt (d := d6) (area := ar) (seq := k) HD6.out.fits HV.out.1 hlt
          obtain ⟨pos, hpos⟩ : ∃ pos, pos = ar * d6.half + k := ⟨_, rfl⟩
          have hpl : (pos : Int) < (d6.last.length : Int) := by omega
          have hw1 : wrap64 (wrap64 ((ar : Int) * (d6.half : Int)) + (k : Int)) = (pos : Int) := by
            have := HD6.out.fits.n2
            rw [IntWalk.wrap64_in ((ar : Int) * (d6.half : Int)) (by rw [← Int.natCast_mul]; omega), IntWalk.wrap64_in _ (by rw [← Int.natCast_mul]; omega)]
            rw [hpos, Int.natCast_add, Int.natCast_mul]
          obtain ⟨x, hx⟩ : ∃ x, x = sect d6.now (ar * d6.half + k) := ⟨_, rfl⟩
          have c3 := hnc pos (by omega)
          rw [hpos, ← hx, ← hpos] at c3
          have HLT := Lib.hid hlt
          have HWK := Lib.hid (show wrap64 ((k : Int) + 1) = ((k + 1 : Nat) : Int) by have := HH.out; rw [IntWalk.wrap64_in _ (by omega)]; omega)
          have HGD := Lib.hid (show good d6 ar ge k = (okB x && (genOf x == ge && seqOf x == k)) by unfold good; rw [hx])
          have HPY := Lib.hid (show recPay d6 ar k = payOf x by unfold recPay; rw [hx])
          clear hnc hat hpos hx hlt k0 hdr
          go_wp2_with fail
          refine Ord.wp_region_ord (fun w' => w'.cell? ⟨rd, 2, none⟩ = some (.slice (some ⟨gn, 0, none⟩) d6.last.length cn) ∧ w'.cell? ⟨rw_, 1, none⟩ = some (.int .i64 ar) ∧ w'.cell? ⟨gn, pos, none⟩ = some (.string x)) [([0, 1, 2, 3, 4, 5, 6, 7, 8, 9, 10, 11, 12, 13], 14)] [15, 16, 17, 18, 19, 20, 21, 22, 23] (by kernel_rfl) (by kernel_rfl) ⟨hn6, k1, c3⟩ ?_
          refine Ord.wpOrd_seg [_, _, _, _, _, _, _, _, _, _, _, _, _, _] _ rfl rfl ?_
          simp only [List.getElem_toArray, List.getElem_cons_zero, List.getElem_cons_succ]
          repeat first | go_big_quiet_skip | (go_big_quiet_want; go_big_quiet_op; first | go_big_quiet_on | (apply Exists.intro; refine ⟨fun _ => ?_, ?_⟩; (focus (intros; first | rfl | (simp only [*]; rfl) | (simp [*]; rfl))); go_big_quiet_on))
          refine wpQuiet_nil ?_
          go_wp2_with fail
          (with_reducible refine (rget_any x _).mono ?_); rintro _ w8 ⟨rfl, hb8⟩
          have hm8 := (((Mod.refl [] wr).drew).then hb8)
          have HMX := Lib.hid (HMR.out.trans (hm8.mono (by simp)))
          have hlx := HLR.out.mod hm8 (by simp)
          have HLX := Lib.hid hlx
          have HDX := Lib.hid (HDR.out.same hm8)
          have HOWNX := Lib.hid (own_mod HOWN.out hm8 (by simp))
          have q2 := hm8.cell hn6 (by simp)
          have q3 := hm8.cell c3 (by simp)
          obtain ⟨k0, k1, k2, k3, k4, kz⟩ := hlx.cells5
          have hltx : rw_ < w8.heap.size := hlx.lt
          clear hb8 hm8 hlx hn6 c3 hw1 hpl
          cases hok : okB x
          · have HEQ := Lib.hid (show recsOf d6 ar ge = col by rw [HREC.out, recsFrom_none _ _ _ _ _ (by rw [HGD.out, hok]; rfl), List.append_nil])
            simp only [genI, seqI, payB, hok]
            clear hok
            go_wp2_with fail
            try (refine ⟨⟨q2, k1, q3⟩, ?_⟩)
            refine Ord.wpOrd_last [_, _, _, _, _, _, _, _, _] rfl ?_
            simp only [List.getElem_toArray, List.getElem_cons_zero, List.getElem_cons_succ]
            repeat first | go_big_quiet_skip | (go_big_quiet_want; go_big_quiet_op; first | go_big_quiet_on | (apply Exists.intro; refine ⟨fun _ => ?_, ?_⟩; (focus (intros; first | rfl | (simp only [*]; rfl) | (simp [*]; rfl))); go_big_quiet_on))
            refine wpQuiet_nil ?_
            clear q2 q3 k0 k3 k4
            -- HEQ: recsOf d6 ar ge = col; HLX : Blk .., HOWNX, HDX, HMX in the world at hand
            go_wp2
            go_ret2
            have hL : openL d = { area := ar, gen := ge, recs := col, broken := false } := by
              unfold openL
              rw [← HV.out.2.1, ← HV.out.2.2.1, ← HV.out.2.2.2.1, HEQ.out]
            refine ⟨HM6.out.transNew HMX.out (by intro x hx; left; simp at hx; rw [hx]; exact HRWN.out.2), .inl ⟨HV.out.2.2.2.2, rw_, rfl, HRWN.out.2, ?_, ?_⟩⟩
            · rw [hL]
              refine ⟨_, HLX.out, own_strs HOWNX.out ?_⟩
              intro x hx
              have h1 := HL6.out.lt
              have h2 := HD6.out.lts
              simp only [List.cons_append, List.nil_append, List.mem_cons] at hx
              rcases hx with e | e | e | e
              · rw [e]; exact h1
              · rw [e]; exact h2.1
              · rw [e]; exact h2.2
              · exact Nat.lt_of_lt_of_le (HAV.out x e) HM6.out.size
            · rw [← HV.out.2.2.2.1]; exact HDX.out
          · have HOK := Lib.hid hok
            simp only [genI, seqI, payB, hok]
            clear hok
            by_cases hge : genOf x = ge
            · by_cases hse : seqOf x = k
              · have hg1 : (((genOf x : Nat) : Int) != (ge : Int)) = false := by simp [hge]
                have hs1 : (((seqOf x : Nat) : Int) != (k : Int)) = false := by simp [hse]
                have HGOOD := Lib.hid (show good d6 ar ge k = true by rw [HGD.out, HOK.out, hge, hse]; simp)
                clear hge hse hlti
                have hm := Lib.hid (show col.length + 1 ≤ maxLen by have := HK.out; have := HH.out; unfold maxLen; omega)
                have HCL := Lib.hid (show (col.length + 1) * 16 ≤ 140737488355328 by have := HK.out; have := HH.out; omega)
                obtain ⟨i0, hinf, hz0, hz1, hz2⟩ := info_parts info_str
                have HI0 := Lib.hid (And.intro hinf (And.intro hz0 (And.intro hz1 hz2)))
                clear hinf hz0 hz1 hz2
                have HWS := Lib.hid HMX.out.size
                go_wp2_with fail
                try (refine ⟨⟨q2, k1, q3⟩, ?_⟩)
                refine Ord.wpOrd_last [_, _, _, _, _, _, _, _, _] rfl ?_
                simp only [List.getElem_toArray, List.getElem_cons_zero, List.getElem_cons_succ]
                repeat first | go_big_quiet_skip | (go_big_quiet_want; go_big_quiet_op; first | go_big_quiet_on | (apply Exists.intro; refine ⟨fun _ => ?_, ?_⟩; (focus (intros; first | rfl | (simp only [*]; rfl) | (simp [*]; rfl))); go_big_quiet_on))
                refine wpQuiet_nil ?_
                clear q2 q3
                go_wp2_with (at_builtin; refine wpList_append_own _ rfl (.tmp 107) (.tmp 109) 31 rfl w6.heap.size 9 i0 (.string ⟨#[]⟩) 1 16 Try.underlying31 HI0.out.1 HI0.out.2.1 HI0.out.2.2.1 HI0.out.2.2.2 rfl (by decide) _ col.length (col.map Value.string) rfl (HOWNX.out.alloc _) ⟨w8.heap.size, 0, none⟩ 1 1 [.string (payOf x)] rfl rfl (one_new_at _ _ _ _ (by simp)) (by intro u hu; simp at hu; subst hu; rfl) hm.out HCL.out (by have := HWS.out; simp; omega) ?_)
                intro v' w9 hown2 hg9 _
                have HM9 := Lib.hid ((HMX.out.alloc (.cells #[.string (payOf x)] 9)).grown hg9 (own_block HOWNX.out))
                have hb9 : Blk w9 rw_ [ptr rd, .int .i64 ar, .int .i64 ge, .slice sa col.length sc, .bool false] 56 := by
                  have hbb := HLX.out.alloc (.cells #[.string (payOf x)] 9)
                  refine (show w9.heap[rw_]? = _ from ?_)
                  rw [hg9.block rw_ hbb.lt (fun e => by have := own_block HOWNX.out rw_ e.symm; have := HL6.out.lt; omega)]
                  exact hbb
                obtain ⟨sa2, sc2, hv2⟩ := own_slice hown2
                obtain rfl := hv2
                obtain ⟨k0, k1, k2, k3, k4, kz⟩ := hb9.cells5
                have HL9 := Lib.hid hb9
                have HO9 := Lib.hid hown2
                clear hown2 hg9 hb9 k0 k1 k2 k4
                go_wp2
                go_roundw
                case rel =>
                  refine ⟨k + 1, col ++ [payOf x], .slice sa2 (col.length + 1) sc2, by rw [HWK.out], by have := HK.out; simp; omega, HLT.out, ?_, HL9.out.set 3 _, ?_, HM9.out.setCell (by simp) _⟩
                  · rw [HREC.out, show d6.half - k = (d6.half - (k + 1)) + 1 by have := HLT.out; omega, recsFrom_good _ _ _ _ _ HGOOD.out, HPY.out]
                    simp
                  · have := ownsRow_setCell_below HO9.out (a := ⟨rw_, 3, none⟩) (by have := HL6.out.lt; exact this) (.slice sa2 (col.length + 1) sc2)
                    simp only [List.length_append, List.length_singleton, List.map_append, List.map_cons, List.map_nil]
                    exact this
                case measure =>
                  show d6.half - (intOf (.int .i64 (wrap64 ((k : Int) + 1)))).toNat < d6.half - (intOf (.int .i64 (k : Int))).toNat
                  rw [HWK.out]
                  simp only [intOf, Int.toNat_natCast]
                  exact Nat.sub_lt_sub_left HLT.out (Nat.lt_succ_self k)
              · have HEQ := Lib.hid (show recsOf d6 ar ge = col by rw [HREC.out, recsFrom_none _ _ _ _ _ (by rw [HGD.out]; simp [hse]), List.append_nil])
                have hg1 : (((genOf x : Nat) : Int) != (ge : Int)) = false := by simp [hge]
                have hs1 : (((seqOf x : Nat) : Int) != (k : Int)) = true := by simp; omega
                clear hge hse
                go_wp2_with fail
                try (refine ⟨⟨q2, k1, q3⟩, ?_⟩)
                refine Ord.wpOrd_last [_, _, _, _, _, _, _, _, _] rfl ?_
                simp only [List.getElem_toArray, List.getElem_cons_zero, List.getElem_cons_succ]
                repeat first | go_big_quiet_skip | (go_big_quiet_want; go_big_quiet_op; first | go_big_quiet_on | (apply Exists.intro; refine ⟨fun _ => ?_, ?_⟩; (focus (intros; first | rfl | (simp only [*]; rfl) | (simp [*]; rfl))); go_big_quiet_on))
                refine wpQuiet_nil ?_
                clear q2 q3 k0 k3 k4
                -- HEQ: recsOf d6 ar ge = col; HLX : Blk .., HOWNX, HDX, HMX in the world at hand
                go_wp2
                go_ret2
                have hL : openL d = { area := ar, gen := ge, recs := col, broken := false } := by
                  unfold openL
                  rw [← HV.out.2.1, ← HV.out.2.2.1, ← HV.out.2.2.2.1, HEQ.out]
                refine ⟨HM6.out.transNew HMX.out (by intro x hx; left; simp at hx; rw [hx]; exact HRWN.out.2), .inl ⟨HV.out.2.2.2.2, rw_, rfl, HRWN.out.2, ?_, ?_⟩⟩
                · rw [hL]
                  refine ⟨_, HLX.out, own_strs HOWNX.out ?_⟩
                  intro x hx
                  have h1 := HL6.out.lt
                  have h2 := HD6.out.lts
                  simp only [List.cons_append, List.nil_append, List.mem_cons] at hx
                  rcases hx with e | e | e | e
                  · rw [e]; exact h1
                  · rw [e]; exact h2.1
                  · rw [e]; exact h2.2
                  · exact Nat.lt_of_lt_of_le (HAV.out x e) HM6.out.size
                · rw [← HV.out.2.2.2.1]; exact HDX.out
            · have HEQ := Lib.hid (show recsOf d6 ar ge = col by rw [HREC.out, recsFrom_none _ _ _ _ _ (by rw [HGD.out]; simp [hge]), List.append_nil])
              have hg1 : (((genOf x : Nat) : Int) != (ge : Int)) = true := by simp; omega
              clear hge
              go_wp2_with fail
              try (refine ⟨⟨q2, k1, q3⟩, ?_⟩)
              refine Ord.wpOrd_last [_, _, _, _, _, _, _, _, _] rfl ?_
              simp only [List.getElem_toArray, List.getElem_cons_zero, List.getElem_cons_succ]
              repeat first | go_big_quiet_skip | (go_big_quiet_want; go_big_quiet_op; first | go_big_quiet_on | (apply Exists.intro; refine ⟨fun _ => ?_, ?_⟩; (focus (intros; first | rfl | (simp only [*]; rfl) | (simp [*]; rfl))); go_big_quiet_on))
              refine wpQuiet_nil ?_
              clear q2 q3 k0 k3 k4
              -- HEQ: recsOf d6 ar ge = col; HLX : Blk .., HOWNX, HDX, HMX in the world at hand
              go_wp2
              go_ret2
              have hL : openL d = { area := ar, gen := ge, recs := col, broken := false } := by
                unfold openL
                rw [← HV.out.2.1, ← HV.out.2.2.1, ← HV.out.2.2.2.1, HEQ.out]
              refine ⟨HM6.out.transNew HMX.out (by intro x hx; left; simp at hx; rw [hx]; exact HRWN.out.2), .inl ⟨HV.out.2.2.2.2, rw_, rfl, HRWN.out.2, ?_, ?_⟩⟩
              · rw [hL]
                refine ⟨_, HLX.out, own_strs HOWNX.out ?_⟩
                intro x hx
                have h1 := HL6.out.lt
                have h2 := HD6.out.lts
                simp only [List.cons_append, List.nil_append, List.mem_cons] at hx
                rcases hx with e | e | e | e
                · rw [e]; exact h1
                · rw [e]; exact h2.1
                · rw [e]; exact h2.2
                · exact Nat.lt_of_lt_of_le (HAV.out x e) HM6.out.size
              · rw [← HV.out.2.2.2.1]; exact HDX.out
        · have hlti : (d6.half : Int) ≤ (k : Int) := by omega
          have HEQ := Lib.hid (show recsOf d6 ar ge = col by rw [HREC.out, show d6.half - k = 0 by omega]; simp [recsFrom])
          clear hlt hdr k0 k1 k2 k3 k4 kz
          have HLX := HLR
          have HDX := HDR
          have HMX := HMR
          have HOWNX := HOWN
          -- HEQ: recsOf d6 ar ge = col; HLX : Blk .., HOWNX, HDX, HMX in the world at hand
          go_wp2
          go_ret2
          have hL : openL d = { area := ar, gen := ge, recs := col, broken := false } := by
            unfold openL
            rw [← HV.out.2.1, ← HV.out.2.2.1, ← HV.out.2.2.2.1, HEQ.out]
          refine ⟨HM6.out.transNew HMX.out (by intro x hx; left; simp at hx; rw [hx]; exact HRWN.out.2), .inl ⟨HV.out.2.2.2.2, rw_, rfl, HRWN.out.2, ?_, ?_⟩⟩
          · rw [hL]
            refine ⟨_, HLX.out, own_strs HOWNX.out ?_⟩
            intro x hx
            have h1 := HL6.out.lt
            have h2 := HD6.out.lts
            simp only [List.cons_append, List.nil_append, List.mem_cons] at hx
            rcases hx with e | e | e | e
            · rw [e]; exact h1
            · rw [e]; exact h2.1
            · rw [e]; exact h2.2
            · exact Nat.lt_of_lt_of_le (HAV.out x e) HM6.out.size
          · rw [← HV.out.2.2.2.1]; exact HDX.out
    · have hle : (headN (opn1 d) 1 : Int) ≤ (headN (opn1 d) 0 : Int) := by omega
      have HA := Lib.hid (show areaN (opn1 d) = 0 by unfold areaN; rw [if_neg hlt])
      have HG := Lib.hid (show genN (opn1 d) = headN (opn1 d) 0 by unfold genN; rw [if_neg hlt])
      have hled : decide (headN (opn1 d) 0 < headN (opn1 d) 1) = false := decide_eq_false hlt
      clear hlt
      obtain ⟨gn, cn, hn6, _⟩ := HD5.out.now_at
      have hne1 : ¬ rd = rw_ := fun e => HD5.out.out.1 (by rw [e]; simp)
      have hne2 : ¬ rw_ = rd := fun e => hne1 e.symm
      by_cases hz0 : headN (opn1 d) 0 = 0
      · have HG2 := Lib.hid (show genN (opn1 d) = 0 by rw [HG.out, hz0])
        have HZ0 := Lib.hid hz0
        have hz : (((headN (opn1 d) 0 : Nat) : Int) == 0) = true := by rw [hz0]; rfl
        clear hz0 hle
        have hl6 : Blk ((w5.setCell ⟨rw_, 2, none⟩ (.int .i64 (headN (opn1 d) 0))).setCell ⟨rw_, 2, none⟩ (.int .i64 1)) rw_ [ptr rd, .int .i64 0, .int .i64 1, .slice none 0 0, .bool false] 56 := (HB5.out.set 2 (.int .i64 (headN (opn1 d) 0))).set 2 (.int .i64 1)
        have hm6 : Mod [rw_] w5 ((w5.setCell ⟨rw_, 2, none⟩ (.int .i64 (headN (opn1 d) 0))).setCell ⟨rw_, 2, none⟩ (.int .i64 1)) := ((Mod.refl [rw_] _).setCell (p := ⟨rw_, 2, none⟩) (by simp) _).setCell (p := ⟨rw_, 2, none⟩) (by simp) _
        have hd6 := HD5.out.mod hm6 (by simp)
        have hmm6 := HM5.out.transNew hm6 (by intro x hx; left; simp at hx; rw [hx]; exact HRWN.out.2)
        have HAV0 := Lib.hid (show ∀ x ∈ rw_ :: av, x < ((w5.setCell ⟨rw_, 2, none⟩ (.int .i64 (headN (opn1 d) 0))).setCell ⟨rw_, 2, none⟩ (.int .i64 1)).heap.size from by
          intro x hx
          rcases List.mem_cons.1 hx with e | e
          · rw [e]; exact hl6.lt
          · exact Nat.lt_of_lt_of_le (HAV.out x e) hmm6.size)
        have HL0 := Lib.hid hl6
        have HM0 := Lib.hid hmm6
        have HD0 := Lib.hid hd6
        clear hl6 hm6 hd6 hmm6 hn6
        go_wp2_with fail
        (with_reducible refine (rlay_first rw_ rd rf (opn1 d) _ _ _ _ _ HD0.out HAV0.out HL0.out (List.mem_cons_self) HO1.out).mono ?_); rintro _ w6 ⟨rfl, hd6, hl6, hm6⟩
        have HMM := Lib.hid (HM0.out.transNew hm6 (by intro x hx; simp at hx; rcases hx with e | e | e; right; simp [e]; right; simp [e]; left; rw [e]; exact HRWN.out.2))
        have HD6 := Lib.hid hd6
        obtain ⟨gn, cn, hn6, _⟩ := hd6.now_at
        clear hm6 hd6
        cases hok : layOk (opn1 d) 0 1 0 headS
        · have HOK := Lib.hid hok
          clear hok hl6
          go_wp2
          go_ret2
          refine ⟨HMM.out, .inr ⟨?_, rfl, ?_⟩⟩
          · unfold openOk; rw [HOPD.out, if_neg (by simp), if_pos HG2.out]; exact HOK.out
          · unfold openD; rw [HOPD.out, if_neg (by simp), if_pos HG2.out]
            exact HD6.out.avoid (fun x hx => .inl (List.mem_cons_of_mem _ hx))
        · have HOK := Lib.hid hok
          rw [hok] at hl6
          have hlen6 : (lay (opn1 d) 0 1 0 headS).last.length = (opn1 d).last.length := lay_length _ _ _ _ _
          clear hok
          obtain ⟨ar, har⟩ : ∃ ar : Nat, ar = 0 := ⟨_, rfl⟩
          obtain ⟨ge, hge⟩ : ∃ ge : Nat, ge = 1 := ⟨_, rfl⟩
          obtain ⟨d6, hd6e⟩ : ∃ d6, d6 = lay (opn1 d) 0 1 0 headS := ⟨_, rfl⟩
          have HL6 := Lib.hid (show Blk w6 rw_ [ptr rd, .int .i64 ar, .int .i64 ge, .slice none 0 0, .bool false] 56 by rw [har, hge]; exact hl6)
          have hd6' := HD6.out
          rw [← hd6e] at hd6' hn6
          have HM6 := HMM
          have HV := Lib.hid (show ar ≤ 1 ∧ ar = areaN (opn1 d) ∧ ge = openGen d ∧ d6 = openD d ∧ openOk d = true from ⟨by omega, by rw [har, HA.out], by rw [hge]; unfold openGen; rw [if_pos HG2.out], by rw [hd6e]; unfold openD; rw [HOPD.out, if_neg (by simp), if_pos HG2.out], by unfold openOk; rw [HOPD.out, if_neg (by simp), if_pos HG2.out]; exact HOK.out⟩)
          have HD6 := Lib.hid hd6'
          clear hl6 har hge hd6e kz k2 hd6' hled hz hlen6 k0 k1 k3 k4
          go_wp2_with fail
          clear hn6 hne1 hne2
          -- w6: HL6 : Blk w6 rw_ [.., ar, ge, nil, false], HD6 : DiskR w6 .. d6 (rw_ :: av), HM6 : Mod [rd, rf] w w6, HV, HRWN : (w.heap.size ≤ w.heap.size ..)
          have HH := Lib.hid (half_two HD6.out.fits)
          have hwh : wrap64 ((d6.last.length : Int) / 2) = (d6.half : Int) := by
            have := HD6.out.fits.n2
            rw [IntWalk.wrap64_in _ (by omega)]; unfold D.half; omega
          rw [hwh]
          clear hwh
          go_loopw [8] (fun i wr => ∃ (k : Nat) (col : List ByteArray) (v : Value), i = .int .i64 k ∧ col.length + 1 = k ∧ k ≤ d6.half ∧ recsOf d6 ar ge = col ++ recsFrom d6 ar ge k (d6.half - k) ∧ Blk wr rw_ [ptr rd, .int .i64 ar, .int .i64 ge, v, .bool false] 56 ∧ wr.ownsRow w6.heap.size 9 1 v col.length (col.map Value.string) ∧ Mod [rw_] w6 wr) (fun i _ => d6.half - (intOf i).toNat)
          case atStart => exact ⟨1, [], .slice none 0 0, rfl, rfl, by have := HH.out; omega, rfl, HL6.out, World.ownsRow_nil _ _ _ _, Mod.refl _ _⟩
          case round =>
            obtain ⟨k, col, v, rfl, hk1, hk2, hrec, hb, hown, hmr⟩ := hrel
            obtain ⟨sa, sc, hv⟩ := own_slice hown
            obtain rfl := hv
            obtain ⟨k0, k1, k2, k3, k4, kz⟩ := hb.cells5
            have HREC := Lib.hid hrec
            have HOWN := Lib.hid hown
            have HMR := Lib.hid hmr
            have HLR := Lib.hid hb
            have hdr := HD6.out.mod hmr (by simp)
            have HDR := Lib.hid hdr
            have HK := Lib.hid (And.intro hk1 hk2)
            clear hrec hown hmr hb hk1 hk2
            by_cases hlt : k < d6.half
            · have hlti : (k : Int) < (d6.half : Int) := by omega
              obtain ⟨gn, cn, hn6, hnc⟩ := hdr.now_at
              have hat := at_lt (d := d6) (area := ar) (seq := k) HD6.out.fits HV.out.1 hlt
              obtain ⟨pos, hpos⟩ : ∃ pos, pos = ar * d6.half + k := ⟨_, rfl⟩
              have hpl : (pos : Int) < (d6.last.length : Int) := by omega
              have hw1 : wrap64 (wrap64 ((ar : Int) * (d6.half : Int)) + (k : Int)) = (pos : Int) := by
                have := HD6.out.fits.n2
                rw [IntWalk.wrap64_in ((ar : Int) * (d6.half : Int)) (by rw [← Int.natCast_mul]; omega), IntWalk.wrap64_in _ (by rw [← Int.natCast_mul]; omega)]
                rw [hpos, Int.natCast_add, Int.natCast_mul]
              obtain ⟨x, hx⟩ : ∃ x, x = sect d6.now (ar * d6.half + k) := ⟨_, rfl⟩
              have c3 := hnc pos (by omega)
              rw [hpos, ← hx, ← hpos] at c3
              have HLT := Lib.hid hlt
              have HWK := Lib.hid (show wrap64 ((k : Int) + 1) = ((k + 1 : Nat) : Int) by have := HH.out; rw [IntWalk.wrap64_in _ (by omega)]; omega)
              have HGD := Lib.hid (show good d6 ar ge k = (okB x && (genOf x == ge && seqOf x == k)) by unfold good; rw [hx])
              have HPY := Lib.hid (show recPay d6 ar k = payOf x by unfold recPay; rw [hx])
              clear hnc hat hpos hx hlt k0 hdr
              go_wp2_with fail
              refine Ord.wp_region_ord (fun w' => w'.cell? ⟨rd, 2, none⟩ = some (.slice (some ⟨gn, 0, none⟩) d6.last.length cn) ∧ w'.cell? ⟨rw_, 1, none⟩ = some (.int .i64 ar) ∧ w'.cell? ⟨gn, pos, none⟩ = some (.string x)) [([0, 1, 2, 3, 4, 5, 6, 7, 8, 9, 10, 11, 12, 13], 14)] [15, 16, 17, 18, 19, 20, 21, 22, 23] (by kernel_rfl) (by kernel_rfl) ⟨hn6, k1, c3⟩ ?_
              refine Ord.wpOrd_seg [_, _, _, _, _, _, _, _, _, _, _, _, _, _] _ rfl rfl ?_
              simp only [List.getElem_toArray, List.getElem_cons_zero, List.getElem_cons_succ]
              repeat first | go_big_quiet_skip | (go_big_quiet_want; go_big_quiet_op; first | go_big_quiet_on | (apply Exists.intro; refine ⟨fun _ => ?_, ?_⟩; (focus (intros; first | rfl | (simp only [*]; rfl) | (simp [*]; rfl))); go_big_quiet_on))
              refine wpQuiet_nil ?_
              go_wp2_with fail
              (with_reducible refine (rget_any x _).mono ?_); rintro _ w8 ⟨rfl, hb8⟩
              have hm8 := (((Mod.refl [] wr).drew).then hb8)
              have HMX := Lib.hid (HMR.out.trans (hm8.mono (by simp)))
              have hlx := HLR.out.mod hm8 (by simp)
              have HLX := Lib.hid hlx
              have HDX := Lib.hid (HDR.out.same hm8)
              have HOWNX := Lib.hid (own_mod HOWN.out hm8 (by simp))
              have q2 := hm8.cell hn6 (by simp)
              have q3 := hm8.cell c3 (by simp)
              obtain ⟨k0, k1, k2, k3, k4, kz⟩ := hlx.cells5
              have hltx : rw_ < w8.heap.size := hlx.lt
              clear hb8 hm8 hlx hn6 c3 hw1 hpl
              cases hok : okB x
              · have HEQ := Lib.hid (show recsOf d6 ar ge = col by rw [HREC.out, recsFrom_none _ _ _ _ _ (by rw [HGD.out, hok]; rfl), List.append_nil])
                simp only [genI, seqI, payB, hok]
                clear hok
                go_wp2_with fail
                try (refine ⟨⟨q2, k1, q3⟩, ?_⟩)
                refine Ord.wpOrd_last [_, _, _, _, _, _, _, _, _] rfl ?_
                simp only [List.getElem_toArray, List.getElem_cons_zero, List.getElem_cons_succ]
                repeat first | go_big_quiet_skip | (go_big_quiet_want; go_big_quiet_op; first | go_big_quiet_on | (apply Exists.intro; refine ⟨fun _ => ?_, ?_⟩; (focus (intros; first | rfl | (simp only [*]; rfl) | (simp [*]; rfl))); go_big_quiet_on))
                refine wpQuiet_nil ?_
                clear q2 q3 k0 k3 k4
                -- HEQ: recsOf d6 ar ge = col; HLX : Blk .., HOWNX, HDX, HMX in the world at hand
                go_wp2
                go_ret2
                have hL : openL d = { area := ar, gen := ge, recs := col, broken := false } := by
                  unfold openL
                  rw [← HV.out.2.1, ← HV.out.2.2.1, ← HV.out.2.2.2.1, HEQ.out]
                refine ⟨HM6.out.transNew HMX.out (by intro x hx; left; simp at hx; rw [hx]; exact HRWN.out.2), .inl ⟨HV.out.2.2.2.2, rw_, rfl, HRWN.out.2, ?_, ?_⟩⟩
                · rw [hL]
                  refine ⟨_, HLX.out, own_strs HOWNX.out ?_⟩
                  intro x hx
                  have h1 := HL6.out.lt
                  have h2 := HD6.out.lts
                  simp only [List.cons_append, List.nil_append, List.mem_cons] at hx
                  rcases hx with e | e | e | e
                  · rw [e]; exact h1
                  · rw [e]; exact h2.1
                  · rw [e]; exact h2.2
                  · exact Nat.lt_of_lt_of_le (HAV.out x e) HM6.out.size
                · rw [← HV.out.2.2.2.1]; exact HDX.out
              · have HOK := Lib.hid hok
                simp only [genI, seqI, payB, hok]
                clear hok
                by_cases hge : genOf x = ge
                · by_cases hse : seqOf x = k
                  · have hg1 : (((genOf x : Nat) : Int) != (ge : Int)) = false := by simp [hge]
                    have hs1 : (((seqOf x : Nat) : Int) != (k : Int)) = false := by simp [hse]
                    have HGOOD := Lib.hid (show good d6 ar ge k = true by rw [HGD.out, HOK.out, hge, hse]; simp)
                    clear hge hse hlti
                    have hm := Lib.hid (show col.length + 1 ≤ maxLen by have := HK.out; have := HH.out; unfold maxLen; omega)
                    have HCL := Lib.hid (show (col.length + 1) * 16 ≤ 140737488355328 by have := HK.out; have := HH.out; omega)
                    obtain ⟨i0, hinf, hz0, hz1, hz2⟩ := info_parts info_str
                    have HI0 := Lib.hid (And.intro hinf (And.intro hz0 (And.intro hz1 hz2)))
                    clear hinf hz0 hz1 hz2
                    have HWS := Lib.hid HMX.out.size
                    go_wp2_with fail
                    try (refine ⟨⟨q2, k1, q3⟩, ?_⟩)
                    refine Ord.wpOrd_last [_, _, _, _, _, _, _, _, _] rfl ?_
                    simp only [List.getElem_toArray, List.getElem_cons_zero, List.getElem_cons_succ]
                    repeat first | go_big_quiet_skip | (go_big_quiet_want; go_big_quiet_op; first | go_big_quiet_on | (apply Exists.intro; refine ⟨fun _ => ?_, ?_⟩; (focus (intros; first | rfl | (simp only [*]; rfl) | (simp [*]; rfl))); go_big_quiet_on))
                    refine wpQuiet_nil ?_
                    clear q2 q3
                    go_wp2_with (at_builtin; refine wpList_append_own _ rfl (.tmp 107) (.tmp 109) 31 rfl w6.heap.size 9 i0 (.string ⟨#[]⟩) 1 16 Try.underlying31 HI0.out.1 HI0.out.2.1 HI0.out.2.2.1 HI0.out.2.2.2 rfl (by decide) _ col.length (col.map Value.string) rfl (HOWNX.out.alloc _) ⟨w8.heap.size, 0, none⟩ 1 1 [.string (payOf x)] rfl rfl (one_new_at _ _ _ _ (by simp)) (by intro u hu; simp at hu; subst hu; rfl) hm.out HCL.out (by have := HWS.out; simp; omega) ?_)
                    intro v' w9 hown2 hg9 _
                    have HM9 := Lib.hid ((HMX.out.alloc (.cells #[.string (payOf x)] 9)).grown hg9 (own_block HOWNX.out))
                    have hb9 : Blk w9 rw_ [ptr rd, .int .i64 ar, .int .i64 ge, .slice sa col.length sc, .bool false] 56 := by
                      have hbb := HLX.out.alloc (.cells #[.string (payOf x)] 9)
                      refine (show w9.heap[rw_]? = _ from ?_)
                      rw [hg9.block rw_ hbb.lt (fun e => by have := own_block HOWNX.out rw_ e.symm; have := HL6.out.lt; omega)]
                      exact hbb
                    obtain ⟨sa2, sc2, hv2⟩ := own_slice hown2
                    obtain rfl := hv2
                    obtain ⟨k0, k1, k2, k3, k4, kz⟩ := hb9.cells5
                    have HL9 := Lib.hid hb9
                    have HO9 := Lib.hid hown2
                    clear hown2 hg9 hb9 k0 k1 k2 k4
                    go_wp2
                    go_roundw
                    case rel =>
                      refine ⟨k + 1, col ++ [payOf x], .slice sa2 (col.length + 1) sc2, by rw [HWK.out], by have := HK.out; simp; omega, HLT.out, ?_, HL9.out.set 3 _, ?_, HM9.out.setCell (by simp) _⟩
                      · rw [HREC.out, show d6.half - k = (d6.half - (k + 1)) + 1 by have := HLT.out; omega, recsFrom_good _ _ _ _ _ HGOOD.out, HPY.out]
                        simp
                      · have := ownsRow_setCell_below HO9.out (a := ⟨rw_, 3, none⟩) (by have := HL6.out.lt; exact this) (.slice sa2 (col.length + 1) sc2)
                        simp only [List.length_append, List.length_singleton, List.map_append, List.map_cons, List.map_nil]
                        exact this
                    case measure =>
                      show d6.half - (intOf (.int .i64 (wrap64 ((k : Int) + 1)))).toNat < d6.half - (intOf (.int .i64 (k : Int))).toNat
                      rw [HWK.out]
                      simp only [intOf, Int.toNat_natCast]
                      exact Nat.sub_lt_sub_left HLT.out (Nat.lt_succ_self k)
                  · have HEQ := Lib.hid (show recsOf d6 ar ge = col by rw [HREC.out, recsFrom_none _ _ _ _ _ (by rw [HGD.out]; simp [hse]), List.append_nil])
                    have hg1 : (((genOf x : Nat) : Int) != (ge : Int)) = false := by simp [hge]
                    have hs1 : (((seqOf x : Nat) : Int) != (k : Int)) = true := by simp; omega
                    clear hge hse
                    go_wp2_with fail
                    try (refine ⟨⟨q2, k1, q3⟩, ?_⟩)
                    refine Ord.wpOrd_last [_, _, _, _, _, _, _, _, _] rfl ?_
                    simp only [List.getElem_toArray, List.getElem_cons_zero, List.getElem_cons_succ]
                    repeat first | go_big_quiet_skip | (go_big_quiet_want; go_big_quiet_op; first | go_big_quiet_on | (apply Exists.intro; refine ⟨fun _ => ?_, ?_⟩; (focus (intros; first | rfl | (simp only [*]; rfl) | (simp [*]; rfl))); go_big_quiet_on))
                    refine wpQuiet_nil ?_
                    clear q2 q3 k0 k3 k4
                    -- HEQ: recsOf d6 ar ge = col; HLX : Blk .., HOWNX, HDX, HMX in the world at hand
                    go_wp2
                    go_ret2
                    have hL : openL d = { area := ar, gen := ge, recs := col, broken := false } := by
                      unfold openL
                      rw [← HV.out.2.1, ← HV.out.2.2.1, ← HV.out.2.2.2.1, HEQ.out]
                    refine ⟨HM6.out.transNew HMX.out (by intro x hx; left; simp at hx; rw [hx]; exact HRWN.out.2), .inl ⟨HV.out.2.2.2.2, rw_, rfl, HRWN.out.2, ?_, ?_⟩⟩
                    · rw [hL]
                      refine ⟨_, HLX.out, own_strs HOWNX.out ?_⟩
                      intro x hx
                      have h1 := HL6.out.lt
                      have h2 := HD6.out.lts
                      simp only [List.cons_append, List.nil_append, List.mem_cons] at hx
                      rcases hx with e | e | e | e
                      · rw [e]; exact h1
                      · rw [e]; exact h2.1
                      · rw [e]; exact h2.2
                      · exact Nat.lt_of_lt_of_le (HAV.out x e) HM6.out.size
                    · rw [← HV.out.2.2.2.1]; exact HDX.out
                · have HEQ := Lib.hid (show recsOf d6 ar ge = col by rw [HREC.out, recsFrom_none _ _ _ _ _ (by rw [HGD.out]; simp [hge]), List.append_nil])
                  have hg1 : (((genOf x : Nat) : Int) != (ge : Int)) = true := by simp; omega
                  clear hge
                  go_wp2_with fail
                  try (refine ⟨⟨q2, k1, q3⟩, ?_⟩)
                  refine Ord.wpOrd_last [_, _, _, _, _, _, _, _, _] rfl ?_
                  simp only [List.getElem_toArray, List.getElem_cons_zero, List.getElem_cons_succ]
                  repeat first | go_big_quiet_skip | (go_big_quiet_want; go_big_quiet_op; first | go_big_quiet_on | (apply Exists.intro; refine ⟨fun _ => ?_, ?_⟩; (focus (intros; first | rfl | (simp only [*]; rfl) | (simp [*]; rfl))); go_big_quiet_on))
                  refine wpQuiet_nil ?_
                  clear q2 q3 k0 k3 k4
                  -- HEQ: recsOf d6 ar ge = col; HLX : Blk .., HOWNX, HDX, HMX in the world at hand
                  go_wp2
                  go_ret2
                  have hL : openL d = { area := ar, gen := ge, recs := col, broken := false } := by
                    unfold openL
                    rw [← HV.out.2.1, ← HV.out.2.2.1, ← HV.out.2.2.2.1, HEQ.out]
                  refine ⟨HM6.out.transNew HMX.out (by intro x hx; left; simp at hx; rw [hx]; exact HRWN.out.2), .inl ⟨HV.out.2.2.2.2, rw_, rfl, HRWN.out.2, ?_, ?_⟩⟩
                  · rw [hL]
                    refine ⟨_, HLX.out, own_strs HOWNX.out ?_⟩
                    intro x hx
                    have h1 := HL6.out.lt
                    have h2 := HD6.out.lts
                    simp only [List.cons_append, List.nil_append, List.mem_cons] at hx
                    rcases hx with e | e | e | e
                    · rw [e]; exact h1
                    · rw [e]; exact h2.1
                    · rw [e]; exact h2.2
                    · exact Nat.lt_of_lt_of_le (HAV.out x e) HM6.out.size
                  · rw [← HV.out.2.2.2.1]; exact HDX.out
            · have hlti : (d6.half : Int) ≤ (k : Int) := by omega
              have HEQ := Lib.hid (show recsOf d6 ar ge = col by rw [HREC.out, show d6.half - k = 0 by omega]; simp [recsFrom])
              clear hlt hdr k0 k1 k2 k3 k4 kz
              have HLX := HLR
              have HDX := HDR
              have HMX := HMR
              have HOWNX := HOWN
              -- HEQ: recsOf d6 ar ge = col; HLX : Blk .., HOWNX, HDX, HMX in the world at hand
              go_wp2
              go_ret2
              have hL : openL d = { area := ar, gen := ge, recs := col, broken := false } := by
                unfold openL
                rw [← HV.out.2.1, ← HV.out.2.2.1, ← HV.out.2.2.2.1, HEQ.out]
              refine ⟨HM6.out.transNew HMX.out (by intro x hx; left; simp at hx; rw [hx]; exact HRWN.out.2), .inl ⟨HV.out.2.2.2.2, rw_, rfl, HRWN.out.2, ?_, ?_⟩⟩
              · rw [hL]
                refine ⟨_, HLX.out, own_strs HOWNX.out ?_⟩
                intro x hx
                have h1 := HL6.out.lt
                have h2 := HD6.out.lts
                simp only [List.cons_append, List.nil_append, List.mem_cons] at hx
                rcases hx with e | e | e | e
                · rw [e]; exact h1
                · rw [e]; exact h2.1
                · rw [e]; exact h2.2
                · exact Nat.lt_of_lt_of_le (HAV.out x e) HM6.out.size
              · rw [← HV.out.2.2.2.1]; exact HDX.out
      · have HG2 := Lib.hid (show genN (opn1 d) ≠ 0 by rw [HG.out]; exact hz0)
        have hz : (((headN (opn1 d) 0 : Nat) : Int) == 0) = false := by simp; exact hz0
        clear hz0 hle
        go_wp2_with fail
        clear hn6 hne1 hne2
        obtain ⟨w6, hw6⟩ : ∃ w6, w6 = w5.setCell ⟨rw_, 2, none⟩ (.int .i64 (headN (opn1 d) 0)) := ⟨_, rfl⟩
        have hm6 : Mod [rw_] w5 w6 := by rw [hw6]; exact (Mod.refl [rw_] w5).setCell (p := ⟨rw_, 2, none⟩) (by simp) _
        have hl6 : Blk w6 rw_ [ptr rd, .int .i64 0, .int .i64 (headN (opn1 d) 0), .slice none 0 0, .bool false] 56 := by rw [hw6]; exact HB5.out.set 2 (.int .i64 (headN (opn1 d) 0))
        rw [← hw6]
        obtain ⟨ar, har⟩ : ∃ ar : Nat, ar = 0 := ⟨_, rfl⟩
        obtain ⟨ge, hge⟩ : ∃ ge : Nat, ge = headN (opn1 d) 0 := ⟨_, rfl⟩
        obtain ⟨d6, hd6e⟩ : ∃ d6, d6 = opn1 d := ⟨_, rfl⟩
        have HL6 := Lib.hid (show Blk w6 rw_ [ptr rd, .int .i64 ar, .int .i64 ge, .slice none 0 0, .bool false] 56 by rw [har, hge]; exact hl6)
        rw [← hd6e]
        have HD6 := Lib.hid (show DiskR w6 rd rf d6 (rw_ :: av) by rw [hd6e]; exact HD5.out.mod hm6 (by simp))
        have HM6 := Lib.hid (HM5.out.transNew hm6 (by intro x hx; left; simp at hx; rw [hx]; exact HRWN.out.2))
        have HV := Lib.hid (show ar ≤ 1 ∧ ar = areaN (opn1 d) ∧ ge = openGen d ∧ d6 = openD d ∧ openOk d = true from ⟨by omega, by rw [har, HA.out], by rw [hge]; unfold openGen; rw [if_neg HG2.out, HG.out], by rw [hd6e]; unfold openD; rw [HOPD.out, if_neg (by simp), if_neg HG2.out], by unfold openOk; rw [HOPD.out, if_neg (by simp), if_neg HG2.out]⟩)
        clear hl6 hm6 hw6 har hge hd6e k0 k1 k2 k3 k4 kz hled hz
        -- w6: HL6 : Blk w6 rw_ [.., ar, ge, nil, false], HD6 : DiskR w6 .. d6 (rw_ :: av), HM6 : Mod [rd, rf] w w6, HV, HRWN : (w.heap.size ≤ w.heap.size ..)
        have HH := Lib.hid (half_two HD6.out.fits)
        have hwh : wrap64 ((d6.last.length : Int) / 2) = (d6.half : Int) := by
          have := HD6.out.fits.n2
          rw [IntWalk.wrap64_in _ (by omega)]; unfold D.half; omega
        rw [hwh]
        clear hwh
        go_loopw [8] (fun i wr => ∃ (k : Nat) (col : List ByteArray) (v : Value), i = .int .i64 k ∧ col.length + 1 = k ∧ k ≤ d6.half ∧ recsOf d6 ar ge = col ++ recsFrom d6 ar ge k (d6.half - k) ∧ Blk wr rw_ [ptr rd, .int .i64 ar, .int .i64 ge, v, .bool false] 56 ∧ wr.ownsRow w6.heap.size 9 1 v col.length (col.map Value.string) ∧ Mod [rw_] w6 wr) (fun i _ => d6.half - (intOf i).toNat)
        case atStart => exact ⟨1, [], .slice none 0 0, rfl, rfl, by have := HH.out; omega, rfl, HL6.out, World.ownsRow_nil _ _ _ _, Mod.refl _ _⟩
        case round =>
          obtain ⟨k, col, v, rfl, hk1, hk2, hrec, hb, hown, hmr⟩ := hrel
          obtain ⟨sa, sc, hv⟩ := own_slice hown
          obtain rfl := hv
          obtain ⟨k0, k1, k2, k3, k4, kz⟩ := hb.cells5
          have HREC := Lib.hid hrec
          have HOWN := Lib.hid hown
          have HMR := Lib.hid hmr
          have HLR := Lib.hid hb
          have hdr := HD6.out.mod hmr (by simp)
          have HDR := Lib.hid hdr
          have HK := Lib.hid (And.intro hk1 hk2)
          clear hrec hown hmr hb hk1 hk2
          by_cases hlt : k < d6.half
          · have hlti : (k : Int) < (d6.half : Int) := by omega
            obtain ⟨gn, cn, hn6, hnc⟩ := hdr.now_at
            have hat := at_lt (d := d6) (area := ar) (seq := k) HD6.out.fits HV.out.1 hlt
            obtain ⟨pos, hpos⟩ : ∃ pos, pos = ar * d6.half + k := ⟨_, rfl⟩
            have hpl : (pos : Int) < (d6.last.length : Int) := by omega
            have hw1 : wrap64 (wrap64 ((ar : Int) * (d6.half : Int)) + (k : Int)) = (pos : Int) := by
              have := HD6.out.fits.n2
              rw [IntWalk.wrap64_in ((ar : Int) * (d6.half : Int)) (by rw [← Int.natCast_mul]; omega), IntWalk.wrap64_in _ (by rw [← Int.natCast_mul]; omega)]
              rw [hpos, Int.natCast_add, Int.natCast_mul]
            obtain ⟨x, hx⟩ : ∃ x, x = sect d6.now (ar * d6.half + k) := ⟨_, rfl⟩
            have c3 := hnc pos (by omega)
            rw [hpos, ← hx, ← hpos] at c3
            have HLT := Lib.hid hlt
            have HWK := Lib.hid (show wrap64 ((k : Int) + 1) = ((k + 1 : Nat) : Int) by have := HH.out; rw [IntWalk.wrap64_in _ (by omega)]; omega)
            have HGD := Lib.hid (show good d6 ar ge k = (okB x && (genOf x == ge && seqOf x == k)) by unfold good; rw [hx])
            have HPY := Lib.hid (show recPay d6 ar k = payOf x by unfold recPay; rw [hx])
            clear hnc hat hpos hx hlt k0 hdr
            go_wp2_with fail
            refine Ord.wp_region_ord (fun w' => w'.cell? ⟨rd, 2, none⟩ = some (.slice (some ⟨gn, 0, none⟩) d6.last.length cn) ∧ w'.cell? ⟨rw_, 1, none⟩ = some (.int .i64 ar) ∧ w'.cell? ⟨gn, pos, none⟩ = some (.string x)) [([0, 1, 2, 3, 4, 5, 6, 7, 8, 9, 10, 11, 12, 13], 14)] [15, 16, 17, 18, 19, 20, 21, 22, 23] (by kernel_rfl) (by kernel_rfl) ⟨hn6, k1, c3⟩ ?_
            refine Ord.wpOrd_seg [_, _, _, _, _, _, _, _, _, _, _, _, _, _] _ rfl rfl ?_
            simp only [List.getElem_toArray, List.getElem_cons_zero, List.getElem_cons_succ]
            repeat first | go_big_quiet_skip | (go_big_quiet_want; go_big_quiet_op; first | go_big_quiet_on | (apply Exists.intro; refine ⟨fun _ => ?_, ?_⟩; (focus (intros; first | rfl | (simp only [*]; rfl) | (simp [*]; rfl))); go_big_quiet_on))
            refine wpQuiet_nil ?_
            go_wp2_with fail
            (with_reducible refine (rget_any x _).mono ?_); rintro _ w8 ⟨rfl, hb8⟩
            have hm8 := (((Mod.refl [] wr).drew).then hb8)
            have HMX := Lib.hid (HMR.out.trans (hm8.mono (by simp)))
            have hlx := HLR.out.mod hm8 (by simp)
            have HLX := Lib.hid hlx
            have HDX := Lib.hid (HDR.out.same hm8)
            have HOWNX := Lib.hid (own_mod HOWN.out hm8 (by simp))
            have q2 := hm8.cell hn6 (by simp)
            have q3 := hm8.cell c3 (by simp)
            obtain ⟨k0, k1, k2, k3, k4, kz⟩ := hlx.cells5
            have hltx : rw_ < w8.heap.size := hlx.lt
            clear hb8 hm8 hlx hn6 c3 hw1 hpl
            cases hok : okB x
            · have HEQ := Lib.hid (show recsOf d6 ar ge = col by rw [HREC.out, recsFrom_none _ _ _ _ _ (by rw [HGD.out, hok]; rfl), List.append_nil])
              simp only [genI, seqI, payB, hok]
              clear hok
              go_wp2_with fail
              try (refine ⟨⟨q2, k1, q3⟩, ?_⟩)
              refine Ord.wpOrd_last [_, _, _, _, _, _, _, _, _] rfl ?_
              simp only [List.getElem_toArray, List.getElem_cons_zero, List.getElem_cons_succ]
              repeat first | go_big_quiet_skip | (go_big_quiet_want; go_big_quiet_op; first | go_big_quiet_on | (apply Exists.intro; refine ⟨fun _ => ?_, ?_⟩; (focus (intros; first | rfl | (simp only [*]; rfl) | (simp [*]; rfl))); go_big_quiet_on))
              refine wpQuiet_nil ?_
              clear q2 q3 k0 k3 k4
              -- HEQ: recsOf d6 ar ge = col; HLX : Blk .., HOWNX, HDX, HMX in the world at hand
              go_wp2
              go_ret2
              have hL : openL d = { area := ar, gen := ge, recs := col, broken := false } := by
                unfold openL
                rw [← HV.out.2.1, ← HV.out.2.2.1, ← HV.out.2.2.2.1, HEQ.out]
              refine ⟨HM6.out.transNew HMX.out (by intro x hx; left; simp at hx; rw [hx]; exact HRWN.out.2), .inl ⟨HV.out.2.2.2.2, rw_, rfl, HRWN.out.2, ?_, ?_⟩⟩
              · rw [hL]
                refine ⟨_, HLX.out, own_strs HOWNX.out ?_⟩
                intro x hx
                have h1 := HL6.out.lt
                have h2 := HD6.out.lts
                simp only [List.cons_append, List.nil_append, List.mem_cons] at hx
                rcases hx with e | e | e | e
                · rw [e]; exact h1
                · rw [e]; exact h2.1
                · rw [e]; exact h2.2
                · exact Nat.lt_of_lt_of_le (HAV.out x e) HM6.out.size
              · rw [← HV.out.2.2.2.1]; exact HDX.out
            · have HOK := Lib.hid hok
              simp only [genI, seqI, payB, hok]
              clear hok
              by_cases hge : genOf x = ge
              · by_cases hse : seqOf x = k
                · have hg1 : (((genOf x : Nat) : Int) != (ge : Int)) = false := by simp [hge]
                  have hs1 : (((seqOf x : Nat) : Int) != (k : Int)) = false := by simp [hse]
                  have HGOOD := Lib.hid (show good d6 ar ge k = true by rw [HGD.out, HOK.out, hge, hse]; simp)
                  clear hge hse hlti
                  have hm := Lib.hid (show col.length + 1 ≤ maxLen by have := HK.out; have := HH.out; unfold maxLen; omega)
                  have HCL := Lib.hid (show (col.length + 1) * 16 ≤ 140737488355328 by have := HK.out; have := HH.out; omega)
                  obtain ⟨i0, hinf, hz0, hz1, hz2⟩ := info_parts info_str
                  have HI0 := Lib.hid (And.intro hinf (And.intro hz0 (And.intro hz1 hz2)))
                  clear hinf hz0 hz1 hz2
                  have HWS := Lib.hid HMX.out.size
                  go_wp2_with fail
                  try (refine ⟨⟨q2, k1, q3⟩, ?_⟩)
                  refine Ord.wpOrd_last [_, _, _, _, _, _, _, _, _] rfl ?_
                  simp only [List.getElem_toArray, List.getElem_cons_zero, List.getElem_cons_succ]
                  repeat first | go_big_quiet_skip | (go_big_quiet_want; go_big_quiet_op; first | go_big_quiet_on | (apply Exists.intro; refine ⟨fun _ => ?_, ?_⟩; (focus (intros; first | rfl | (simp only [*]; rfl) | (simp [*]; rfl))); go_big_quiet_on))
                  refine wpQuiet_nil ?_
                  clear q2 q3
                  go_wp2_with (at_builtin; refine wpList_append_own _ rfl (.tmp 107) (.tmp 109) 31 rfl w6.heap.size 9 i0 (.string ⟨#[]⟩) 1 16 Try.underlying31 HI0.out.1 HI0.out.2.1 HI0.out.2.2.1 HI0.out.2.2.2 rfl (by decide) _ col.length (col.map Value.string) rfl (HOWNX.out.alloc _) ⟨w8.heap.size, 0, none⟩ 1 1 [.string (payOf x)] rfl rfl (one_new_at _ _ _ _ (by simp)) (by intro u hu; simp at hu; subst hu; rfl) hm.out HCL.out (by have := HWS.out; simp; omega) ?_)
                  intro v' w9 hown2 hg9 _
                  have HM9 := Lib.hid ((HMX.out.alloc (.cells #[.string (payOf x)] 9)).grown hg9 (own_block HOWNX.out))
                  have hb9 : Blk w9 rw_ [ptr rd, .int .i64 ar, .int .i64 ge, .slice sa col.length sc, .bool false] 56 := by
                    have hbb := HLX.out.alloc (.cells #[.string (payOf x)] 9)
                    refine (show w9.heap[rw_]? = _ from ?_)
                    rw [hg9.block rw_ hbb.lt (fun e => by have := own_block HOWNX.out rw_ e.symm; have := HL6.out.lt; omega)]
                    exact hbb
                  obtain ⟨sa2, sc2, hv2⟩ := own_slice hown2
                  obtain rfl := hv2
                  obtain ⟨k0, k1, k2, k3, k4, kz⟩ := hb9.cells5
                  have HL9 := Lib.hid hb9
                  have HO9 := Lib.hid hown2
                  clear hown2 hg9 hb9 k0 k1 k2 k4
                  go_wp2
                  go_roundw
                  case rel =>
                    refine ⟨k + 1, col ++ [payOf x], .slice sa2 (col.length + 1) sc2, by rw [HWK.out], by have := HK.out; simp; omega, HLT.out, ?_, HL9.out.set 3 _, ?_, HM9.out.setCell (by simp) _⟩
                    · rw [HREC.out, show d6.half - k = (d6.half - (k + 1)) + 1 by have := HLT.out; omega, recsFrom_good _ _ _ _ _ HGOOD.out, HPY.out]
                      simp
                    · have := ownsRow_setCell_below HO9.out (a := ⟨rw_, 3, none⟩) (by have := HL6.out.lt; exact this) (.slice sa2 (col.length + 1) sc2)
                      simp only [List.length_append, List.length_singleton, List.map_append, List.map_cons, List.map_nil]
                      exact this
                  case measure =>
                    show d6.half - (intOf (.int .i64 (wrap64 ((k : Int) + 1)))).toNat < d6.half - (intOf (.int .i64 (k : Int))).toNat
                    rw [HWK.out]
                    simp only [intOf, Int.toNat_natCast]
                    exact Nat.sub_lt_sub_left HLT.out (Nat.lt_succ_self k)
                · have HEQ := Lib.hid (show recsOf d6 ar ge = col by rw [HREC.out, recsFrom_none _ _ _ _ _ (by rw [HGD.out]; simp [hse]), List.append_nil])
                  have hg1 : (((genOf x : Nat) : Int) != (ge : Int)) = false := by simp [hge]
                  have hs1 : (((seqOf x : Nat) : Int) != (k : Int)) = true := by simp; omega
                  clear hge hse
                  go_wp2_with fail
                  try (refine ⟨⟨q2, k1, q3⟩, ?_⟩)
                  refine Ord.wpOrd_last [_, _, _, _, _, _, _, _, _] rfl ?_
                  simp only [List.getElem_toArray, List.getElem_cons_zero, List.getElem_cons_succ]
                  repeat first | go_big_quiet_skip | (go_big_quiet_want; go_big_quiet_op; first | go_big_quiet_on | (apply Exists.intro; refine ⟨fun _ => ?_, ?_⟩; (focus (intros; first | rfl | (simp only [*]; rfl) | (simp [*]; rfl))); go_big_quiet_on))
                  refine wpQuiet_nil ?_
                  clear q2 q3 k0 k3 k4
                  -- HEQ: recsOf d6 ar ge = col; HLX : Blk .., HOWNX, HDX, HMX in the world at hand
                  go_wp2
                  go_ret2
                  have hL : openL d = { area := ar, gen := ge, recs := col, broken := false } := by
                    unfold openL
                    rw [← HV.out.2.1, ← HV.out.2.2.1, ← HV.out.2.2.2.1, HEQ.out]
                  refine ⟨HM6.out.transNew HMX.out (by intro x hx; left; simp at hx; rw [hx]; exact HRWN.out.2), .inl ⟨HV.out.2.2.2.2, rw_, rfl, HRWN.out.2, ?_, ?_⟩⟩
                  · rw [hL]
                    refine ⟨_, HLX.out, own_strs HOWNX.out ?_⟩
                    intro x hx
                    have h1 := HL6.out.lt
                    have h2 := HD6.out.lts
                    simp only [List.cons_append, List.nil_append, List.mem_cons] at hx
                    rcases hx with e | e | e | e
                    · rw [e]; exact h1
                    · rw [e]; exact h2.1
                    · rw [e]; exact h2.2
                    · exact Nat.lt_of_lt_of_le (HAV.out x e) HM6.out.size
                  · rw [← HV.out.2.2.2.1]; exact HDX.out
              · have HEQ := Lib.hid (show recsOf d6 ar ge = col by rw [HREC.out, recsFrom_none _ _ _ _ _ (by rw [HGD.out]; simp [hge]), List.append_nil])
                have hg1 : (((genOf x : Nat) : Int) != (ge : Int)) = true := by simp; omega
                clear hge
                go_wp2_with fail
                try (refine ⟨⟨q2, k1, q3⟩, ?_⟩)
                refine Ord.wpOrd_last [_, _, _, _, _, _, _, _, _] rfl ?_
                simp only [List.getElem_toArray, List.getElem_cons_zero, List.getElem_cons_succ]
                repeat first | go_big_quiet_skip | (go_big_quiet_want; go_big_quiet_op; first | go_big_quiet_on | (apply Exists.intro; refine ⟨fun _ => ?_, ?_⟩; (focus (intros; first | rfl | (simp only [*]; rfl) | (simp [*]; rfl))); go_big_quiet_on))
                refine wpQuiet_nil ?_
                clear q2 q3 k0 k3 k4
                -- HEQ: recsOf d6 ar ge = col; HLX : Blk .., HOWNX, HDX, HMX in the world at hand
                go_wp2
                go_ret2
                have hL : openL d = { area := ar, gen := ge, recs := col, broken := false } := by
                  unfold openL
                  rw [← HV.out.2.1, ← HV.out.2.2.1, ← HV.out.2.2.2.1, HEQ.out]
                refine ⟨HM6.out.transNew HMX.out (by intro x hx; left; simp at hx; rw [hx]; exact HRWN.out.2), .inl ⟨HV.out.2.2.2.2, rw_, rfl, HRWN.out.2, ?_, ?_⟩⟩
                · rw [hL]
                  refine ⟨_, HLX.out, own_strs HOWNX.out ?_⟩
                  intro x hx
                  have h1 := HL6.out.lt
                  have h2 := HD6.out.lts
                  simp only [List.cons_append, List.nil_append, List.mem_cons] at hx
                  rcases hx with e | e | e | e
                  · rw [e]; exact h1
                  · rw [e]; exact h2.1
                  · rw [e]; exact h2.2
                  · exact Nat.lt_of_lt_of_le (HAV.out x e) HM6.out.size
                · rw [← HV.out.2.2.2.1]; exact HDX.out
          · have hlti : (d6.half : Int) ≤ (k : Int) := by omega
            have HEQ := Lib.hid (show recsOf d6 ar ge = col by rw [HREC.out, show d6.half - k = 0 by omega]; simp [recsFrom])
            clear hlt hdr k0 k1 k2 k3 k4 kz
            have HLX := HLR
            have HDX := HDR
            have HMX := HMR
            have HOWNX := HOWN
            -- HEQ: recsOf d6 ar ge = col; HLX : Blk .., HOWNX, HDX, HMX in the world at hand
            go_wp2
            go_ret2
            have hL : openL d = { area := ar, gen := ge, recs := col, broken := false } := by
              unfold openL
              rw [← HV.out.2.1, ← HV.out.2.2.1, ← HV.out.2.2.2.1, HEQ.out]
            refine ⟨HM6.out.transNew HMX.out (by intro x hx; left; simp at hx; rw [hx]; exact HRWN.out.2), .inl ⟨HV.out.2.2.2.2, rw_, rfl, HRWN.out.2, ?_, ?_⟩⟩
            · rw [hL]
              refine ⟨_, HLX.out, own_strs HOWNX.out ?_⟩
              intro x hx
              have h1 := HL6.out.lt
              have h2 := HD6.out.lts
              simp only [List.cons_append, List.nil_append, List.mem_cons] at hx
              rcases hx with e | e | e | e
              · rw [e]; exact h1
              · rw [e]; exact h2.1
              · rw [e]; exact h2.2
              · exact Nat.lt_of_lt_of_le (HAV.out x e) HM6.out.size
            · rw [← HV.out.2.2.2.1]; exact HDX.out
  | some p =>
    obtain ⟨i, b⟩ := p
    rw [hop] at ho
    obtain ⟨g1, e1, g2, e2, rfl, rfl, _⟩ := ho
    have H1 := Lib.hid (show opn1 d = d.flush by unfold opn1; rw [hop]; rfl)
    cases hst : d.fuse.stop
    · have HOPD := Lib.hid (show (d.opn.isSome && d.fuse.stop) = false by rw [hst]; simp)
      have HST := Lib.hid hst
      clear hop hst
      go_enter Try.func22, Try.ntmps22
      go_wp2_with fail
      (with_reducible refine (rflush_any rd rf d av _ HD.out).mono ?_); rintro _ w1 ⟨rfl, hd2, hm2⟩
      rw [HST.out]
      have HD1 := Lib.hid (show DiskR w1 rd rf (opn1 d) av by rw [H1.out]; exact hd2)
      have HM1 := Lib.hid hm2
      have HO1 := Lib.hid (show (opn1 d).opn = none by rw [H1.out]; exact flush_opn _ HST.out)
      clear hd2 hm2
      -- w1: 'opn1 d' on the disk, nothing open (HD1, HM1, HO1)
      go_wp2_with fail
      obtain ⟨rw_, hrw⟩ : ∃ rw_, rw_ = w1.heap.size := ⟨_, rfl⟩
      have ha2 := Blk.new w1 [ptr rd, .int .i64 0, .int .i64 0, .slice none 0 0, .bool false] 56
      have hd4 := (HD1.out.avoid (av' := rw_ :: av) (by intro x hx; rcases List.mem_cons.1 hx with e | e; exact .inr (by rw [e, hrw]; exact Nat.le_refl _); exact .inl e)).same ((Mod.refl [] w1).alloc (.cells #[ptr rd, .int .i64 0, .int .i64 0, .slice none 0 0, .bool false] 56))
      have hm4 := HM1.out.alloc (.cells #[ptr rd, .int .i64 0, .int .i64 0, .slice none 0 0, .bool false] 56)
      obtain ⟨w4, hw4⟩ : ∃ w4, w4 = w1.alloc (.cells #[ptr rd, .int .i64 0, .int .i64 0, .slice none 0 0, .bool false] 56) := ⟨_, rfl⟩
      have ha3 : Blk w4 rw_ [ptr rd, .int .i64 0, .int .i64 0, .slice none 0 0, .bool false] 56 := by rw [hw4, hrw]; exact ha2
      have hrwn : w1.heap.size ≤ rw_ := by rw [hrw]; exact Nat.le_refl _
      have HRWN := Lib.hid (And.intro hrwn (Nat.le_trans HM1.out.size hrwn))
      clear hrwn
      rw [← hw4] at hd4 hm4 ⊢
      rw [← hrw]
      clear hw4 ha2 hrw
      have HD4 := Lib.hid hd4
      (with_reducible refine (rhead0 rd rf (opn1 d) _ _ HD4.out).mono ?_); rintro _ w3 ⟨rfl, hm3⟩
      have HD3 := Lib.hid (HD4.out.same hm3)
      have ha4 := ha3.mod hm3 (by simp)
      have hm5 := hm4.trans (hm3.mono (S' := [rd, rf]) (by simp))
      clear hm3 hm4 hd4 ha3
      go_wp2_with fail
      (with_reducible refine (rhead1 rd rf (opn1 d) _ _ HD3.out).mono ?_); rintro _ w5 ⟨rfl, hm6⟩
      have HD5 := Lib.hid (HD3.out.same hm6)
      have hb5 := ha4.mod hm6 (by simp)
      have HM5 := Lib.hid (hm5.trans (hm6.mono (S' := [rd, rf]) (by simp)))
      obtain ⟨k0, k1, k2, k3, k4, kz⟩ := hb5.cells5
      have HB5 := Lib.hid hb5
      clear hm5 hm6 ha4 hb5 HD3 HD4
      by_cases hlt : headN (opn1 d) 0 < headN (opn1 d) 1
      · have HA := Lib.hid (show areaN (opn1 d) = 1 by unfold areaN; rw [if_pos hlt])
        have HG := Lib.hid (show genN (opn1 d) = headN (opn1 d) 1 by unfold genN; rw [if_pos hlt])
        have HG2 := Lib.hid (show genN (opn1 d) ≠ 0 by rw [HG.out]; omega)
        have hlt2 : (headN (opn1 d) 0 : Int) < (headN (opn1 d) 1 : Int) := by omega
        have hz : (((headN (opn1 d) 1 : Nat) : Int) == 0) = false := by simp; omega
        obtain ⟨gn, cn, hn6, _⟩ := HD5.out.now_at
        have hne1 : ¬ rd = rw_ := fun e => HD5.out.out.1 (by rw [e]; simp)
        have hne2 : ¬ rw_ = rd := fun e => hne1 e.symm
        clear hlt
        go_wp2_with fail
        clear hn6 hne1 hne2
        obtain ⟨w6, hw6⟩ : ∃ w6, w6 = ((w5.setCell ⟨rw_, 2, none⟩ (.int .i64 (headN (opn1 d) 0))).setCell ⟨rw_, 1, none⟩ (.int .i64 1)).setCell ⟨rw_, 2, none⟩ (.int .i64 (headN (opn1 d) 1)) := ⟨_, rfl⟩
        have hm6 : Mod [rw_] w5 w6 := by rw [hw6]; exact (((Mod.refl [rw_] w5).setCell (p := ⟨rw_, 2, none⟩) (by simp) _).setCell (p := ⟨rw_, 1, none⟩) (by simp) _).setCell (p := ⟨rw_, 2, none⟩) (by simp) _
        have hl6 : Blk w6 rw_ [ptr rd, .int .i64 1, .int .i64 (headN (opn1 d) 1), .slice none 0 0, .bool false] 56 := by rw [hw6]; exact ((HB5.out.set 2 (.int .i64 (headN (opn1 d) 0))).set 1 (.int .i64 1)).set 2 (.int .i64 (headN (opn1 d) 1))
        rw [← hw6]
        obtain ⟨ar, har⟩ : ∃ ar : Nat, ar = 1 := ⟨_, rfl⟩
        obtain ⟨ge, hge⟩ : ∃ ge : Nat, ge = headN (opn1 d) 1 := ⟨_, rfl⟩
        obtain ⟨d6, hd6e⟩ : ∃ d6, d6 = opn1 d := ⟨_, rfl⟩
        have HL6 := Lib.hid (show Blk w6 rw_ [ptr rd, .int .i64 ar, .int .i64 ge, .slice none 0 0, .bool false] 56 by rw [har, hge]; exact hl6)
        rw [← hd6e]
        have HD6 := Lib.hid (show DiskR w6 rd rf d6 (rw_ :: av) by rw [hd6e]; exact HD5.out.mod hm6 (by simp))
        have HM6 := Lib.hid (HM5.out.transNew hm6 (by intro x hx; left; simp at hx; rw [hx]; exact HRWN.out.2))
        have HV := Lib.hid (show ar ≤ 1 ∧ ar = areaN (opn1 d) ∧ ge = openGen d ∧ d6 = openD d ∧ openOk d = true from ⟨by omega, by rw [har, HA.out], by rw [hge]; unfold openGen; rw [if_neg HG2.out, HG.out], by rw [hd6e]; unfold openD; rw [HOPD.out, if_neg (by simp), if_neg HG2.out], by unfold openOk; rw [HOPD.out, if_neg (by simp), if_neg HG2.out]⟩)
        clear hl6 hm6 hw6 har hge hd6e k0 k1 k2 k3 k4 kz hlt2 hz
        -- w6: HL6 : Blk w6 rw_ [.., ar, ge, nil, false], HD6 : DiskR w6 .. d6 (rw_ :: av), HM6 : Mod [rd, rf] w w6, HV, HRWN : (w.heap.size ≤ w.heap.size ..)
        have HH := Lib.hid (half_two HD6.out.fits)
        have hwh : wrap64 ((d6.last.length : Int) / 2) = (d6.half : Int) := by
          have := HD6.out.fits.n2
          rw [IntWalk.wrap64_in _ (by omega)]; unfold D.half; omega
        rw [hwh]
        clear hwh
        go_loopw [8] (fun i wr => ∃ (k : Nat) (col : List ByteArray) (v : Value), i = .int .i64 k ∧ col.length + 1 = k ∧ k ≤ d6.half ∧ recsOf d6 ar ge = col ++ recsFrom d6 ar ge k (d6.half - k) ∧ Blk wr rw_ [ptr rd, .int .i64 ar, .int .i64 ge, v, .bool false] 56 ∧ wr.ownsRow w6.heap.size 9 1 v col.length (col.map Value.string) ∧ Mod [rw_] w6 wr) (fun i _ => d6.half - (intOf i).toNat)
        case atStart => exact ⟨1, [], .slice none 0 0, rfl, rfl, by have := HH.out; omega, rfl, HL6.out, World.ownsRow_nil _ _ _ _, Mod.refl _ _⟩
        case round =>
          obtain ⟨k, col, v, rfl, hk1, hk2, hrec, hb, hown, hmr⟩ := hrel
          obtain ⟨sa, sc, hv⟩ := own_slice hown
          obtain rfl := hv
          obtain ⟨k0, k1, k2, k3, k4, kz⟩ := hb.cells5
          have HREC := Lib.hid hrec
          have HOWN := Lib.hid hown
          have HMR := Lib.hid hmr
          have HLR := Lib.hid hb
          have hdr := HD6.out.mod hmr (by simp)
          have HDR := Lib.hid hdr
          have HK := Lib.hid (And.intro hk1 hk2)
          clear hrec hown hmr hb hk1 hk2
          by_cases hlt : k < d6.half
          · have hlti : (k : Int) < (d6.half : Int) := by omega
            obtain ⟨gn, cn, hn6, hnc⟩ := hdr.now_at
            have hat := at_lt (d := d6) (area := ar) (seq := k) HD6.out.fits HV.out.1 hlt
            obtain ⟨pos, hpos⟩ : ∃ pos, pos = ar * d6.half + k := ⟨_, rfl⟩
            have hpl : (pos : Int) < (d6.last.length : Int) := by omega
            have hw1 : wrap64 (wrap64 ((ar : Int) * (d6.half : Int)) + (k : Int)) = (pos : Int) := by
              have := HD6.out.fits.n2
              rw [IntWalk.wrap64_in ((ar : Int) * (d6.half : Int)) (by rw [← Int.natCast_mul]; omega), IntWalk.wrap64_in _ (by rw [← Int.natCast_mul]; omega)]
              rw [hpos, Int.natCast_add, Int.natCast_mul]
            obtain ⟨x, hx⟩ : ∃ x, x = sect d6.now (ar * d6.half + k) := ⟨_, rfl⟩
            have c3 := hnc pos (by omega)
            rw [hpos, ← hx, ← hpos] at c3
            have HLT := Lib.hid hlt
            have HWK := Lib.hid (show wrap64 ((k : Int) + 1) = ((k + 1 : Nat) : Int) by have := HH.out; rw [IntWalk.wrap64_in _ (by omega)]; omega)
            have HGD := Lib.hid (show good d6 ar ge k = (okB x && (genOf x == ge && seqOf x == k)) by unfold good; rw [hx])
            have HPY := Lib.hid (show recPay d6 ar k = payOf x by unfold recPay; rw [hx])
            clear hnc hat hpos hx hlt k0 hdr
            go_wp2_with fail
            refine Ord.wp_region_ord (fun w' => w'.cell? ⟨rd, 2, none⟩ = some (.slice (some ⟨gn, 0, none⟩) d6.last.length cn) ∧ w'.cell? ⟨rw_, 1, none⟩ = some (.int .i64 ar) ∧ w'.cell? ⟨gn, pos, none⟩ = some (.string x)) [([0, 1, 2, 3, 4, 5, 6, 7, 8, 9, 10, 11, 12, 13], 14)] [15, 16, 17, 18, 19, 20, 21, 22, 23] (by kernel_rfl) (by kernel_rfl) ⟨hn6, k1, c3⟩ ?_
            refine Ord.wpOrd_seg [_, _, _, _, _, _, _, _, _, _, _, _, _, _] _ rfl rfl ?_
            simp only [List.getElem_toArray, List.getElem_cons_zero, List.getElem_cons_succ]
            repeat first | go_big_quiet_skip | (go_big_quiet_want; go_big_quiet_op; first | go_big_quiet_on | (apply Exists.intro; refine ⟨fun _ => ?_, ?_⟩; (focus (intros; first | rfl | (simp only [*]; rfl) | (simp [*]; rfl))); go_big_quiet_on))
            refine wpQuiet_nil ?_
            go_wp2_with fail
            (with_reducible refine (rget_any x _).mono ?_); rintro _ w8 ⟨rfl, hb8⟩
            have hm8 := (((Mod.refl [] wr).drew).then hb8)
            have HMX := Lib.hid (HMR.out.trans (hm8.mono (by simp)))
            have hlx := HLR.out.mod hm8 (by simp)
            have HLX := Lib.hid hlx
            have HDX := Lib.hid (HDR.out.same hm8)
            have HOWNX := Lib.hid (own_mod HOWN.out hm8 (by simp))
            have q2 := hm8.cell hn6 (by simp)
            have q3 := hm8.cell c3 (by simp)
            obtain ⟨k0, k1, k2, k3, k4, kz⟩ := hlx.cells5
            have hltx : rw_ < w8.heap.size := hlx.lt
            clear hb8 hm8 hlx hn6 c3 hw1 hpl
            cases hok : okB x
            · have HEQ := Lib.hid (show recsOf d6 ar ge = col by rw [HREC.out, recsFrom_none _ _ _ _ _ (by rw [HGD.out, hok]; rfl), List.append_nil])
              simp only [genI, seqI, payB, hok]
              clear hok
              go_wp2_with fail
              try (refine ⟨⟨q2, k1, q3⟩, ?_⟩)
              refine Ord.wpOrd_last [_, _, _, _, _, _, _, _, _] rfl ?_
              simp only [List.getElem_toArray, List.getElem_cons_zero, List.getElem_cons_succ]
              repeat first | go_big_quiet_skip | (go_big_quiet_want; go_big_quiet_op; first | go_big_quiet_on | (apply Exists.intro; refine ⟨fun _ => ?_, ?_⟩; (focus (intros; first | rfl | (simp only [*]; rfl) | (simp [*]; rfl))); go_big_quiet_on))
              refine wpQuiet_nil ?_
              clear q2 q3 k0 k3 k4
              -- HEQ: recsOf d6 ar ge = col; HLX : Blk .., HOWNX, HDX, HMX in the world at hand
              go_wp2
              go_ret2
              have hL : openL d = { area := ar, gen := ge, recs := col, broken := false } := by
                unfold openL
                rw [← HV.out.2.1, ← HV.out.2.2.1, ← HV.out.2.2.2.1, HEQ.out]
              refine ⟨HM6.out.transNew HMX.out (by intro x hx; left; simp at hx; rw [hx]; exact HRWN.out.2), .inl ⟨HV.out.2.2.2.2, rw_, rfl, HRWN.out.2, ?_, ?_⟩⟩
              · rw [hL]
                refine ⟨_, HLX.out, own_strs HOWNX.out ?_⟩
                intro x hx
                have h1 := HL6.out.lt
                have h2 := HD6.out.lts
                simp only [List.cons_append, List.nil_append, List.mem_cons] at hx
                rcases hx with e | e | e | e
                · rw [e]; exact h1
                · rw [e]; exact h2.1
                · rw [e]; exact h2.2
                · exact Nat.lt_of_lt_of_le (HAV.out x e) HM6.out.size
              · rw [← HV.out.2.2.2.1]; exact HDX.out
            · have HOK := Lib.hid hok
              simp only [genI, seqI, payB, hok]
              clear hok
              by_cases hge : genOf x = ge
              · by_cases hse : seqOf x = k
                · have hg1 : (((genOf x : Nat) : Int) != (ge : Int)) = false := by simp [hge]
                  have hs1 : (((seqOf x : Nat) : Int) != (k : Int)) = false := by simp [hse]
                  have HGOOD := Lib.hid (show good d6 ar ge k = true by rw [HGD.out, HOK.out, hge, hse]; simp)
                  clear hge hse hlti
                  have hm := Lib.hid (show col.length + 1 ≤ maxLen by have := HK.out; have := HH.out; unfold maxLen; omega)
                  have HCL := Lib.hid (show (col.length + 1) * 16 ≤ 140737488355328 by have := HK.out; have := HH.out; omega)
                  obtain ⟨i0, hinf, hz0, hz1, hz2⟩ := info_parts info_str
                  have HI0 := Lib.hid (And.intro hinf (And.intro hz0 (And.intro hz1 hz2)))
                  clear hinf hz0 hz1 hz2
                  have HWS := Lib.hid HMX.out.size
                  go_wp2_with fail
                  try (refine ⟨⟨q2, k1, q3⟩, ?_⟩)
                  refine Ord.wpOrd_last [_, _, _, _, _, _, _, _, _] rfl ?_
                  simp only [List.getElem_toArray, List.getElem_cons_zero, List.getElem_cons_succ]
                  repeat first | go_big_quiet_skip | (go_big_quiet_want; go_big_quiet_op; first | go_big_quiet_on | (apply Exists.intro; refine ⟨fun _ => ?_, ?_⟩; (focus (intros; first | rfl | (simp only [*]; rfl) | (simp [*]; rfl))); go_big_quiet_on))
                  refine wpQuiet_nil ?_
                  clear q2 q3
                  go_wp2_with (at_builtin; refine wpList_append_own _ rfl (.tmp 107) (.tmp 109) 31 rfl w6.heap.size 9 i0 (.string ⟨#[]⟩) 1 16 Try.underlying31 HI0.out.1 HI0.out.2.1 HI0.out.2.2.1 HI0.out.2.2.2 rfl (by decide) _ col.length (col.map Value.string) rfl (HOWNX.out.alloc _) ⟨w8.heap.size, 0, none⟩ 1 1 [.string (payOf x)] rfl rfl (one_new_at _ _ _ _ (by simp)) (by intro u hu; simp at hu; subst hu; rfl) hm.out HCL.out (by have := HWS.out; simp; omega) ?_)
                  intro v' w9 hown2 hg9 _
                  have HM9 := Lib.hid ((HMX.out.alloc (.cells #[.string (payOf x)] 9)).grown hg9 (own_block HOWNX.out))
                  have hb9 : Blk w9 rw_ [ptr rd, .int .i64 ar, .int .i64 ge, .slice sa col.length sc, .bool false] 56 := by
                    have hbb := HLX.out.alloc (.cells #[.string (payOf x)] 9)
                    refine (show w9.heap[rw_]? = _ from ?_)
                    rw [hg9.block rw_ hbb.lt (fun e => by have := own_block HOWNX.out rw_ e.symm; have := HL6.out.lt; omega)]
                    exact hbb
                  obtain ⟨sa2, sc2, hv2⟩ := own_slice hown2
                  obtain rfl := hv2
                  obtain ⟨k0, k1, k2, k3, k4, kz⟩ := hb9.cells5
                  have HL9 := Lib.hid hb9
                  have HO9 := Lib.hid hown2
                  clear hown2 hg9 hb9 k0 k1 k2 k4
                  go_wp2
                  go_roundw
                  case rel =>
                    refine ⟨k + 1, col ++ [payOf x], .slice sa2 (col.length + 1) sc2, by rw [HWK.out], by have := HK.out; simp; omega, HLT.out, ?_, HL9.out.set 3 _, ?_, HM9.out.setCell (by simp) _⟩
                    · rw [HREC.out, show d6.half - k = (d6.half - (k + 1)) + 1 by have := HLT.out; omega, recsFrom_good _ _ _ _ _ HGOOD.out, HPY.out]
                      simp
                    · have := ownsRow_setCell_below HO9.out (a := ⟨rw_, 3, none⟩) (by have := HL6.out.lt; exact this) (.slice sa2 (col.length + 1) sc2)
                      simp only [List.length_append, List.length_singleton, List.map_append, List.map_cons, List.map_nil]
                      exact this
                  case measure =>
                    show d6.half - (intOf (.int .i64 (wrap64 ((k : Int) + 1)))).toNat < d6.half - (intOf (.int .i64 (k : Int))).toNat
                    rw [HWK.out]
                    simp only [intOf, Int.toNat_natCast]
                    exact Nat.sub_lt_sub_left HLT.out (Nat.lt_succ_self k)
                · have HEQ := Lib.hid (show recsOf d6 ar ge = col by rw [HREC.out, recsFrom_none _ _ _ _ _ (by rw [HGD.out]; simp [hse]), List.append_nil])
                  have hg1 : (((genOf x : Nat) : Int) != (ge : Int)) = false := by simp [hge]
                  have hs1 : (((seqOf x : Nat) : Int) != (k : Int)) = true := by simp; omega
                  clear hge hse
                  go_wp2_with fail
                  try (refine ⟨⟨q2, k1, q3⟩, ?_⟩)
                  refine Ord.wpOrd_last [_, _, _, _, _, _, _, _, _] rfl ?_
                  simp only [List.getElem_toArray, List.getElem_cons_zero, List.getElem_cons_succ]
                  repeat first | go_big_quiet_skip | (go_big_quiet_want; go_big_quiet_op; first | go_big_quiet_on | (apply Exists.intro; refine ⟨fun _ => ?_, ?_⟩; (focus (intros; first | rfl | (simp only [*]; rfl) | (simp [*]; rfl))); go_big_quiet_on))
                  refine wpQuiet_nil ?_
                  clear q2 q3 k0 k3 k4
                  -- HEQ: recsOf d6 ar ge = col; HLX : Blk .., HOWNX, HDX, HMX in the world at hand
                  go_wp2
                  go_ret2
                  have hL : openL d = { area := ar, gen := ge, recs := col, broken := false } := by
                    unfold openL
                    rw [← HV.out.2.1, ← HV.out.2.2.1, ← HV.out.2.2.2.1, HEQ.out]
                  refine ⟨HM6.out.transNew HMX.out (by intro x hx; left; simp at hx; rw [hx]; exact HRWN.out.2), .inl ⟨HV.out.2.2.2.2, rw_, rfl, HRWN.out.2, ?_, ?_⟩⟩
                  · rw [hL]
                    refine ⟨_, HLX.out, own_strs HOWNX.out ?_⟩
                    intro x hx
                    have h1 := HL6.out.lt
                    have h2 := HD6.out.lts
                    simp only [List.cons_append, List.nil_append, List.mem_cons] at hx
                    rcases hx with e | e | e | e
                    · rw [e]; exact h1
                    · rw [e]; exact h2.1
                    · rw [e]; exact h2.2
                    · exact Nat.lt_of_lt_of_le (HAV.out x e) HM6.out.size
                  · rw [← HV.out.2.2.2.1]; exact HDX.out
              · have HEQ := Lib.hid (show recsOf d6 ar ge = col by rw [HREC.out, recsFrom_none _ _ _ _ _ (by rw [HGD.out]; simp [hge]), List.append_nil])
                have hg1 : (((genOf x : Nat) : Int) != (ge : Int)) = true := by simp; omega
                clear hge
                go_wp2_with fail
                try (refine ⟨⟨q2, k1, q3⟩, ?_⟩)
                refine Ord.wpOrd_last [_, _, _, _, _, _, _, _, _] rfl ?_
                simp only [List.getElem_toArray, List.getElem_cons_zero, List.getElem_cons_succ]
                repeat first | go_big_quiet_skip | (go_big_quiet_want; go_big_quiet_op; first | go_big_quiet_on | (apply Exists.intro; refine ⟨fun _ => ?_, ?_⟩; (focus (intros; first | rfl | (simp only [*]; rfl) | (simp [*]; rfl))); go_big_quiet_on))
                refine wpQuiet_nil ?_
                clear q2 q3 k0 k3 k4
                -- HEQ: recsOf d6 ar ge = col; HLX : Blk .., HOWNX, HDX, HMX in the world at hand
                go_wp2
                go_ret2
                have hL : openL d = { area := ar, gen := ge, recs := col, broken := false } := by
                  unfold openL
                  rw [← HV.out.2.1, ← HV.out.2.2.1, ← HV.out.2.2.2.1, HEQ.out]
                refine ⟨HM6.out.transNew HMX.out (by intro x hx; left; simp at hx; rw [hx]; exact HRWN.out.2), .inl ⟨HV.out.2.2.2.2, rw_, rfl, HRWN.out.2, ?_, ?_⟩⟩
                · rw [hL]
                  refine ⟨_, HLX.out, own_strs HOWNX.out ?_⟩
                  intro x hx
                  have h1 := HL6.out.lt
                  have h2 := HD6.out.lts
                  simp only [List.cons_append, List.nil_append, List.mem_cons] at hx
                  rcases hx with e | e | e | e
                  · rw [e]; exact h1
                  · rw [e]; exact h2.1
                  · rw [e]; exact h2.2
                  · exact Nat.lt_of_lt_of_le (HAV.out x e) HM6.out.size
                · rw [← HV.out.2.2.2.1]; exact HDX.out
          · have hlti : (d6.half : Int) ≤ (k : Int) := by omega
            have HEQ := Lib.hid (show recsOf d6 ar ge = col by rw [HREC.out, show d6.half - k = 0 by omega]; simp [recsFrom])
            clear hlt hdr k0 k1 k2 k3 k4 kz
            have HLX := HLR
            have HDX := HDR
            have HMX := HMR
            have HOWNX := HOWN
            -- HEQ: recsOf d6 ar ge = col; HLX : Blk .., HOWNX, HDX, HMX in the world at hand
            go_wp2
            go_ret2
            have hL : openL d = { area := ar, gen := ge, recs := col, broken := false } := by
              unfold openL
              rw [← HV.out.2.1, ← HV.out.2.2.1, ← HV.out.2.2.2.1, HEQ.out]
            refine ⟨HM6.out.transNew HMX.out (by intro x hx; left; simp at hx; rw [hx]; exact HRWN.out.2), .inl ⟨HV.out.2.2.2.2, rw_, rfl, HRWN.out.2, ?_, ?_⟩⟩
            · rw [hL]
              refine ⟨_, HLX.out, own_strs HOWNX.out ?_⟩
              intro x hx
              have h1 := HL6.out.lt
              have h2 := HD6.out.lts
              simp only [List.cons_append, List.nil_append, List.mem_cons] at hx
              rcases hx with e | e | e | e
              · rw [e]; exact h1
              · rw [e]; exact h2.1
              · rw [e]; exact h2.2
              · exact Nat.lt_of_lt_of_le (HAV.out x e) HM6.out.size
            · rw [← HV.out.2.2.2.1]; exact HDX.out
      · have hle : (headN (opn1 d) 1 : Int) ≤ (headN (opn1 d) 0 : Int) := by omega
        have HA := Lib.hid (show areaN (opn1 d) = 0 by unfold areaN; rw [if_neg hlt])
        have HG := Lib.hid (show genN (opn1 d) = headN (opn1 d) 0 by unfold genN; rw [if_neg hlt])
        have hled : decide (headN (opn1 d) 0 < headN (opn1 d) 1) = false := decide_eq_false hlt
        clear hlt
        obtain ⟨gn, cn, hn6, _⟩ := HD5.out.now_at
        have hne1 : ¬ rd = rw_ := fun e => HD5.out.out.1 (by rw [e]; simp)
        have hne2 : ¬ rw_ = rd := fun e => hne1 e.symm
        by_cases hz0 : headN (opn1 d) 0 = 0
        · have HG2 := Lib.hid (show genN (opn1 d) = 0 by rw [HG.out, hz0])
          have HZ0 := Lib.hid hz0
          have hz : (((headN (opn1 d) 0 : Nat) : Int) == 0) = true := by rw [hz0]; rfl
          clear hz0 hle
          have hl6 : Blk ((w5.setCell ⟨rw_, 2, none⟩ (.int .i64 (headN (opn1 d) 0))).setCell ⟨rw_, 2, none⟩ (.int .i64 1)) rw_ [ptr rd, .int .i64 0, .int .i64 1, .slice none 0 0, .bool false] 56 := (HB5.out.set 2 (.int .i64 (headN (opn1 d) 0))).set 2 (.int .i64 1)
          have hm6 : Mod [rw_] w5 ((w5.setCell ⟨rw_, 2, none⟩ (.int .i64 (headN (opn1 d) 0))).setCell ⟨rw_, 2, none⟩ (.int .i64 1)) := ((Mod.refl [rw_] _).setCell (p := ⟨rw_, 2, none⟩) (by simp) _).setCell (p := ⟨rw_, 2, none⟩) (by simp) _
          have hd6 := HD5.out.mod hm6 (by simp)
          have hmm6 := HM5.out.transNew hm6 (by intro x hx; left; simp at hx; rw [hx]; exact HRWN.out.2)
          have HAV0 := Lib.hid (show ∀ x ∈ rw_ :: av, x < ((w5.setCell ⟨rw_, 2, none⟩ (.int .i64 (headN (opn1 d) 0))).setCell ⟨rw_, 2, none⟩ (.int .i64 1)).heap.size from by
            intro x hx
            rcases List.mem_cons.1 hx with e | e
            · rw [e]; exact hl6.lt
            · exact Nat.lt_of_lt_of_le (HAV.out x e) hmm6.size)
          have HL0 := Lib.hid hl6
          have HM0 := Lib.hid hmm6
          have HD0 := Lib.hid hd6
          clear hl6 hm6 hd6 hmm6 hn6
          go_wp2_with fail
          (with_reducible refine (rlay_first rw_ rd rf (opn1 d) _ _ _ _ _ HD0.out HAV0.out HL0.out (List.mem_cons_self) HO1.out).mono ?_); rintro _ w6 ⟨rfl, hd6, hl6, hm6⟩
          have HMM := Lib.hid (HM0.out.transNew hm6 (by intro x hx; simp at hx; rcases hx with e | e | e; right; simp [e]; right; simp [e]; left; rw [e]; exact HRWN.out.2))
          have HD6 := Lib.hid hd6
          obtain ⟨gn, cn, hn6, _⟩ := hd6.now_at
          clear hm6 hd6
          cases hok : layOk (opn1 d) 0 1 0 headS
          · have HOK := Lib.hid hok
            clear hok hl6
            go_wp2
            go_ret2
            refine ⟨HMM.out, .inr ⟨?_, rfl, ?_⟩⟩
            · unfold openOk; rw [HOPD.out, if_neg (by simp), if_pos HG2.out]; exact HOK.out
            · unfold openD; rw [HOPD.out, if_neg (by simp), if_pos HG2.out]
              exact HD6.out.avoid (fun x hx => .inl (List.mem_cons_of_mem _ hx))
          · have HOK := Lib.hid hok
            rw [hok] at hl6
            have hlen6 : (lay (opn1 d) 0 1 0 headS).last.length = (opn1 d).last.length := lay_length _ _ _ _ _
            clear hok
            obtain ⟨ar, har⟩ : ∃ ar : Nat, ar = 0 := ⟨_, rfl⟩
            obtain ⟨ge, hge⟩ : ∃ ge : Nat, ge = 1 := ⟨_, rfl⟩
            obtain ⟨d6, hd6e⟩ : ∃ d6, d6 = lay (opn1 d) 0 1 0 headS := ⟨_, rfl⟩
            have HL6 := Lib.hid (show Blk w6 rw_ [ptr rd, .int .i64 ar, .int .i64 ge, .slice none 0 0, .bool false] 56 by rw [har, hge]; exact hl6)
            have hd6' := HD6.out
            rw [← hd6e] at hd6' hn6
            have HM6 := HMM
            have HV := Lib.hid (show ar ≤ 1 ∧ ar = areaN (opn1 d) ∧ ge = openGen d ∧ d6 = openD d ∧ openOk d = true from ⟨by omega, by rw [har, HA.out], by rw [hge]; unfold openGen; rw [if_pos HG2.out], by rw [hd6e]; unfold openD; rw [HOPD.out, if_neg (by simp), if_pos HG2.out], by unfold openOk; rw [HOPD.out, if_neg (by simp), if_pos HG2.out]; exact HOK.out⟩)
            have HD6 := Lib.hid hd6'
            clear hl6 har hge hd6e kz k2 hd6' hled hz hlen6 k0 k1 k3 k4
            go_wp2_with fail
            clear hn6 hne1 hne2
            -- w6: HL6 : Blk w6 rw_ [.., ar, ge, nil, false], HD6 : DiskR w6 .. d6 (rw_ :: av), HM6 : Mod [rd, rf] w w6, HV, HRWN : (w.heap.size ≤ w.heap.size ..)
            have HH := Lib.hid (half_two HD6.out.fits)
            have hwh : wrap64 ((d6.last.length : Int) / 2) = (d6.half : Int) := by
              have := HD6.out.fits.n2
              rw [IntWalk.wrap64_in _ (by omega)]; unfold D.half; omega
            rw [hwh]
            clear hwh
            go_loopw [8] (fun i wr => ∃ (k : Nat) (col : List ByteArray) (v : Value), i = .int .i64 k ∧ col.length + 1 = k ∧ k ≤ d6.half ∧ recsOf d6 ar ge = col ++ recsFrom d6 ar ge k (d6.half - k) ∧ Blk wr rw_ [ptr rd, .int .i64 ar, .int .i64 ge, v, .bool false] 56 ∧ wr.ownsRow w6.heap.size 9 1 v col.length (col.map Value.string) ∧ Mod [rw_] w6 wr) (fun i _ => d6.half - (intOf i).toNat)
            case atStart => exact ⟨1, [], .slice none 0 0, rfl, rfl, by have := HH.out; omega, rfl, HL6.out, World.ownsRow_nil _ _ _ _, Mod.refl _ _⟩
            case round =>
              obtain ⟨k, col, v, rfl, hk1, hk2, hrec, hb, hown, hmr⟩ := hrel
              obtain ⟨sa, sc, hv⟩ := own_slice hown
              obtain rfl := hv
              obtain ⟨k0, k1, k2, k3, k4, kz⟩ := hb.cells5
              have HREC := Lib.hid hrec
              have HOWN := Lib.hid hown
              have HMR := Lib.hid hmr
              have HLR := Lib.hid hb
              have hdr := HD6.out.mod hmr (by simp)
              have HDR := Lib.hid hdr
              have HK := Lib.hid (And.intro hk1 hk2)
              clear hrec hown hmr hb hk1 hk2
              by_cases hlt : k < d6.half
              · have hlti : (k : Int) < (d6.half : Int) := by omega
                obtain ⟨gn, cn, hn6, hnc⟩ := hdr.now_at
                have hat := at_lt (d := d6) (area := ar) (seq := k) HD6.out.fits HV.out.1 hlt
                obtain ⟨pos, hpos⟩ : ∃ pos, pos = ar * d6.half + k := ⟨_, rfl⟩
                have hpl : (pos : Int) < (d6.last.length : Int) := by omega
                have hw1 : wrap64 (wrap64 ((ar : Int) * (d6.half : Int)) + (k : Int)) = (pos : Int) := by
                  have := HD6.out.fits.n2
                  rw [IntWalk.wrap64_in ((ar : Int) * (d6.half : Int)) (by rw [← Int.natCast_mul]; omega), IntWalk.wrap64_in _ (by rw [← Int.natCast_mul]; omega)]
                  rw [hpos, Int.natCast_add, Int.natCast_mul]
                obtain ⟨x, hx⟩ : ∃ x, x = sect d6.now (ar * d6.half + k) := ⟨_, rfl⟩
                have c3 := hnc pos (by omega)
                rw [hpos, ← hx, ← hpos] at c3
                have HLT := Lib.hid hlt
                have HWK := Lib.hid (show wrap64 ((k : Int) + 1) = ((k + 1 : Nat) : Int) by have := HH.out; rw [IntWalk.wrap64_in _ (by omega)]; omega)
                have HGD := Lib.hid (show good d6 ar ge k = (okB x && (genOf x == ge && seqOf x == k)) by unfold good; rw [hx])
                have HPY := Lib.hid (show recPay d6 ar k = payOf x by unfold recPay; rw [hx])
                clear hnc hat hpos hx hlt k0 hdr
                go_wp2_with fail
                refine Ord.wp_region_ord (fun w' => w'.cell? ⟨rd, 2, none⟩ = some (.slice (some ⟨gn, 0, none⟩) d6.last.length cn) ∧ w'.cell? ⟨rw_, 1, none⟩ = some (.int .i64 ar) ∧ w'.cell? ⟨gn, pos, none⟩ = some (.string x)) [([0, 1, 2, 3, 4, 5, 6, 7, 8, 9, 10, 11, 12, 13], 14)] [15, 16, 17, 18, 19, 20, 21, 22, 23] (by kernel_rfl) (by kernel_rfl) ⟨hn6, k1, c3⟩ ?_
                refine Ord.wpOrd_seg [_, _, _, _, _, _, _, _, _, _, _, _, _, _] _ rfl rfl ?_
                simp only [List.getElem_toArray, List.getElem_cons_zero, List.getElem_cons_succ]
                repeat first | go_big_quiet_skip | (go_big_quiet_want; go_big_quiet_op; first | go_big_quiet_on | (apply Exists.intro; refine ⟨fun _ => ?_, ?_⟩; (focus (intros; first | rfl | (simp only [*]; rfl) | (simp [*]; rfl))); go_big_quiet_on))
                refine wpQuiet_nil ?_
                go_wp2_with fail
                (with_reducible refine (rget_any x _).mono ?_); rintro _ w8 ⟨rfl, hb8⟩
                have hm8 := (((Mod.refl [] wr).drew).then hb8)
                have HMX := Lib.hid (HMR.out.trans (hm8.mono (by simp)))
                have hlx := HLR.out.mod hm8 (by simp)
                have HLX := Lib.hid hlx
                have HDX := Lib.hid (HDR.out.same hm8)
                have HOWNX := Lib.hid (own_mod HOWN.out hm8 (by simp))
                have q2 := hm8.cell hn6 (by simp)
                have q3 := hm8.cell c3 (by simp)
                obtain ⟨k0, k1, k2, k3, k4, kz⟩ := hlx.cells5
                have hltx : rw_ < w8.heap.size := hlx.lt
                clear hb8 hm8 hlx hn6 c3 hw1 hpl
                cases hok : okB x
                · have HEQ := Lib.hid (show recsOf d6 ar ge = col by rw [HREC.out, recsFrom_none _ _ _ _ _ (by rw [HGD.out, hok]; rfl), List.append_nil])
                  simp only [genI, seqI, payB, hok]
                  clear hok
                  go_wp2_with fail
                  try (refine ⟨⟨q2, k1, q3⟩, ?_⟩)
                  refine Ord.wpOrd_last [_, _, _, _, _, _, _, _, _] rfl ?_
                  simp only [List.getElem_toArray, List.getElem_cons_zero, List.getElem_cons_succ]
                  repeat first | go_big_quiet_skip | (go_big_quiet_want; go_big_quiet_op; first | go_big_quiet_on | (apply Exists.intro; refine ⟨fun _ => ?_, ?_⟩; (focus (intros; first | rfl | (simp only [*]; rfl) | (simp [*]; rfl))); go_big_quiet_on))
                  refine wpQuiet_nil ?_
                  clear q2 q3 k0 k3 k4
                  -- HEQ: recsOf d6 ar ge = col; HLX : Blk .., HOWNX, HDX, HMX in the world at hand
                  go_wp2
                  go_ret2
                  have hL : openL d = { area := ar, gen := ge, recs := col, broken := false } := by
                    unfold openL
                    rw [← HV.out.2.1, ← HV.out.2.2.1, ← HV.out.2.2.2.1, HEQ.out]
                  refine ⟨HM6.out.transNew HMX.out (by intro x hx; left; simp at hx; rw [hx]; exact HRWN.out.2), .inl ⟨HV.out.2.2.2.2, rw_, rfl, HRWN.out.2, ?_, ?_⟩⟩
                  · rw [hL]
                    refine ⟨_, HLX.out, own_strs HOWNX.out ?_⟩
                    intro x hx
                    have h1 := HL6.out.lt
                    have h2 := HD6.out.lts
                    simp only [List.cons_append, List.nil_append, List.mem_cons] at hx
                    rcases hx with e | e | e | e
                    · rw [e]; exact h1
                    · rw [e]; exact h2.1
                    · rw [e]; exact h2.2
                    · exact Nat.lt_of_lt_of_le (HAV.out x e) HM6.out.size
                  · rw [← HV.out.2.2.2.1]; exact HDX.out
                · have HOK := Lib.hid hok
                  simp only [genI, seqI, payB, hok]
                  clear hok
                  by_cases hge : genOf x = ge
                  · by_cases hse : seqOf x = k
                    · have hg1 : (((genOf x : Nat) : Int) != (ge : Int)) = false := by simp [hge]
                      have hs1 : (((seqOf x : Nat) : Int) != (k : Int)) = false := by simp [hse]
                      have HGOOD := Lib.hid (show good d6 ar ge k = true by rw [HGD.out, HOK.out, hge, hse]; simp)
                      clear hge hse hlti
                      have hm := Lib.hid (show col.length + 1 ≤ maxLen by have := HK.out; have := HH.out; unfold maxLen; omega)
                      have HCL := Lib.hid (show (col.length + 1) * 16 ≤ 140737488355328 by have := HK.out; have := HH.out; omega)
                      obtain ⟨i0, hinf, hz0, hz1, hz2⟩ := info_parts info_str
                      have HI0 := Lib.hid (And.intro hinf (And.intro hz0 (And.intro hz1 hz2)))
                      clear hinf hz0 hz1 hz2
                      have HWS := Lib.hid HMX.out.size
                      go_wp2_with fail
                      try (refine ⟨⟨q2, k1, q3⟩, ?_⟩)
                      refine Ord.wpOrd_last [_, _, _, _, _, _, _, _, _] rfl ?_
                      simp only [List.getElem_toArray, List.getElem_cons_zero, List.getElem_cons_succ]
                      repeat first | go_big_quiet_skip | (go_big_quiet_want; go_big_quiet_op; first | go_big_quiet_on | (apply Exists.intro; refine ⟨fun _ => ?_, ?_⟩; (focus (intros; first | rfl | (simp only [*]; rfl) | (simp [*]; rfl))); go_big_quiet_on))
                      refine wpQuiet_nil ?_
                      clear q2 q3
                      go_wp2_with (at_builtin; refine wpList_append_own _ rfl (.tmp 107) (.tmp 109) 31 rfl w6.heap.size 9 i0 (.string ⟨#[]⟩) 1 16 Try.underlying31 HI0.out.1 HI0.out.2.1 HI0.out.2.2.1 HI0.out.2.2.2 rfl (by decide) _ col.length (col.map Value.string) rfl (HOWNX.out.alloc _) ⟨w8.heap.size, 0, none⟩ 1 1 [.string (payOf x)] rfl rfl (one_new_at _ _ _ _ (by simp)) (by intro u hu; simp at hu; subst hu; rfl) hm.out HCL.out (by have := HWS.out; simp; omega) ?_)
                      intro v' w9 hown2 hg9 _
                      have HM9 := Lib.hid ((HMX.out.alloc (.cells #[.string (payOf x)] 9)).grown hg9 (own_block HOWNX.out))
                      have hb9 : Blk w9 rw_ [ptr rd, .int .i64 ar, .int .i64 ge, .slice sa col.length sc, .bool false] 56 := by
                        have hbb := HLX.out.alloc (.cells #[.string (payOf x)] 9)
                        refine (show w9.heap[rw_]? = _ from ?_)
                        rw [hg9.block rw_ hbb.lt (fun e => by have := own_block HOWNX.out rw_ e.symm; have := HL6.out.lt; omega)]
                        exact hbb
                      obtain ⟨sa2, sc2, hv2⟩ := own_slice hown2
                      obtain rfl := hv2
                      obtain ⟨k0, k1, k2, k3, k4, kz⟩ := hb9.cells5
                      have HL9 := Lib.hid hb9
                      have HO9 := Lib.hid hown2
                      clear hown2 hg9 hb9 k0 k1 k2 k4
                      go_wp2
                      go_roundw
                      case rel =>
                        refine ⟨k + 1, col ++ [payOf x], .slice sa2 (col.length + 1) sc2, by rw [HWK.out], by have := HK.out; simp; omega, HLT.out, ?_, HL9.out.set 3 _, ?_, HM9.out.setCell (by simp) _⟩
                        · rw [HREC.out, show d6.half - k = (d6.half - (k + 1)) + 1 by have := HLT.out; omega, recsFrom_good _ _ _ _ _ HGOOD.out, HPY.out]
                          simp
                        · have := ownsRow_setCell_below HO9.out (a := ⟨rw_, 3, none⟩) (by have := HL6.out.lt; exact this) (.slice sa2 (col.length + 1) sc2)
                          simp only [List.length_append, List.length_singleton, List.map_append, List.map_cons, List.map_nil]
                          exact this
                      case measure =>
                        show d6.half - (intOf (.int .i64 (wrap64 ((k : Int) + 1)))).toNat < d6.half - (intOf (.int .i64 (k : Int))).toNat
                        rw [HWK.out]
                        simp only [intOf, Int.toNat_natCast]
                        exact Nat.sub_lt_sub_left HLT.out (Nat.lt_succ_self k)
                    · have HEQ := Lib.hid (show recsOf d6 ar ge = col by rw [HREC.out, recsFrom_none _ _ _ _ _ (by rw [HGD.out]; simp [hse]), List.append_nil])
                      have hg1 : (((genOf x : Nat) : Int) != (ge : Int)) = false := by simp [hge]
                      have hs1 : (((seqOf x : Nat) : Int) != (k : Int)) = true := by simp; omega
                      clear hge hse
                      go_wp2_with fail
                      try (refine ⟨⟨q2, k1, q3⟩, ?_⟩)
                      refine Ord.wpOrd_last [_, _, _, _, _, _, _, _, _] rfl ?_
                      simp only [List.getElem_toArray, List.getElem_cons_zero, List.getElem_cons_succ]
                      repeat first | go_big_quiet_skip | (go_big_quiet_want; go_big_quiet_op; first | go_big_quiet_on | (apply Exists.intro; refine ⟨fun _ => ?_, ?_⟩; (focus (intros; first | rfl | (simp only [*]; rfl) | (simp [*]; rfl))); go_big_quiet_on))
                      refine wpQuiet_nil ?_
                      clear q2 q3 k0 k3 k4
                      -- HEQ: recsOf d6 ar ge = col; HLX : Blk .., HOWNX, HDX, HMX in the world at hand
                      go_wp2
                      go_ret2
                      have hL : openL d = { area := ar, gen := ge, recs := col, broken := false } := by
                        unfold openL
                        rw [← HV.out.2.1, ← HV.out.2.2.1, ← HV.out.2.2.2.1, HEQ.out]
                      refine ⟨HM6.out.transNew HMX.out (by intro x hx; left; simp at hx; rw [hx]; exact HRWN.out.2), .inl ⟨HV.out.2.2.2.2, rw_, rfl, HRWN.out.2, ?_, ?_⟩⟩
                      · rw [hL]
                        refine ⟨_, HLX.out, own_strs HOWNX.out ?_⟩
                        intro x hx
                        have h1 := HL6.out.lt
                        have h2 := HD6.out.lts
                        simp only [List.cons_append, List.nil_append, List.mem_cons] at hx
                        rcases hx with e | e | e | e
                        · rw [e]; exact h1
                        · rw [e]; exact h2.1
                        · rw [e]; exact h2.2
                        · exact Nat.lt_of_lt_of_le (HAV.out x e) HM6.out.size
                      · rw [← HV.out.2.2.2.1]; exact HDX.out
                  · have HEQ := Lib.hid (show recsOf d6 ar ge = col by rw [HREC.out, recsFrom_none _ _ _ _ _ (by rw [HGD.out]; simp [hge]), List.append_nil])
                    have hg1 : (((genOf x : Nat) : Int) != (ge : Int)) = true := by simp; omega
                    clear hge
                    go_wp2_with fail
                    try (refine ⟨⟨q2, k1, q3⟩, ?_⟩)
                    refine Ord.wpOrd_last [_, _, _, _, _, _, _, _, _] rfl ?_
                    simp only [List.getElem_toArray, List.getElem_cons_zero, List.getElem_cons_succ]
                    repeat first | go_big_quiet_skip | (go_big_quiet_want; go_big_quiet_op; first | go_big_quiet_on | (apply Exists.intro; refine ⟨fun _ => ?_, ?_⟩; (focus (intros; first | rfl | (simp only [*]; rfl) | (simp [*]; rfl))); go_big_quiet_on))
                    refine wpQuiet_nil ?_
                    clear q2 q3 k0 k3 k4
                    -- HEQ: recsOf d6 ar ge = col; HLX : Blk .., HOWNX, HDX, HMX in the world at hand
                    go_wp2
                    go_ret2
                    have hL : openL d = { area := ar, gen := ge, recs := col, broken := false } := by
                      unfold openL
                      rw [← HV.out.2.1, ← HV.out.2.2.1, ← HV.out.2.2.2.1, HEQ.out]
                    refine ⟨HM6.out.transNew HMX.out (by intro x hx; left; simp at hx; rw [hx]; exact HRWN.out.2), .inl ⟨HV.out.2.2.2.2, rw_, rfl, HRWN.out.2, ?_, ?_⟩⟩
                    · rw [hL]
                      refine ⟨_, HLX.out, own_strs HOWNX.out ?_⟩
                      intro x hx
                      have h1 := HL6.out.lt
                      have h2 := HD6.out.lts
                      simp only [List.cons_append, List.nil_append, List.mem_cons] at hx
                      rcases hx with e | e | e | e
                      · rw [e]; exact h1
                      · rw [e]; exact h2.1
                      · rw [e]; exact h2.2
                      · exact Nat.lt_of_lt_of_le (HAV.out x e) HM6.out.size
                    · rw [← HV.out.2.2.2.1]; exact HDX.out
              · have hlti : (d6.half : Int) ≤ (k : Int) := by omega
                have HEQ := Lib.hid (show recsOf d6 ar ge = col by rw [HREC.out, show d6.half - k = 0 by omega]; simp [recsFrom])
                clear hlt hdr k0 k1 k2 k3 k4 kz
                have HLX := HLR
                have HDX := HDR
                have HMX := HMR
                have HOWNX := HOWN
                -- HEQ: recsOf d6 ar ge = col; HLX : Blk .., HOWNX, HDX, HMX in the world at hand
                go_wp2
                go_ret2
                have hL : openL d = { area := ar, gen := ge, recs := col, broken := false } := by
                  unfold openL
                  rw [← HV.out.2.1, ← HV.out.2.2.1, ← HV.out.2.2.2.1, HEQ.out]
                refine ⟨HM6.out.transNew HMX.out (by intro x hx; left; simp at hx; rw [hx]; exact HRWN.out.2), .inl ⟨HV.out.2.2.2.2, rw_, rfl, HRWN.out.2, ?_, ?_⟩⟩
                · rw [hL]
                  refine ⟨_, HLX.out, own_strs HOWNX.out ?_⟩
                  intro x hx
                  have h1 := HL6.out.lt
                  have h2 := HD6.out.lts
                  simp only [List.cons_append, List.nil_append, List.mem_cons] at hx
                  rcases hx with e | e | e | e
                  · rw [e]; exact h1
                  · rw [e]; exact h2.1
                  · rw [e]; exact h2.2
                  · exact Nat.lt_of_lt_of_le (HAV.out x e) HM6.out.size
                · rw [← HV.out.2.2.2.1]; exact HDX.out
        · have HG2 := Lib.hid (show genN (opn1 d) ≠ 0 by rw [HG.out]; exact hz0)
          have hz : (((headN (opn1 d) 0 : Nat) : Int) == 0) = false := by simp; exact hz0
          clear hz0 hle
          go_wp2_with fail
          clear hn6 hne1 hne2
          obtain ⟨w6, hw6⟩ : ∃ w6, w6 = w5.setCell ⟨rw_, 2, none⟩ (.int .i64 (headN (opn1 d) 0)) := ⟨_, rfl⟩
          have hm6 : Mod [rw_] w5 w6 := by rw [hw6]; exact (Mod.refl [rw_] w5).setCell (p := ⟨rw_, 2, none⟩) (by simp) _
          have hl6 : Blk w6 rw_ [ptr rd, .int .i64 0, .int .i64 (headN (opn1 d) 0), .slice none 0 0, .bool false] 56 := by rw [hw6]; exact HB5.out.set 2 (.int .i64 (headN (opn1 d) 0))
          rw [← hw6]
          obtain ⟨ar, har⟩ : ∃ ar : Nat, ar = 0 := ⟨_, rfl⟩
          obtain ⟨ge, hge⟩ : ∃ ge : Nat, ge = headN (opn1 d) 0 := ⟨_, rfl⟩
          obtain ⟨d6, hd6e⟩ : ∃ d6, d6 = opn1 d := ⟨_, rfl⟩
          have HL6 := Lib.hid (show Blk w6 rw_ [ptr rd, .int .i64 ar, .int .i64 ge, .slice none 0 0, .bool false] 56 by rw [har, hge]; exact hl6)
          rw [← hd6e]
          have HD6 := Lib.hid (show DiskR w6 rd rf d6 (rw_ :: av) by rw [hd6e]; exact HD5.out.mod hm6 (by simp))
          have HM6 := Lib.hid (HM5.out.transNew hm6 (by intro x hx; left; simp at hx; rw [hx]; exact HRWN.out.2))
          have HV := Lib.hid (show ar ≤ 1 ∧ ar = areaN (opn1 d) ∧ ge = openGen d ∧ d6 = openD d ∧ openOk d = true from ⟨by omega, by rw [har, HA.out], by rw [hge]; unfold openGen; rw [if_neg HG2.out, HG.out], by rw [hd6e]; unfold openD; rw [HOPD.out, if_neg (by simp), if_neg HG2.out], by unfold openOk; rw [HOPD.out, if_neg (by simp), if_neg HG2.out]⟩)
          clear hl6 hm6 hw6 har hge hd6e k0 k1 k2 k3 k4 kz hled hz
          -- w6: HL6 : Blk w6 rw_ [.., ar, ge, nil, false], HD6 : DiskR w6 .. d6 (rw_ :: av), HM6 : Mod [rd, rf] w w6, HV, HRWN : (w.heap.size ≤ w.heap.size ..)
          have HH := Lib.hid (half_two HD6.out.fits)
          have hwh : wrap64 ((d6.last.length : Int) / 2) = (d6.half : Int) := by
            have := HD6.out.fits.n2
            rw [IntWalk.wrap64_in _ (by omega)]; unfold D.half; omega
          rw [hwh]
          clear hwh
          go_loopw [8] (fun i wr => ∃ (k : Nat) (col : List ByteArray) (v : Value), i = .int .i64 k ∧ col.length + 1 = k ∧ k ≤ d6.half ∧ recsOf d6 ar ge = col ++ recsFrom d6 ar ge k (d6.half - k) ∧ Blk wr rw_ [ptr rd, .int .i64 ar, .int .i64 ge, v, .bool false] 56 ∧ wr.ownsRow w6.heap.size 9 1 v col.length (col.map Value.string) ∧ Mod [rw_] w6 wr) (fun i _ => d6.half - (intOf i).toNat)
          case atStart => exact ⟨1, [], .slice none 0 0, rfl, rfl, by have := HH.out; omega, rfl, HL6.out, World.ownsRow_nil _ _ _ _, Mod.refl _ _⟩
          case round =>
            obtain ⟨k, col, v, rfl, hk1, hk2, hrec, hb, hown, hmr⟩ := hrel
            obtain ⟨sa, sc, hv⟩ := own_slice hown
            obtain rfl := hv
            obtain ⟨k0, k1, k2, k3, k4, kz⟩ := hb.cells5
            have HREC := Lib.hid hrec
            have HOWN := Lib.hid hown
            have HMR := Lib.hid hmr
            have HLR := Lib.hid hb
            have hdr := HD6.out.mod hmr (by simp)
            have HDR := Lib.hid hdr
            have HK := Lib.hid (And.intro hk1 hk2)
            clear hrec hown hmr hb hk1 hk2
            by_cases hlt : k < d6.half
            · have hlti : (k : Int) < (d6.half : Int) := by omega
              obtain ⟨gn, cn, hn6, hnc⟩ := hdr.now_at
              have hat := at_lt (d := d6) (area := ar) (seq := k) HD6.out.fits HV.out.1 hlt
              obtain ⟨pos, hpos⟩ : ∃ pos, pos = ar * d6.half + k := ⟨_, rfl⟩
              have hpl : (pos : Int) < (d6.last.length : Int) := by omega
              have hw1 : wrap64 (wrap64 ((ar : Int) * (d6.half : Int)) + (k : Int)) = (pos : Int) := by
                have := HD6.out.fits.n2
                rw [IntWalk.wrap64_in ((ar : Int) * (d6.half : Int)) (by rw [← Int.natCast_mul]; omega), IntWalk.wrap64_in _ (by rw [← Int.natCast_mul]; omega)]
                rw [hpos, Int.natCast_add, Int.natCast_mul]
              obtain ⟨x, hx⟩ : ∃ x, x = sect d6.now (ar * d6.half + k) := ⟨_, rfl⟩
              have c3 := hnc pos (by omega)
              rw [hpos, ← hx, ← hpos] at c3
              have HLT := Lib.hid hlt
              have HWK := Lib.hid (show wrap64 ((k : Int) + 1) = ((k + 1 : Nat) : Int) by have := HH.out; rw [IntWalk.wrap64_in _ (by omega)]; omega)
              have HGD := Lib.hid (show good d6 ar ge k = (okB x && (genOf x == ge && seqOf x == k)) by unfold good; rw [hx])
              have HPY := Lib.hid (show recPay d6 ar k = payOf x by unfold recPay; rw [hx])
              clear hnc hat hpos hx hlt k0 hdr
              go_wp2_with fail
              refine Ord.wp_region_ord (fun w' => w'.cell? ⟨rd, 2, none⟩ = some (.slice (some ⟨gn, 0, none⟩) d6.last.length cn) ∧ w'.cell? ⟨rw_, 1, none⟩ = some (.int .i64 ar) ∧ w'.cell? ⟨gn, pos, none⟩ = some (.string x)) [([0, 1, 2, 3, 4, 5, 6, 7, 8, 9, 10, 11, 12, 13], 14)] [15, 16, 17, 18, 19, 20, 21, 22, 23] (by kernel_rfl) (by kernel_rfl) ⟨hn6, k1, c3⟩ ?_
              refine Ord.wpOrd_seg [_, _, _, _, _, _, _, _, _, _, _, _, _, _] _ rfl rfl ?_
              simp only [List.getElem_toArray, List.getElem_cons_zero, List.getElem_cons_succ]
              repeat first | go_big_quiet_skip | (go_big_quiet_want; go_big_quiet_op; first | go_big_quiet_on | (apply Exists.intro; refine ⟨fun _ => ?_, ?_⟩; (focus (intros; first | rfl | (simp only [*]; rfl) | (simp [*]; rfl))); go_big_quiet_on))
              refine wpQuiet_nil ?_
              go_wp2_with fail
              (with_reducible refine (rget_any x _).mono ?_); rintro _ w8 ⟨rfl, hb8⟩
              have hm8 := (((Mod.refl [] wr).drew).then hb8)
              have HMX := Lib.hid (HMR.out.trans (hm8.mono (by simp)))
              have hlx := HLR.out.mod hm8 (by simp)
              have HLX := Lib.hid hlx
              have HDX := Lib.hid (HDR.out.same hm8)
              have HOWNX := Lib.hid (own_mod HOWN.out hm8 (by simp))
              have q2 := hm8.cell hn6 (by simp)
              have q3 := hm8.cell c3 (by simp)
              obtain ⟨k0, k1, k2, k3, k4, kz⟩ := hlx.cells5
              have hltx : rw_ < w8.heap.size := hlx.lt
              clear hb8 hm8 hlx hn6 c3 hw1 hpl
              cases hok : okB x
              · have HEQ := Lib.hid (show recsOf d6 ar ge = col by rw [HREC.out, recsFrom_none _ _ _ _ _ (by rw [HGD.out, hok]; rfl), List.append_nil])
                simp only [genI, seqI, payB, hok]
                clear hok
                go_wp2_with fail
                try (refine ⟨⟨q2, k1, q3⟩, ?_⟩)
                refine Ord.wpOrd_last [_, _, _, _, _, _, _, _, _] rfl ?_
                simp only [List.getElem_toArray, List.getElem_cons_zero, List.getElem_cons_succ]
                repeat first | go_big_quiet_skip | (go_big_quiet_want; go_big_quiet_op; first | go_big_quiet_on | (apply Exists.intro; refine ⟨fun _ => ?_, ?_⟩; (focus (intros; first | rfl | (simp only [*]; rfl) | (simp [*]; rfl))); go_big_quiet_on))
                refine wpQuiet_nil ?_
                clear q2 q3 k0 k3 k4
                -- HEQ: recsOf d6 ar ge = col; HLX : Blk .., HOWNX, HDX, HMX in the world at hand
                go_wp2
                go_ret2
                have hL : openL d = { area := ar, gen := ge, recs := col, broken := false } := by
                  unfold openL
                  rw [← HV.out.2.1, ← HV.out.2.2.1, ← HV.out.2.2.2.1, HEQ.out]
                refine ⟨HM6.out.transNew HMX.out (by intro x hx; left; simp at hx; rw [hx]; exact HRWN.out.2), .inl ⟨HV.out.2.2.2.2, rw_, rfl, HRWN.out.2, ?_, ?_⟩⟩
                · rw [hL]
                  refine ⟨_, HLX.out, own_strs HOWNX.out ?_⟩
                  intro x hx
                  have h1 := HL6.out.lt
                  have h2 := HD6.out.lts
                  simp only [List.cons_append, List.nil_append, List.mem_cons] at hx
                  rcases hx with e | e | e | e
                  · rw [e]; exact h1
                  · rw [e]; exact h2.1
                  · rw [e]; exact h2.2
                  · exact Nat.lt_of_lt_of_le (HAV.out x e) HM6.out.size
                · rw [← HV.out.2.2.2.1]; exact HDX.out
              · have HOK := Lib.hid hok
                simp only [genI, seqI, payB, hok]
                clear hok
                by_cases hge : genOf x = ge
                · by_cases hse : seqOf x = k
                  · have hg1 : (((genOf x : Nat) : Int) != (ge : Int)) = false := by simp [hge]
                    have hs1 : (((seqOf x : Nat) : Int) != (k : Int)) = false := by simp [hse]
                    have HGOOD := Lib.hid (show good d6 ar ge k = true by rw [HGD.out, HOK.out, hge, hse]; simp)
                    clear hge hse hlti
                    have hm := Lib.hid (show col.length + 1 ≤ maxLen by have := HK.out; have := HH.out; unfold maxLen; omega)
                    have HCL := Lib.hid (show (col.length + 1) * 16 ≤ 140737488355328 by have := HK.out; have := HH.out; omega)
                    obtain ⟨i0, hinf, hz0, hz1, hz2⟩ := info_parts info_str
                    have HI0 := Lib.hid (And.intro hinf (And.intro hz0 (And.intro hz1 hz2)))
                    clear hinf hz0 hz1 hz2
                    have HWS := Lib.hid HMX.out.size
                    go_wp2_with fail
                    try (refine ⟨⟨q2, k1, q3⟩, ?_⟩)
                    refine Ord.wpOrd_last [_, _, _, _, _, _, _, _, _] rfl ?_
                    simp only [List.getElem_toArray, List.getElem_cons_zero, List.getElem_cons_succ]
                    repeat first | go_big_quiet_skip | (go_big_quiet_want; go_big_quiet_op; first | go_big_quiet_on | (apply Exists.intro; refine ⟨fun _ => ?_, ?_⟩; (focus (intros; first | rfl | (simp only [*]; rfl) | (simp [*]; rfl))); go_big_quiet_on))
                    refine wpQuiet_nil ?_
                    clear q2 q3
                    go_wp2_with (at_builtin; refine wpList_append_own _ rfl (.tmp 107) (.tmp 109) 31 rfl w6.heap.size 9 i0 (.string ⟨#[]⟩) 1 16 Try.underlying31 HI0.out.1 HI0.out.2.1 HI0.out.2.2.1 HI0.out.2.2.2 rfl (by decide) _ col.length (col.map Value.string) rfl (HOWNX.out.alloc _) ⟨w8.heap.size, 0, none⟩ 1 1 [.string (payOf x)] rfl rfl (one_new_at _ _ _ _ (by simp)) (by intro u hu; simp at hu; subst hu; rfl) hm.out HCL.out (by have := HWS.out; simp; omega) ?_)
                    intro v' w9 hown2 hg9 _
                    have HM9 := Lib.hid ((HMX.out.alloc (.cells #[.string (payOf x)] 9)).grown hg9 (own_block HOWNX.out))
                    have hb9 : Blk w9 rw_ [ptr rd, .int .i64 ar, .int .i64 ge, .slice sa col.length sc, .bool false] 56 := by
                      have hbb := HLX.out.alloc (.cells #[.string (payOf x)] 9)
                      refine (show w9.heap[rw_]? = _ from ?_)
                      rw [hg9.block rw_ hbb.lt (fun e => by have := own_block HOWNX.out rw_ e.symm; have := HL6.out.lt; omega)]
                      exact hbb
                    obtain ⟨sa2, sc2, hv2⟩ := own_slice hown2
                    obtain rfl := hv2
                    obtain ⟨k0, k1, k2, k3, k4, kz⟩ := hb9.cells5
                    have HL9 := Lib.hid hb9
                    have HO9 := Lib.hid hown2
                    clear hown2 hg9 hb9 k0 k1 k2 k4
                    go_wp2
                    go_roundw
                    case rel =>
                      refine ⟨k + 1, col ++ [payOf x], .slice sa2 (col.length + 1) sc2, by rw [HWK.out], by have := HK.out; simp; omega, HLT.out, ?_, HL9.out.set 3 _, ?_, HM9.out.setCell (by simp) _⟩
                      · rw [HREC.out, show d6.half - k = (d6.half - (k + 1)) + 1 by have := HLT.out; omega, recsFrom_good _ _ _ _ _ HGOOD.out, HPY.out]
                        simp
                      · have := ownsRow_setCell_below HO9.out (a := ⟨rw_, 3, none⟩) (by have := HL6.out.lt; exact this) (.slice sa2 (col.length + 1) sc2)
                        simp only [List.length_append, List.length_singleton, List.map_append, List.map_cons, List.map_nil]
                        exact this
                    case measure =>
                      show d6.half - (intOf (.int .i64 (wrap64 ((k : Int) + 1)))).toNat < d6.half - (intOf (.int .i64 (k : Int))).toNat
                      rw [HWK.out]
                      simp only [intOf, Int.toNat_natCast]
                      exact Nat.sub_lt_sub_left HLT.out (Nat.lt_succ_self k)
                  · have HEQ := Lib.hid (show recsOf d6 ar ge = col by rw [HREC.out, recsFrom_none _ _ _ _ _ (by rw [HGD.out]; simp [hse]), List.append_nil])
                    have hg1 : (((genOf x : Nat) : Int) != (ge : Int)) = false := by simp [hge]
                    have hs1 : (((seqOf x : Nat) : Int) != (k : Int)) = true := by simp; omega
                    clear hge hse
                    go_wp2_with fail
                    try (refine ⟨⟨q2, k1, q3⟩, ?_⟩)
                    refine Ord.wpOrd_last [_, _, _, _, _, _, _, _, _] rfl ?_
                    simp only [List.getElem_toArray, List.getElem_cons_zero, List.getElem_cons_succ]
                    repeat first | go_big_quiet_skip | (go_big_quiet_want; go_big_quiet_op; first | go_big_quiet_on | (apply Exists.intro; refine ⟨fun _ => ?_, ?_⟩; (focus (intros; first | rfl | (simp only [*]; rfl) | (simp [*]; rfl))); go_big_quiet_on))
                    refine wpQuiet_nil ?_
                    clear q2 q3 k0 k3 k4
                    -- HEQ: recsOf d6 ar ge = col; HLX : Blk .., HOWNX, HDX, HMX in the world at hand
                    go_wp2
                    go_ret2
                    have hL : openL d = { area := ar, gen := ge, recs := col, broken := false } := by
                      unfold openL
                      rw [← HV.out.2.1, ← HV.out.2.2.1, ← HV.out.2.2.2.1, HEQ.out]
                    refine ⟨HM6.out.transNew HMX.out (by intro x hx; left; simp at hx; rw [hx]; exact HRWN.out.2), .inl ⟨HV.out.2.2.2.2, rw_, rfl, HRWN.out.2, ?_, ?_⟩⟩
                    · rw [hL]
                      refine ⟨_, HLX.out, own_strs HOWNX.out ?_⟩
                      intro x hx
                      have h1 := HL6.out.lt
                      have h2 := HD6.out.lts
                      simp only [List.cons_append, List.nil_append, List.mem_cons] at hx
                      rcases hx with e | e | e | e
                      · rw [e]; exact h1
                      · rw [e]; exact h2.1
                      · rw [e]; exact h2.2
                      · exact Nat.lt_of_lt_of_le (HAV.out x e) HM6.out.size
                    · rw [← HV.out.2.2.2.1]; exact HDX.out
                · have HEQ := Lib.hid (show recsOf d6 ar ge = col by rw [HREC.out, recsFrom_none _ _ _ _ _ (by rw [HGD.out]; simp [hge]), List.append_nil])
                  have hg1 : (((genOf x : Nat) : Int) != (ge : Int)) = true := by simp; omega
                  clear hge
                  go_wp2_with fail
                  try (refine ⟨⟨q2, k1, q3⟩, ?_⟩)
                  refine Ord.wpOrd_last [_, _, _, _, _, _, _, _, _] rfl ?_
                  simp only [List.getElem_toArray, List.getElem_cons_zero, List.getElem_cons_succ]
                  repeat first | go_big_quiet_skip | (go_big_quiet_want; go_big_quiet_op; first | go_big_quiet_on | (apply Exists.intro; refine ⟨fun _ => ?_, ?_⟩; (focus (intros; first | rfl | (simp only [*]; rfl) | (simp [*]; rfl))); go_big_quiet_on))
                  refine wpQuiet_nil ?_
                  clear q2 q3 k0 k3 k4
                  -- HEQ: recsOf d6 ar ge = col; HLX : Blk .., HOWNX, HDX, HMX in the world at hand
                  go_wp2
                  go_ret2
                  have hL : openL d = { area := ar, gen := ge, recs := col, broken := false } := by
                    unfold openL
                    rw [← HV.out.2.1, ← HV.out.2.2.1, ← HV.out.2.2.2.1, HEQ.out]
                  refine ⟨HM6.out.transNew HMX.out (by intro x hx; left; simp at hx; rw [hx]; exact HRWN.out.2), .inl ⟨HV.out.2.2.2.2, rw_, rfl, HRWN.out.2, ?_, ?_⟩⟩
                  · rw [hL]
                    refine ⟨_, HLX.out, own_strs HOWNX.out ?_⟩
                    intro x hx
                    have h1 := HL6.out.lt
                    have h2 := HD6.out.lts
                    simp only [List.cons_append, List.nil_append, List.mem_cons] at hx
                    rcases hx with e | e | e | e
                    · rw [e]; exact h1
                    · rw [e]; exact h2.1
                    · rw [e]; exact h2.2
                    · exact Nat.lt_of_lt_of_le (HAV.out x e) HM6.out.size
                  · rw [← HV.out.2.2.2.1]; exact HDX.out
            · have hlti : (d6.half : Int) ≤ (k : Int) := by omega
              have HEQ := Lib.hid (show recsOf d6 ar ge = col by rw [HREC.out, show d6.half - k = 0 by omega]; simp [recsFrom])
              clear hlt hdr k0 k1 k2 k3 k4 kz
              have HLX := HLR
              have HDX := HDR
              have HMX := HMR
              have HOWNX := HOWN
              -- HEQ: recsOf d6 ar ge = col; HLX : Blk .., HOWNX, HDX, HMX in the world at hand
              go_wp2
              go_ret2
              have hL : openL d = { area := ar, gen := ge, recs := col, broken := false } := by
                unfold openL
                rw [← HV.out.2.1, ← HV.out.2.2.1, ← HV.out.2.2.2.1, HEQ.out]
              refine ⟨HM6.out.transNew HMX.out (by intro x hx; left; simp at hx; rw [hx]; exact HRWN.out.2), .inl ⟨HV.out.2.2.2.2, rw_, rfl, HRWN.out.2, ?_, ?_⟩⟩
              · rw [hL]
                refine ⟨_, HLX.out, own_strs HOWNX.out ?_⟩
                intro x hx
                have h1 := HL6.out.lt
                have h2 := HD6.out.lts
                simp only [List.cons_append, List.nil_append, List.mem_cons] at hx
                rcases hx with e | e | e | e
                · rw [e]; exact h1
                · rw [e]; exact h2.1
                · rw [e]; exact h2.2
                · exact Nat.lt_of_lt_of_le (HAV.out x e) HM6.out.size
              · rw [← HV.out.2.2.2.1]; exact HDX.out
    · have HOPD := Lib.hid (show (d.opn.isSome && d.fuse.stop) = true by rw [hst, hop]; rfl)
      have HST := Lib.hid hst
      clear hop hst
      go_enter Try.func22, Try.ntmps22
      go_wp2_with fail
      (with_reducible refine (rflush_any rd rf d av _ HD.out).mono ?_); rintro _ w2 ⟨rfl, hd2, hm2⟩
      rw [HST.out]
      have HD2 := Lib.hid hd2
      have HM2 := Lib.hid hm2
      clear hd2 hm2
      go_wp2
      go_ret2
      refine ⟨HM2.out, .inr ⟨?_, rfl, ?_⟩⟩
      · unfold openOk; rw [HOPD.out]; rfl
      · unfold openD; rw [HOPD.out]; exact HD2.out
end Go.Proofs.Yteidhbjfmmodhaa
