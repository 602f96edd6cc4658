/- Walks: Resize. -/
import Derived.Test.YtoegjmeoeefllaaGreatDoorTermW
import Derived.Deep.CutBlock
import Derived.Deep.CutRange
import Derived.Deep.RegionLaw
namespace Go.Proofs.YtoegjmeoeefllaaGreatDoor
open Go Go.RowKit
namespace T
attribute [local go_sem high] run_max_2 run_min_2
attribute [local go_sem ↓] Go.wp_at_zero Go.wp_at_succ

set_option maxRecDepth 100000 in
set_option maxHeartbeats 2000000 in
theorem Resize_calls {p : Nat} {w : World} {t : Term} {F : Nat → Prop} {o n : Nat} (h : IsTerm w p t F) (hk : Fed o n t) (ho : o ≤ 10000000) (r c : Int) :
    Calls Tryz.prog 24 #[.pointer (some ⟨p, 0, none⟩), .int .i64 r, .int .i64 c] w fun e w' => e = .returned (.tuple #[]) ∧ Turned w p F (resizeR t r c) w' := by
  have hR := cutR_in r
  have hC := cutC_in c
  unfold resizeR
  obtain ⟨R, eR⟩ : ∃ R, R = cutR r := ⟨_, rfl⟩
  obtain ⟨C, eC⟩ : ∃ C, C = cutC c := ⟨_, rfl⟩
  rw [← eR, ← eC]; rw [← eR] at hR; rw [← eC] at hC
  have ER := Lib.hid (And.intro eR eC)
  have HI := Lib.hid h
  have HK := Lib.hid hk
  obtain ⟨t1, ht1⟩ : ∃ t1, t1 = shiftN (t.row + 1 - R) t := ⟨_, rfl⟩
  rw [← ht1]
  have HT1 := Lib.hid ht1
  clear eR eC h hk ht1
  go_enter Tryz.func24, Tryz.ntmps24
  go_wp2_with fail
  refine (cut_calls r c w).mono ?_; rintro e w' ⟨rfl, rfl⟩
  rw [cutR_eq, cutC_eq, ← ER.out.1, ← ER.out.2]
  go_upto_block 0 with (fail)
  go_cut [] (fun wc => Turned w p F t1 wc)
  case first =>
    go_wp2_with fail
    go_loopg [] (t.row + 1 - R) (fun k wr => ∃ t', Turned w p F t' wr ∧ Hid (t1 = shiftN k t') ∧ k = t'.row + 1 - R ∧ ∃ j, Sh (o + j) n t' ∧ j + k ≤ 60)
    case atStart => exact ⟨t, Turned.same HI.out (Chg.refl _ _), HT1, rfl, 0, HK.out.ok.sh, by have := HK.out.ok.row; have := HK.out.ok.l1; omega⟩
    case round =>
      obtain ⟨t', ⟨F1, hI, hC1, hN1⟩, hT1, hk, j, hS, hj⟩ := hrel
      obtain ⟨lv, gv, bv, vs, gs, bs, gb, h⟩ := hI
      have HC1 := Lib.hid (And.intro hC1 hN1)
      clear hC1 hN1
      by_cases hlt : R ≤ t'.row
      · have hlt' : (R : Int) ≤ (t'.row : Int) := by omega
        have hrow : t'.row < t'.l.length := hS.row
        have hrow' : (t'.row : Int) ≤ 60 := by have := hS.l1; omega
        have hoff : -10000000 ≤ t'.off ∧ t'.off ≤ 100000000 := by have := hS.off; omega
        obtain ⟨lb, lo, cap, rb, ro, rc, rfl, g1, g2, g3, g4, g5, g6, g7, g8⟩ := h.row (k := 0) (by omega)
        obtain ⟨Ag, cg, rfl, hg1, hg2⟩ := h.g.shape
        obtain ⟨c0, c1, c2, c3, c4, _⟩ := h.cells
        have hfr := h.frozen
        have f1 := hfr 1
        have f2 := hfr 2
        have f3 := hfr 3
        have f4 := hfr 4
        have hp := h.blk.lt
        have hlb := World.block_lt_of_cell? wr _ g3
        simp only at hlb
        simp only [Nat.add_zero] at g3
        have hpl : lb ≠ p := by
          obtain ⟨_, hF, hat⟩ := h.l.pos (by omega)
          have e := hat.own; injection e with e; subst e
          exact fun e => hat.neBlk h.blk (by decide) e
        have hl1 : 0 < t'.l.length := by omega
        have hl2 : (0 : Int) < (t'.l.length : Int) := by omega
        have hg1000 : t'.gone.length ≤ 1000 := hS.g
        have H := Lib.hid h
        have G4 := Lib.hid g4
        have G5 := Lib.hid g5
        have HS := Lib.hid hS
        have Hk := Lib.hid (And.intro hk (And.intro hj hlt))
        clear h hfr g4 g5 hS hk hj hlt
        go_upto_region 2 with (fail)
        go_cut [] from 14 to 71 (fun wc => ∃ A2 c2, Blk wc p (headC t' (.slice (some ⟨lb, lo, none⟩) t'.l.length cap) (.slice A2 (t'.gone.length + 1) c2) bv) 57 ∧
          Sl wc 29 1 (.slice A2 (t'.gone.length + 1) c2) (t'.gone.length + 1) (gs ++ [.slice (some ⟨rb, ro, none⟩) (rowAt t'.l 0).length rc]) (fun b => F1 b ∨ wr.heap.size ≤ b) ∧
          Chg (fun x => x = p ∨ wbk (.slice Ag t'.gone.length cg) x) wr wc ∧ (∀ b, wbk (.slice A2 (t'.gone.length + 1) c2) b → wbk (.slice Ag t'.gone.length cg) b ∨ wr.heap.size ≤ b))
        case first =>
          go_region_law (first | (refine step_append_sl (o := ⟨some 32, _, _, _, _, _⟩) (by rfl) _ _ 55 (by rfl) eiRow (by rfl) (H.out.g.chg (((Chg.refl Non wr).drew).alloc (.cells #[.slice (some ⟨rb, ro, none⟩) (rowAt t'.l 0).length rc] 29)) (fun _ _ h => h)) (by rfl) (Rd.new _ [_] _ _ (by rfl) (by omega)) (by simp [Value.oneCell']) (by omega) ?_; intro A2 cap2 w2 hs2 hc2 hL2 hz2; have hb2 := ((H.out.blk.drew).chg ((Chg.refl Non wr.drew).alloc (.cells #[.slice (some ⟨rb, ro, none⟩) (rowAt t'.l 0).length rc] 29)) (fun h => h)).chg hc2 (fun hw => absurd (H.out.g.wbT hw H.out.blk) (by decide)); have c2' := hb2.cell 2; have f2' := hb2.frozen 2))
          all_goals
            go_wp2_with fail
            go_meet
            have hb3 := hb2.set 2 (.slice A2 (t'.gone.length + 1) cap2)
            refine ⟨A2, cap2, hb3, ?_, ?_, fun b hb => ?_⟩
            · exact (hs2.mono (fun b _ hb => by rcases hb with hb | hb; exact .inl hb; simp at hb; exact .inr (by omega))).chgT (Chg.at_ (Chg.at0 p w2) 2 _) (fun k l _ hk e => hk.ne hb2 (by decide) e)
            · exact ((((Chg.refl (fun x => x = p ∨ wbk (.slice Ag t'.gone.length cg) x) wr).drew).alloc _).trans hc2 (fun b hb => .inl (.inr hb))).setCell ⟨p, 2, none⟩ _ (.inl (.inl rfl))
            · rcases hL2 b hb with h | h
              · exact .inl h
              · simp at h; exact .inr (by omega)
        case rest =>
          obtain ⟨A2, c2', hB, hS2, hC, hL⟩ := hcut
          obtain ⟨ab, hFab, hat⟩ := hS2.pos (by omega)
          obtain ⟨ao, cap2, hv, k1, k2, _⟩ := hat.cells
          injection hv with e1 _ e3; subst e1 e3
          have d1 : wc.cell? ⟨p, 1, none⟩ = some (.slice (some ⟨lb, lo, none⟩) t'.l.length cap) := hB.cell 1
          have d2 : wc.cell? ⟨p, 2, none⟩ = some (.slice (some ⟨ab, ao, none⟩) (t'.gone.length + 1) c2') := hB.cell 2
          have d3 : wc.cell? ⟨p, 3, none⟩ = some (.int .i64 t'.off) := hB.cell 3
          have d4 : wc.cell? ⟨p, 4, none⟩ = some (.int .i64 t'.row) := hB.cell 4
          have df1 := hB.frozen 1
          have df2 := hB.frozen 2
          have df3 := hB.frozen 3
          have df4 := hB.frozen 4
          obtain ⟨d, hd⟩ : ∃ d : Nat, d = t'.gone.length + 1 - 1000 := ⟨_, rfl⟩
          have hd1 : max ((t'.gone.length : Int) + 1 - 1000) 0 = (d : Int) := by omega
          have hd2 : (d : Int) ≤ (t'.gone.length : Int) + 1 := by omega
          have hd3 : ¬ c2' = d := by omega
          have hd4 : (0 : Int) ≤ (d : Int) := by omega
          have hd5 : ((t'.gone.length : Int) + 1) ≤ (c2' : Int) := by omega
          have hcap1 : ¬ cap = 1 := by have := Hk.out.2.2; omega
          have hlI : (1 : Int) ≤ (t'.l.length : Int) := by omega
          have hcI : (t'.l.length : Int) ≤ (cap : Int) := by omega
          have hrw1 : (1 : Int) ≤ (t'.row : Int) := by have := Hk.out.2.2; omega
          unfold maxLen at k2
          have Hd := Lib.hid hd
          clear hd c0 c1 c2 c3 c4 f1 f2 f3 f4 g3
          go_upto_region 3 with (fail)
          go_region
          go_wp2_with fail
          have e4 : ((t'.row : Int) - 1) = ((t'.row - 1 : Nat) : Int) := by omega
          go_roundg (t'.row - 1 + 1 - R)
          case measure => have := Hk.out; omega
          case rel =>
            have hk3 := Hk.out
            refine ⟨shift1 t', ?_, Lib.hid ?_, rfl, j + 1, HS.out.shift1 (by omega), by omega⟩
            · rw [e4]
              refine Turned.then HC1.out.1 HC1.out.2 (shift_end (d := d) H.out (by omega) G4.out G5.out hC hFab hat hL Hd.out (((((Chg.at0 p wc).at_ _ _).at_ _ _).at_ _ _).at_ _ _).drew hB ?_)
              exact ((((hB.set 2 (.slice (some ⟨ab, ao + d, none⟩) (t'.gone.length + 1 - d) (c2' - d))).set 3 (.int .i64 (t'.off + 1))).set 1 (.slice (some ⟨lb, lo + 1, none⟩) (t'.l.length - 1) (cap - 1))).set 4 (.int .i64 ((t'.row - 1 : Nat) : Int))).drew
            · have e := hT1.out
              rw [show gk = (t'.row - 1 + 1 - R) + 1 by omega] at e
              exact e
      · have hge : ¬ (R : Int) ≤ (t'.row : Int) := by omega
        obtain ⟨c0, c1, c2, c3, c4, _⟩ := h.cells
        have H := Lib.hid h
        clear h
        go_wp2_with fail
        go_meet
        have hk0 : gk = 0 := by omega
        have e := hT1.out
        rw [hk0] at e
        rw [e]
        exact ⟨F1, ⟨_, _, _, _, _, _, _, H.out⟩, HC1.out⟩
  case rest =>
    obtain ⟨F1, ⟨lv, gv, bv, vs, gs, bs, gb, h⟩, hC1, hN1⟩ := hcut
    have hS : Sh (o + 60) n t1 := by
      have h1 := HK.out.ok.sh.shiftN (t.row + 1 - R) (by have := HK.out.ok.row; omega)
      rw [← HT1.out] at h1
      exact { h1 with off := ⟨h1.off.1, by have := h1.off.2; have := HK.out.ok.row; have := HK.out.ok.l1; omega⟩ }
    have hrest := shiftN_rest (t.row + 1 - R) t
    have hrow := shiftN_row (t.row + 1 - R) t
    rw [← HT1.out] at hrest hrow
    have hrR : t1.row < R := by have := HK.out.ok.row; omega
    have hHC1 := Lib.hid (And.intro hC1 hN1)
    obtain ⟨Al, cl, rfl, hl1, hl2⟩ := h.l.shape
    obtain ⟨c0, c1, c2, c3, c4, c5, _⟩ := h.cells
    have f1 := h.frozen 1
    have hp := h.blk.lt
    have hl60 : t1.l.length ≤ 60 := hS.l1
    obtain ⟨m, hm⟩ : ∃ m : Nat, m = min t1.l.length R := ⟨_, rfl⟩
    have hmI : min (t1.l.length : Int) (R : Int) = (m : Int) := by omega
    have hm1 : (m : Int) ≤ (t1.l.length : Int) := by omega
    have hm3 : (m : Int) ≤ (cl : Int) := by omega
    have hm2 : (0 : Int) ≤ (m : Int) := by omega
    have htl : (t1.l.take R) = t1.l.take m := by rw [hm]; exact (List.take_eq_take_iff).2 (by omega)
    have htlen : (t1.l.take m).length = m := by rw [List.length_take]; omega
    have hcop : ∀ w2 : World, Chg Non wc w2 → Calls Tryz.prog 30 #[.slice Al m cl] w2 fun e w' => ∃ A' c' vs' bs', e = .returned (.slice A' m c') ∧ Sl w' 29 1 (.slice A' m c') m vs' (fun b => w2.heap.size ≤ b) ∧ RowsIn w' (t1.l.take m) vs' bs' (fun b => w2.heap.size ≤ b) ∧ bs'.Nodup ∧ Chg Non w2 w' := fun w2 hc => by
      have q := copied_calls w2 (.slice Al m cl) (t1.l.take m) (vs.take m) (bs.take m) F1 F1 (by rw [htlen]; have := ((h.l.chg hc (fun _ _ h => h)).take m (by omega)).rd (G := F1) (fun _ h => h); rw [Nat.mul_one] at this; exact this) ((h.rows.chg hc (fun _ _ h => h)).take m) (by omega) (fun k hk => by
        have hk' : k < t1.l.length := by omega
        have e : rowAt (t1.l.take m) k = rowAt t1.l k := by simp [rowAt, List.getD, show k < m by omega]
        rw [e]
        have := (hS.rows _ (rowAt_mem hk')).2.1
        have := hS.c0; have := hS.c1; omega)
      rw [htlen] at q
      exact q
    have H := Lib.hid h
    have HS := Lib.hid hS
    have Hrest := Lib.hid hrest
    have Hrow := Lib.hid hrow
    have HrR := Lib.hid hrR
    have Htl := Lib.hid htl
    have Htlen := Lib.hid htlen
    have Hm := Lib.hid hm
    clear h hS hrest hrow hC1 hN1 hrR htl htlen hm c0 c2 c3 c4 c5
    go_upto_region 7 with (fail)
    go_cut [] (fun wd => ∃ lb lo cap vs2 bs2 gs2 gb2 bv2 gv2 F2, Rep wd p { t1 with l := t1.l.take m } F2 (.slice (some ⟨lb, lo, none⟩) m cap) gv2 bv2 vs2 gs2 bs2 gb2 ∧ Chg F1 wc wd ∧ ∀ b, F2 b → F1 b ∨ wc.heap.size ≤ b)
    case first =>
      go_region_law (go_simp; go_at_call 30; refine (hcop _ (Chg.refl Non wc).drew).mono ?_; rintro e w3 ⟨AC, cC, vs3, bs3, rfl, hs3, hr3, hnd3, hc3⟩; have c1' := hc3.cell c1 (fun h => h); have hb3 := (H.out.blk.drew).chg hc3 (fun h => h); have f1' := hb3.frozen 1)
      all_goals
        go_wp2_with fail
        go_meet
        have hb4 := hb3.set 1 (.slice AC m cC)
        have hcp := (Chg.at0 p w3).at_ 1 (.slice AC m cC)
        obtain ⟨lb, hFlb, hlat⟩ := hs3.pos (by have := Hm.out; have := HS.out.row; have := hR.1; omega)
        obtain ⟨lo, cap, hv, q1, q2, _⟩ := hlat.cells
        injection hv with e1 _ e3; subst e1 e3
        have hX : Chg (fun b => b = p) wc (w3.setCell ⟨p, 1, none⟩ (.slice (some ⟨lb, lo, none⟩) m cC)) := (((Chg.refl _ wc).drew).thenN hc3).then hcp
        obtain ⟨hRep, hF⟩ := H.out.newL (l' := t1.l.take m) hX (fun b _ e => .inl e) hb4 (by rw [Htlen.out]; exact (hs3.chgT hcp (fun k l _ hk e => hk.ne hb3 (by decide) e)).mono (fun _ _ h => .inr h))
          ((hr3.chgT hcp (fun b l _ hl e => hl.ne hb3 (by decide) e)).mono (fun _ _ h => .inr h)) hnd3 (fun b hb => .inl (by have := hr3.F hb; exact this)) (fun b hb => .inl (by rw [wbk_own rfl hb]; exact hFlb))
        exact ⟨lb, lo, cC, _, _, _, _, _, _, _, hRep, hF, fun b hb => hb.1⟩
    case rest =>
      obtain ⟨lb, lo, cap, vs2, bs2, gs2, gb2, bv2, gv2, F2, h2, hC2, hN2⟩ := hcut
      obtain ⟨L, hL⟩ : ∃ L, L = t1.l.take m := ⟨_, rfl⟩
      rw [← hL] at h2
      have hLl : L.length = m := by rw [hL]; exact Htlen.out
      have hLr : ∀ k, k < m → RowOk t1.cols n (rowAt L k) := fun k hk => by
        have e : rowAt L k = rowAt t1.l k := by rw [hL]; simp [rowAt, List.getD, hk]
        rw [e]
        exact HS.out.rows _ (rowAt_mem (by omega))
      have HL := Lib.hid hL
      have HLl := Lib.hid hLl
      have HLr := Lib.hid hLr
      have HC2 := Lib.hid (And.intro hC2 hN2)
      have H2 := Lib.hid h2
      obtain ⟨_, d1, _⟩ := h2.cells
      have hcm : m ≤ cap := by
        obtain ⟨_, _, hv, q, _⟩ := h2.l.shape
        injection hv with _ _ e
        simp only [hLl] at q
        omega
      have hcap : cap ≤ maxLen := by
        obtain ⟨_, _, hv, _, q⟩ := h2.l.shape
        injection hv with _ _ e
        omega
      unfold maxLen at hcap
      have hm60 : m ≤ 60 := by omega
      clear h2 hC2 hN2 hL hLl hLr c1 f1 hmI hm1 hm2 hm3 hcop
      go_upto_block 2 with (fail)
      go_cut [] (fun wd => ∃ F3, IsTerm wd p { t1 with l := L.map (fitRow C) } F3 ∧ Chg F2 wc wd ∧ ∀ b, F3 b → F2 b ∨ wc.heap.size ≤ b)
      case first =>
        go_wp2_with fail
        go_loopw [93] (fun i wr => ∃ k : Nat, i = .int .i64 k ∧ k ≤ m ∧ ∃ vs3 bs3 F3, Rep wr p { t1 with l := fitted C L k } F3 (.slice (some ⟨lb, lo, none⟩) m cap) gv2 bv2 vs3 gs2 bs3 gb2 ∧ Chg F2 wc wr ∧ ∀ b, F3 b → F2 b ∨ wc.heap.size ≤ b) (fun i _ => m - (intOf i).toNat)
        case atStart => exact ⟨0, rfl, Nat.zero_le _, _, _, _, by rw [fitted_zero]; exact H2.out, Chg.refl _ _, fun b hb => .inl hb⟩
        case round =>
          obtain ⟨k, rfl, hk, vs3, bs3, F3, h3, hC3, hN3⟩ := hrel
          by_cases hlt : k < m
          · have hlt' : (k : Int) < (m : Int) := by omega
            have hkL : k < L.length := by have := HLl.out; omega
            obtain ⟨r, hr⟩ : ∃ r, r = rowAt L k := ⟨_, rfl⟩
            have er : rowAt (fitted C L k) k = r := (fitted_at C L hkL).trans hr.symm
            have hlen3 : (fitted C L k).length = m := by rw [fitted_len]; exact HLl.out
            obtain ⟨lb', lo', cap', rb, ro, rc, hv, g1, g2, g3, g4, g5, g6, g7, g8⟩ := h3.row (k := k) (by show k < (fitted C L k).length; omega)
            injection hv with e1 em e3
            injection e1 with e1
            injection e1 with e1 e2 _
            subst e1 e2 e3
            clear em
            rw [er] at g3 g6 g8
            have hrok : RowOk t1.cols n r := by rw [hr]; exact HLr.out k hlt
            have hrl : r.length ≤ 120 := by have := hrok.2.1; have := HS.out.c1; omega
            have hrl1 : 1 ≤ r.length := by have := hrok.2.1; have := HS.out.c0; omega
            have c1 : wr.cell? ⟨p, 1, none⟩ = some (.slice (some ⟨lb, lo, none⟩) m cap) := h3.cells.2.1
            obtain ⟨lblk, hlblk, hlbp, hlbr⟩ : ∃ l, Blk wr lb l 29 ∧ lb ≠ p ∧ lb ≠ rb := by
              obtain ⟨b, hF, hat0⟩ := h3.l.pos (by show 0 < (fitted C L k).length; omega)
              have e := hat0.own; injection e with e; subst e
              obtain ⟨_, _, l, _, hl, _⟩ := id hat0
              exact ⟨l, hl, fun e => hat0.neBlk h3.blk (by decide) e, fun e => g8.neBlk (e ▸ hl) (by decide) rfl⟩
            have hrbp : rb ≠ p := fun e => g8.neBlk h3.blk (by decide) e
            have hp3 := h3.blk.lt
            have H3 := Lib.hid h3
            have G5 := Lib.hid g5
            have Hr := Lib.hid hr
            have Hlen3 := Lib.hid hlen3
            have HN := Lib.hid (And.intro hC3 hN3)
            have hC1 : (1 : Int) ≤ (C : Int) := by omega
            have Hrok := Lib.hid hrok
            unfold maxLen at g7
            clear h3 g5 hr hlen3 hC3 hN3 er hrok g4
            go_upto_if 101 with (fail)
            go_cut [7] from 94 to 129 (fun v wd => ∃ q r3, v = .slice (some ⟨rb, ro, none⟩) q rc ∧ q ≤ C ∧ SlAt wd 32 3 (.slice (some ⟨rb, ro, none⟩) q rc) q (flat r3) rb ∧ r3.length = q ∧ r3 ++ blankRow (C - q) = fitRow C r ∧ Chg (fun b => b = rb) wr wd)
            case first =>
              by_cases hC : C < r.length
              · have hCI : (C : Int) < (r.length : Int) := by omega
                have cw : wr.cell? ⟨rb, ro + C * 3 + 1, none⟩ = some (.int .i64 (cellAt r C).wide) := by
                  obtain ⟨o', cp', hv, _, _, hcell⟩ := g8.cells
                  injection hv with e1 _ e3; injection e1 with e1; injection e1 with _ e1 _; subst e1
                  rw [Nat.add_assoc, hcell _ (by omega), (flat_at r C hC).2.1]
                have hrc : (C : Int) ≤ (rc : Int) := by omega
                by_cases hw : (cellAt r C).wide = 0
                · have Hw := Lib.hid hw
                  rw [hw] at cw
                  clear hw
                  go_wp2_with fail
                  refine (Blank_calls _).mono ?_; rintro e w1 ⟨rfl, hw1⟩
                  have hat1 := g8.chg hw1 (fun h => h)
                  go_wp2_with (refine wpList_store_elem (by rfl) 32 _ _ (by rfl) rb ro ((C - 1) * 3) (flatC Blank) (by rfl) (by rfl) hat1 (by simp [flatC]; omega) szCell flatC_one ?_; intro w2 h2 hw2 hs2)
                  go_meet
                  refine ⟨C, (r.set (C - 1) Blank).take C, rfl, Nat.le_refl _, ?_, by simp; omega, ?_, ((Chg.refl _ wr).thenN hw1).then hw2⟩
                  · rw [← flat_set _ _ _ (by omega)] at h2
                    rw [flat_take]
                    exact h2.take C (by omega)
                  · rw [fitRow, if_pos hC, if_pos Hw.out, Nat.sub_self]; simp [blankRow]
                · have hwb : ((cellAt r C).wide == 0) = false := by simpa using hw
                  have Hw := Lib.hid hw
                  clear hw
                  go_wp2_with fail
                  go_meet
                  refine ⟨C, r.take C, rfl, Nat.le_refl _, ?_, by simp; omega, ?_, Chg.refl _ wr⟩
                  · rw [flat_take]; exact g8.take C (by omega)
                  · rw [fitRow, if_pos hC, if_neg Hw.out, Nat.sub_self]; simp [blankRow]
              · have hCI : ¬ (C : Int) < (r.length : Int) := by omega
                go_wp2_with fail
                go_meet
                exact ⟨r.length, r, rfl, by omega, g8, rfl, by rw [fitRow, if_neg hC], Chg.refl _ wr⟩
            case rest =>
              obtain ⟨q, r3, rfl, hq, hat, hr3, hfit, hCd⟩ := hcut
              have d1 : wc.cell? ⟨p, 1, none⟩ = some (.slice (some ⟨lb, lo, none⟩) m cap) := hCd.cell c1 (fun e => hrbp e.symm)
              have hbl := hlblk.chg hCd hlbr
              have d3 : wc.cell? ⟨lb, lo + k, none⟩ = some (.slice (some ⟨rb, ro, none⟩) r.length rc) := hCd.cell g3 hlbr
              have hpd : p < wc.heap.size := Nat.lt_of_lt_of_le hp3 hCd.size
              have hCq : (C : Int) - (q : Int) = ((C - q : Nat) : Int) := by omega
              have hwq : IntKind.i64.wrap ((C - q : Nat) : Int) = ((C - q : Nat) : Int) := IntWalk.i64_in _ (by omega)
              have Hat := Lib.hid hat
              have HCd := Lib.hid hCd
              have Hfit := Lib.hid (And.intro hr3 hfit)
              clear hat hCd hr3 hfit c1 g3
              go_upto_region 15 with (fail)
              go_region_law (first | (have hgd := hcB; refine step_append_sl (o := ⟨some 127, _, _, _, _, _⟩) (by rfl) _ _ 29 (by rfl) eiCell (by rfl) (Sl.of (F := fun b => b = rb) ((Hat.out.chg ((Chg.refl Non wc).drew) (fun h => h)).chg hcB (fun h => h)) rfl) (by rfl) (hsB.rd (G := fun _ => True) (fun _ _ => trivial)) (flat_one _) (by omega) ?_; intro A6 c6 w6 hs6 hc6 hL6 hz6; have d1b := hc6.cell d1a (fun hw => hrbp (wbk_own rfl hw).symm); have hbl6 := ((hbl.drew).chg hcB (fun h => h)).chg hc6 (fun hw => hlbr (wbk_own rfl hw)); have d3b := hc6.cell d3a (fun hw => hlbr (wbk_own rfl hw)); have f3b := hbl6.frozen (lo + k)) | (go_simp; go_at_call 28; refine (blank_calls _ (C - q) (by omega)).mono ?_; rintro e w5 ⟨AB, cB, rfl, hsB, hcB⟩; have d1a := hcB.cell d1 (fun h => h); have d3a := hcB.cell d3 (fun h => h)))
              all_goals
                go_wp2_with fail
                have eC : q + (C - q) = C := by omega
                go_roundw
                case rel =>
                  have e5 : (fitRow C r).length = C := fitRow_len
                  have s1 := HCd.out.size
                  have s2 := hcB.size
                  have s3 : wc.drew.heap.size = wc.heap.size := rfl
                  have hs7 : Sl w6 32 3 (.slice A6 (fitRow C r).length c6) (fitRow C r).length (flat (fitRow C r)) (fun b => b = rb ∨ wr.heap.size ≤ b) := by
                    rw [e5, ← Hfit.out.2, flat_append]
                    rw [eC] at hs6
                    exact hs6.mono (fun b _ h => h.imp id (fun e => by omega))
                  have hcX : Chg (fun b => b = rb) wr w6 := (HCd.out.drew.thenN hcB).then (hc6.mono (fun b _ hw => wbk_own rfl hw))
                  have h3' := H3.out
                  rw [show m = (fitted C L k).length from Hlen3.out.symm] at h3'
                  obtain ⟨vs4, bs4, F4, h4, hC4, hN4, _, _⟩ := fit_end h3' (k := k) (by show k < (fitted C L k).length; rw [Hlen3.out]; exact hlt) G5.out hcX hs7 (by rw [e5]; omega)
                  rw [e5] at h4 hC4
                  have e6 : (fitted C L k).set k (fitRow C r) = fitted C L (k + 1) := by rw [Hr.out]; exact fitted_set C L hkL
                  refine ⟨k + 1, by go_num, by omega, vs4, bs4, F4, ?_, HN.out.1.trans hC4 (fun b hb => HN.out.2 b hb), fun b hb => ?_⟩
                  · rw [← e6, show m = (fitted C L k).length from Hlen3.out.symm]; exact h4
                  · have := HN.out.1.size
                    rcases hN4 b hb with h | h
                    · exact HN.out.2 b h
                    · exact .inr (by omega)
                case measure => simp [intOf]; omega
          · have hge : ¬ (k : Int) < (m : Int) := by omega
            have H3 := Lib.hid h3
            clear h3
            go_wp2_with fail
            go_meet
            have h3 := H3.out
            rw [fitted_all C L (by have := HLl.out; omega)] at h3
            exact ⟨F3, ⟨_, _, _, _, _, _, _, h3⟩, hC3, hN3⟩
      case rest =>
        obtain ⟨F3, hI3, hC3, hN3⟩ := hcut
        have HI3 := Lib.hid hI3
        have HC3 := Lib.hid (And.intro hC3 hN3)
        clear hI3 hC3 hN3 d1
        go_upto_block 4 with (fail)
        go_cut [] (fun wd => ∃ F4, IsTerm wd p { t1 with l := L.map (fitRow C) ++ List.replicate (R - m) (blankRow C) } F4 ∧ Chg F3 wc wd ∧ ∀ b, F4 b → F3 b ∨ wc.heap.size ≤ b)
        case first =>
          go_wp2_with fail
          go_loopg [] (R - m) (fun k wr => ∃ j F4, IsTerm wr p { t1 with l := L.map (fitRow C) ++ List.replicate j (blankRow C) } F4 ∧ Chg F3 wc wr ∧ (∀ b, F4 b → F3 b ∨ wc.heap.size ≤ b) ∧ k + j = R - m)
          case atStart => exact ⟨0, F3, by simpa using HI3.out, Chg.refl _ _, fun b hb => .inl hb, rfl⟩
          case round =>
            obtain ⟨j, F4, ⟨lv, gv, bv, vs, gs, bs, gb, h4⟩, hC4, hN4, hj⟩ := hrel
            have hlen : (L.map (fitRow C) ++ List.replicate j (blankRow C)).length = m + j := by simp [HLl.out]
            obtain ⟨A, cap4, hv, q1, q2⟩ := h4.l.shape
            simp only [hlen] at hv
            subst hv
            have d1 : wr.cell? ⟨p, 1, none⟩ = some (.slice A (m + j) cap4) := h4.cells.2.1
            have df1 := h4.frozen 1
            have hp4 := h4.blk.lt
            have hmR : m ≤ R := by have := Hm.out; omega
            have hsl := h4.l
            simp only [hlen] at hsl
            have H4 := Lib.hid h4
            have Hsl := Lib.hid hsl
            have HC4 := Lib.hid (And.intro hC4 hN4)
            have Hlen := Lib.hid hlen
            have Hj := Lib.hid (And.intro hj hmR)
            clear h4 hC4 hN4 hlen hsl q1 q2
            by_cases hlt : m + j < R
            · have hlt' : ((m + j : Nat) : Int) < (R : Int) := by omega
              have hlt2 : (m : Int) + (j : Int) < (R : Int) := by omega
              clear hj hmR
              go_upto_region 18 with (fail)
              go_region_law (first | (have hguard := hcB; refine step_append_sl (o := ⟨some 145, _, _, _, _, _⟩) (by rfl) _ _ 55 (by rfl) eiRow (by rfl) (((Hsl.out.chg ((Chg.refl Non wr).drew) (fun _ _ h => h)).chg hcB (fun _ _ h => h)).chg ((Chg.refl Non _).alloc (.cells #[.slice AB C cB] 29)) (fun _ _ h => h)) (by rfl) (Rd.new _ [_] _ _ (by rfl) (by omega)) (by simp [Value.oneCell']) (by omega) ?_; intro A2 cap2 w2 hs2 hc2 hl2 hz2; have hb2 := (((H4.out.blk.drew).chg hcB (fun h => h)).alloc (.cells #[.slice AB C cB] 29)).chg hc2 (fun hw => absurd (Hsl.out.wbT hw H4.out.blk) (by decide)); have c2' := hb2.cell 1; have f2' := hb2.frozen 1) | (go_simp; go_at_call 28; refine (blank_calls _ C (by omega)).mono ?_; rintro e w1 ⟨AB, cB, rfl, hsB, hcB⟩; have d1' := hcB.cell d1 (fun h => h); have hp5 := Nat.lt_of_lt_of_le hp4 hcB.size))
              all_goals
                go_wp2_with fail
                have eB : (blankRow C).length = C := by simp [blankRow]
                have hT := snoc_end (r := blankRow C) H4.out (by rw [eB]; exact hsB) (((Chg.refl Non wr).drew).thenN hcB) (by rw [eB]; omega) (by rw [eB]; simp only [Hlen.out]; exact hs2) (by rw [eB]; exact hc2) (by rw [eB]; simp only [Hlen.out]; exact hl2)
                simp only [Hlen.out] at hT
                obtain ⟨F5, hI5, hC5, hN5⟩ := hT
                go_roundg (R - m - (j + 1))
                case measure => have := Hj.out; omega
                case rel =>
                  have hj2 := Hj.out
                  have s1 := HC4.out.1.size
                  refine ⟨j + 1, F5, ?_, HC4.out.1.trans hC5 (fun b hb => HC4.out.2 b hb), fun b hb => ?_, by omega⟩
                  · rw [List.replicate_succ', ← List.append_assoc]
                    exact hI5
                  · rcases hN5 b hb with h | h
                    · exact HC4.out.2 b h
                    · exact .inr (by omega)
            · have hge : ¬ ((m + j : Nat) : Int) < (R : Int) := by omega
              have hge2 : ¬ (m : Int) + (j : Int) < (R : Int) := by omega
              clear hj hmR
              go_wp2_with fail
              go_meet
              have hj2 := Hj.out
              have e : j = R - m := by omega
              subst e
              exact ⟨F4, ⟨_, _, _, _, _, _, _, H4.out⟩, HC4.out.1, HC4.out.2⟩
        case rest =>
          obtain ⟨F4, hI4, hC4, hN4⟩ := hcut
          obtain ⟨lv, gv, bv, vs, gs, bs, gb, h4⟩ := hI4
          obtain ⟨c0, _, _, _, c4, c5, _⟩ := h4.cells
          simp only at c0 c4 c5
          have f0 := h4.frozen 0
          have hcs : Chg (fun b => b = p) wc (wc.setCell ⟨p, 0, none⟩ (.int .i64 C)) := (Chg.at0 p wc).at_ _ _
          have eS : sized t1 R C = { t1 with cols := C, l := L.map (fitRow C) ++ List.replicate (R - m) (blankRow C) } := by
            have e1 : R - t1.l.length = R - m := by have := Hm.out; omega
            rw [sized, Htl.out, ← HL.out, e1]
          have hIs : IsTerm (wc.setCell ⟨p, 0, none⟩ (.int .i64 C)).drew p (sized t1 R C) F4 := by
            rw [eS]
            exact ⟨_, _, _, _, _, _, _, (h4.head (t' := { t1 with cols := C, l := L.map (fitRow C) ++ List.replicate (R - m) (blankRow C) }) hcs (h4.blk.set 0 (.int .i64 C)) rfl rfl rfl).chgN ((Chg.refl Non _).drew)⟩
          have hto := to_calls hIs t1.row t1.col (by rw [sized_len]; exact hR.1) hC.1 (by show C ≤ 1000; omega)
          have hown := h4.own
          have Hto := Lib.hid hto
          have HIs := Lib.hid hIs
          have HC4 := Lib.hid (And.intro hC4 hN4)
          have HCs := Lib.hid hcs
          clear h4 hto hIs hC4 hN4 hcs eS
          go_wp2_with fail
          go_region_with (go_at_call 32; refine Hto.out.mono ?_; rintro e w3 ⟨rfl, hP, hcP⟩)
          all_goals
            go_wp2_with fail
            go_end0
            refine ⟨rfl, ?_⟩
            have q1 := hHC1.out
            have q2 := HC2.out
            have q3 := HC3.out
            have q4 := HC4.out
            have r4 : Turned _ p F4 (moveTo (sized t1 R C) t1.row t1.col) w3 := Turned.same hP ((chgP hown HCs.out).drew.then (chgP hown hcP))
            exact Turned.then q1.1 q1.2 (Turned.then q2.1 q2.2 (Turned.then q3.1 q3.2 (Turned.then q4.1 q4.2 r4)))
end T
end Go.Proofs.YtoegjmeoeefllaaGreatDoor
