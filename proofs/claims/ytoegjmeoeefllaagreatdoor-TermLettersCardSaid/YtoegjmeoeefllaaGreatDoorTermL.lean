/- Walks: join; sign. -/
import Derived.Test.YtoegjmeoeefllaaGreatDoorTermK
import Derived.Deep.Cut
import Derived.Deep.CutBlock
namespace Go.Proofs.YtoegjmeoeefllaaGreatDoor
open Go Go.RowKit
namespace T
attribute [local go_sem high] run_max_2 run_min_2
attribute [local go_sem ↓] Go.wp_at_zero Go.wp_at_succ

theorem cell_le {cols n : Nat} {r : List Cell} (h : RowOk cols n r) (j : Nat) : (cellAt r j).s.size ≤ n + 4 := by
  unfold cellAt
  rw [List.getD_eq_getElem?_getD]
  by_cases hj : j < r.length
  · rw [List.getElem?_eq_getElem hj]; exact h.2.2 _ (List.getElem_mem hj)
  · rw [List.getElem?_eq_none (by omega)]; show Blank.s.size ≤ _; rw [Blank_size]; omega

theorem cells_of {w : World} {p : Nat} {t : Term} {F : Nat → Prop} (h : IsTerm w p t F) : w.cell? ⟨p, 4, none⟩ = some (.int .i64 t.row) ∧ w.cell? ⟨p, 5, none⟩ = some (.int .i64 t.col) := by
  obtain ⟨_, _, _, _, _, _, _, h⟩ := h
  exact ⟨h.cells.2.2.2.2.1, h.cells.2.2.2.2.2.1⟩

theorem cell7_of {w : World} {p : Nat} {t : Term} {F : Nat → Prop} (h : IsTerm w p t F) : w.cell? ⟨p, 7, none⟩ = some (.bool t.dim) := by
  obtain ⟨_, _, _, _, _, _, _, h⟩ := h
  exact h.cells.2.2.2.2.2.2.2.1

theorem wrap_one {x : Nat} (h : x ≤ 1000) : IntKind.i64.wrap ((x : Int) + 1) = (x : Int) + 1 := IntWalk.i64_in _ (by omega)
theorem wrap64_one {x : Nat} (h : x ≤ 1000) : wrap64 ((x : Int) + 1) = (x : Int) + 1 := by unfold wrap64; omega
theorem wrap64_add {x : Nat} {w : Int} (h : x ≤ 1000) (hw : w = 1 ∨ w = 2) : wrap64 ((x : Int) + w) = (x : Int) + w := by unfold wrap64; omega
theorem wrap_add {x : Nat} {w : Int} (h : x ≤ 1000) (hw : w = 1 ∨ w = 2) : IntKind.i64.wrap ((x : Int) + w) = (x : Int) + w := IntWalk.i64_in _ (by omega)
theorem wrap64_pred {x : Nat} (h : x ≤ 1000) (h1 : 1 ≤ x) : wrap64 ((x : Int) - 1) = ((x - 1 : Nat) : Int) := by unfold wrap64; omega
theorem wrap_pred {x : Nat} (h : x ≤ 1000) (h1 : 1 ≤ x) : IntKind.i64.wrap ((x : Int) - 1) = ((x - 1 : Nat) : Int) := by rw [IntWalk.i64_in _ (by omega)]; omega

theorem join_calls {p : Nat} {w : World} {t : Term} {F : Nat → Prop} {o n : Nat} (h : IsTerm w p t F) (hk : Ok o n t) (hn : n ≤ 1000000000) {s : ByteArray} (hs4 : s.size ≤ 4) :
    Calls Tryz.prog 45 #[.pointer (some ⟨p, 0, none⟩), .string s] w fun e w' => e = .returned (.tuple #[]) ∧ IsTerm w' p (join t s) F ∧ Chg F w w' := by
  have hI := h
  obtain ⟨lv, gv, bv, vs, gs, bs, gb, h⟩ := h
  have hr := hk.row
  have hR := hk.rowOk hk.row
  have hcol := hk.col
  have hc1 := hk.c1
  obtain ⟨c0, c1, c2, c3, c4, c5, c6, _⟩ := h.cells
  obtain ⟨lb, lo, cap, rb, ro, rc, rfl, h1, h2, h3, h4, h5, h6, h7, h8⟩ := h.row hr
  have main : ∀ c, ((t.full = true ∧ c = t.col) ∨ (t.full = false ∧ 0 < t.col ∧ c = t.col - 1)) → join t s = setRow t t.row (addS (rowAt t.l t.row) (joinAt (rowAt t.l t.row) c) s) →
      Calls Tryz.prog 45 #[.pointer (some ⟨p, 0, none⟩), .string s] w fun e w' => e = .returned (.tuple #[]) ∧ IsTerm w' p (join t s) F ∧ Chg F w w' := fun c hcc hj => by
    have hcl : c < (rowAt t.l t.row).length := by have := hR.2.1; omega
    obtain ⟨hz, _⟩ := hR.1.joinAt hcl
    refine (join_walk p w s t lb lo _ cap rb ro _ rc c _ hcc (by rw [hR.2.1]; exact hcol) hs4 (fun j => by have := cell_le hR j; omega) c1 c4 c5 c6 h3 h8 rfl hr (by rw [hR.2.1]; omega) hz).mono ?_
    rintro e w' ⟨rfl, h9, h10⟩
    have e1 : (addS (rowAt t.l t.row) (joinAt (rowAt t.l t.row) c) s).length = (rowAt t.l t.row).length := by simp [addS]
    have hF := h.rows.F (List.mem_of_getElem? h5)
    rw [hj]
    exact ⟨rfl, ⟨_, _, _, _, _, _, _, h.setRow hr h5 h4 h10 (by rw [e1]; exact h9)⟩, h10.mono (fun k _ e => e ▸ hF)⟩
  by_cases hf : t.full = true
  · exact main t.col (.inl ⟨hf, rfl⟩) (by unfold join; rw [if_pos hf])
  · have hf' : t.full = false := by simpa using hf
    by_cases h0 : 0 < t.col
    · exact main (t.col - 1) (.inr ⟨hf', h0, rfl⟩) (by unfold join; rw [if_neg hf, if_pos h0])
    · have hj : join t s = t := by unfold join; rw [if_neg hf, if_neg h0]
      rw [hj]
      rw [hf'] at c6
      rw [show (t.col : Int) = 0 by omega] at c5
      clear main h hk
      go_enter Tryz.func45, Tryz.ntmps45
      go_wp2_with fail
      refine bodyPost_ret (results_none rfl _ _ _) rfl ?_
      exact ⟨rfl, hI, Chg.refl _ _⟩

set_option maxRecDepth 100000 in
set_option maxHeartbeats 1000000 in
theorem sign_calls {p : Nat} {w : World} {t : Term} {F : Nat → Prop} {o n : Nat} (h : IsTerm w p t F) (hk : Ok o n t) (ho : o ≤ 100000000) (hn : n ≤ 1000000000) (r : Int) :
    Calls Tryz.prog 36 #[.pointer (some ⟨p, 0, none⟩), .int .i32 r] w fun e w' => e = .returned (.tuple #[]) ∧ Turned w p F (signR t r) w' := by
  have HK := Lib.hid hk
  have HI := Lib.hid h
  have hcv : ∀ w r, (convert 21 9 (.int .i32 r)).run Tryz.prog w = .ok (.string (Utf8.encode r)) w := fun w r => run_convert_rune w _ _ r Tryz.underlying21 Tryz.underlying9
  clear h
  cases hctl : Wd.isControl r with
  | true =>
    have e : signR t r = t := by unfold signR; rw [if_pos hctl]
    rw [e]
    clear e hk
    go_enter Tryz.func36, Tryz.ntmps36
    go_wp2_with fail
    refine (Wd.Of_calls r w).mono ?_
    rintro e w1 ⟨rfl, hc1⟩
    go_wp2_with fail
    refine (Wd.Control_calls r w1).mono ?_
    rintro e _ ⟨rfl, rfl⟩
    rw [hctl]
    go_wp2_with fail
    refine bodyPost_ret (results_none rfl _ _ _) rfl ?_
    exact ⟨rfl, Turned.same (HI.out.chg hc1 (fun _ _ h => h)) (hc1.mono (fun _ _ h => h.elim))⟩
  | false =>
    by_cases h0 : Wd.ofR r = 0
    · have e : signR t r = join t (Utf8.encode r) := by unfold signR; rw [if_neg (by rw [hctl]; decide), if_pos h0]
      rw [e]
      clear e hk
      go_enter Tryz.func36, Tryz.ntmps36
      go_wp2_with fail
      refine (Wd.Of_calls r w).mono ?_
      rintro e w1 ⟨rfl, hc1⟩
      go_wp2_with fail
      refine (Wd.Control_calls r w1).mono ?_
      rintro e _ ⟨rfl, rfl⟩
      go_wp2_with fail
      refine (join_calls (HI.out.chg hc1 (fun _ _ h => h)) HK.out hn (encode_size r).2).mono ?_
      rintro e w2 ⟨rfl, hI2, hC2⟩
      go_wp2_with fail
      refine bodyPost_ret (results_none rfl _ _ _) rfl ?_
      exact ⟨rfl, Turned.same hI2 ((hc1.mono (fun _ _ h => h.elim)).then hC2)⟩
    · obtain ⟨wd, hwd⟩ : ∃ wd, wd = Wd.ofR r := ⟨_, rfl⟩
      have hw : wd = 1 ∨ wd = 2 := by rw [hwd]; rcases ofR_cases r with h | h | h; contradiction; exact .inl h; exact .inr h
      have e : signR t r = moved (printed (room (wrapped t) (sgn (wrapped t) r wd).2) (sgn (wrapped t) r wd).1 (sgn (wrapped t) r wd).2) (sgn (wrapped t) r wd).2 := by
        unfold signR; rw [if_neg (by rw [hctl]; decide), if_neg h0, hwd]
      rw [e]
      have hOf := fun w => Wd.Of_calls r w
      rw [← hwd] at hOf
      have hb0 : (wd == 0) = false := by rcases hw with rfl | rfl <;> rfl
      obtain ⟨t1, ht1⟩ : ∃ t1, t1 = wrapped t := ⟨_, rfl⟩
      have HK1 : Hid (Ok (o + 1) n t1) := Lib.hid (ht1 ▸ hk.wrapped)
      rw [← ht1]
      have HT1 := Lib.hid ht1
      obtain ⟨⟨r2, w2⟩, hs⟩ : ∃ q, q = sgn t1 r wd := ⟨_, rfl⟩
      have hw2 := sgn_room HK1.out (r := r) hw
      rw [← hs]
      rw [← hs] at hw2
      simp only at hw2
      show Calls _ _ _ _ (fun e w' => e = _ ∧ Turned w p F (moved (printed (room t1 w2) r2 w2) w2) w')
      obtain ⟨t2, ht2⟩ : ∃ t2, t2 = room t1 w2 := ⟨_, rfl⟩
      have HK2 : Hid (Ok (o + 1 + 1) n t2) := Lib.hid (ht2 ▸ HK1.out.room w2)
      rw [← ht2] at hw2 ⊢
      have HT2 := Lib.hid ht2
      have HS := Lib.hid hs
      have HW2 := Lib.hid hw2
      clear e hwd h0 ht1 hk hs ht2 hw2
      go_enter Tryz.func36, Tryz.ntmps36
      go_wp2_with fail
      refine (hOf w).mono ?_
      rintro e w1 ⟨rfl, hc1⟩
      go_upto_block 0 with (fail)
      go_cut [] (fun wc => Turned w p F t1 wc)
      case first =>
        have hI1 := HI.out.chg hc1 (fun _ _ h => h)
        obtain ⟨lv, gv, bv, vs, gs, bs, gb, h⟩ := id hI1
        obtain ⟨c0, c1, c2, c3, c4, c5, c6, _⟩ := h.cells
        have HI1 := Lib.hid hI1
        clear h hI1
        go_wp2_with fail
        refine (Wd.Control_calls r w1).mono ?_
        rintro e _ ⟨rfl, rfl⟩
        rw [hctl]
        by_cases hf : t.full = true
        · have e : wrapped t = { down t with col := 0 } := by unfold wrapped; rw [if_pos hf]
          have HE := Lib.hid e
          rw [hf] at c6
          clear e hf
          go_wp2_with fail
          refine (down_calls HI1.out (HK.out.dim (by omega))).mono ?_
          rintro e w2 ⟨rfl, F2, hI2, hC2, hN2⟩
          obtain ⟨lv2, gv2, bv2, vs2, gs2, bs2, gb2, h2⟩ := id hI2
          have d5 := h2.cells.2.2.2.2.2.1
          have f5 := h2.frozen 5
          have hc3 : Chg (fun b => b = p) w2 (w2.setCell ⟨p, 5, none⟩ (.int .i64 0)) := (Chg.at0 p w2).at_ _ _
          have hI3 : IsTerm (w2.setCell ⟨p, 5, none⟩ (.int .i64 0)) p { down t with col := 0 } F2 := ⟨_, _, _, _, _, _, _, h2.head (t' := { down t with col := 0 }) hc3 (h2.blk.set 5 (.int .i64 0)) rfl rfl rfl⟩
          have HI3 := Lib.hid hI3
          clear h2 hI2 hI3
          go_wp2_with fail
          go_meet
          rw [HT1.out, HE.out]
          exact Turned.then ((hc1.mono (fun _ _ h => h.elim)).then hC2) (fun b hb => (hN2 b hb).imp id (fun h => by have := hc1.size; omega)) (Turned.same HI3.out (hc3.mono (fun k _ e => e ▸ HI3.out.own)))
        · have hf' : t.full = false := by simpa using hf
          have e : wrapped t = t := by unfold wrapped; rw [if_neg hf]
          have HE := Lib.hid e
          rw [hf'] at c6
          clear e hf hf'
          go_wp2_with fail
          go_meet
          rw [HT1.out, HE.out]
          exact Turned.same HI1.out (hc1.mono (fun _ _ h => h.elim))
      case rest =>
        obtain ⟨F1, hI1, hC1, hN1⟩ := hcut
        obtain ⟨lv, gv, bv, vs, gs, bs, gb, h⟩ := id hI1
        obtain ⟨c0, c1, c2, c3, c4, c5, c6, _⟩ := h.cells
        have HI1 := Lib.hid hI1
        clear h hI1 c1 c2 c3 c6
        go_upto_region 7 with (fail)
        go_cut [35] (fun v wd2 => v = .bool (decide (wd = 2 ∧ t1.cols = 1)) ∧ wc = wd2)
        case first =>
          rcases hw with rfl | rfl
          · go_wp2_with fail
            go_meet
            exact ⟨rfl, rfl⟩
          · go_wp2_with fail
            go_meet
            exact ⟨by simp only [true_and]; rw [show ((t1.cols : Int) == 1) = decide (t1.cols = 1) by rw [Bool.eq_iff_iff]; simp; omega], rfl⟩
        case rest =>
          obtain ⟨hv, rfl⟩ := hcut
          subst hv
          go_upto_if 35 with (fail)
          go_cut [1, 4] (fun a b wd2 => a = .int .i32 r2 ∧ b = .int .i64 w2 ∧ wc = wd2)
          case first =>
            by_cases hd : wd = 2 ∧ t1.cols = 1
            · have HE : Hid ((r2, w2) = (65533, 1)) := Lib.hid (HS.out.trans (if_pos hd))
              rw [decide_eq_true hd]
              clear hd
              go_wp2_with fail
              go_meet
              obtain ⟨rfl, rfl⟩ := Prod.mk.inj HE.out
              exact ⟨rfl, rfl, rfl⟩
            · have HE : Hid ((r2, w2) = (r, wd)) := Lib.hid (HS.out.trans (if_neg hd))
              rw [decide_eq_false hd]
              clear hd
              go_wp2_with fail
              go_meet
              obtain ⟨rfl, rfl⟩ := Prod.mk.inj HE.out
              exact ⟨rfl, rfl, rfl⟩
          case rest =>
            obtain ⟨rfl, rfl, rfl⟩ := hcut
            have hwr : wrap64 ((t1.col : Int) + w2) = (t1.col : Int) + w2 := by
              have b1 : t1.col < t1.cols := HK1.out.col
              have b2 : t1.cols ≤ 120 := HK1.out.c1
              have b3 : w2 = 1 ∨ (w2 = 2 ∧ t2.col + 1 < t2.cols) := HW2.out
              exact wrap64_add (by omega) (b3.imp id (fun h => h.1))
            go_upto_region 9 with (fail)
            go_cut [46] (fun v wd2 => v = .bool (decide ((t1.cols : Int) < t1.col + w2)) ∧ ∃ m, wd2 = wc.drewN m)
            case first =>
              go_quiet (fail)
              go_wp2_with fail
              go_meet
              exact ⟨rfl, _, rfl⟩
            case rest =>
              obtain ⟨rfl, m, rfl⟩ := hcut
              have hIa := HI1.out.chg ((Chg.refl Non wc).drewN m) (fun _ _ h => h)
              have hCa := hC1.drewN m
              clear c0 c4 c5
              generalize wc.drewN m = wa at hIa hCa
              have hq4 : wa.drew.cell? ⟨p, 4, none⟩ = some (.int .i64 t1.row) := by obtain ⟨_, _, _, _, _, _, _, h⟩ := hIa; exact h.cells.2.2.2.2.1
              have hq5 : wa.drew.cell? ⟨p, 5, none⟩ = some (.int .i64 t1.col) := by obtain ⟨_, _, _, _, _, _, _, h⟩ := hIa; exact h.cells.2.2.2.2.2.1
              have hId := Lib.hid (hIa.chg ((Chg.refl Non wa).drew) (fun _ _ h => h))
              have HIa := Lib.hid hIa
              clear hIa
              go_upto_if 46 with (fail)
              go_cut [] (fun wd2 => Turned w p F t2 wd2)
              case first =>
                by_cases hgt : (t1.cols : Int) < t1.col + w2
                · have HE : Hid (t2 = { down (put t1 t1.row t1.col Blank) with col := 0 }) := Lib.hid (HT2.out.trans (if_pos hgt))
                  rw [decide_eq_true hgt]
                  clear hgt
                  have hR := HK1.out.rowOk HK1.out.row
                  have hcl : t1.col < (rowAt t1.l t1.row).length := by rw [hR.2.1]; exact HK1.out.col
                  have hpo := Lib.hid (hR.1.putOk hcl)
                  have Hcl := Lib.hid hcl
                  clear hR hcl
                  go_upto_region 10 with (fail)
                  go_cut [] (fun wd2 => IsTerm wd2 p (put t1 t1.row t1.col Blank) F1 ∧ Chg F1 wa wd2)
                  case first =>
                    go_region_held3 (fun w' => w'.cell? ⟨p, 4, none⟩ = some (.int .i64 t1.row) ∧ w'.cell? ⟨p, 5, none⟩ = some (.int .i64 t1.col)) (first | exact ⟨hq4, hq5⟩ | exact ⟨by assumption, by assumption⟩) (first
                      | (have hgd := hcP; fail)
                      | (have hgd := hcB; go_at_call 47; refine (put_calls (hId.out.chg hcB (fun _ _ h => h)) t1.row t1.col Blank HK1.out.row Hcl.out hpo.out.1 hpo.out.2).mono ?_; rintro e w3 ⟨rfl, hP, hcP⟩; have p4 := (cells_of hP).1; have p5 := (cells_of hP).2)
                      | (go_at_call 25; refine (Blank_calls _).mono ?_; rintro e w3 ⟨rfl, hcB⟩; have p4 := hcB.cell hq4 (fun h => h); have p5 := hcB.cell hq5 (fun h => h)))
                    go_wp2_with fail
                    go_meet
                    exact ⟨hP, (((Chg.refl F1 wa).drew).thenN hcB).then hcP⟩
                  case rest =>
                    obtain ⟨hIb, hCb⟩ := hcut
                    have hdb : Dim (put t1 t1.row t1.col Blank) := (HK1.out.putBlank).dim (by omega)
                    have HIb := Lib.hid hIb
                    have Hdb := Lib.hid hdb
                    clear hIb hdb
                    go_wp2_with fail
                    refine (down_calls HIb.out Hdb.out).mono ?_
                    rintro e w3 ⟨rfl, F3, hI3, hC3, hN3⟩
                    obtain ⟨lv3, gv3, bv3, vs3, gs3, bs3, gb3, h3⟩ := id hI3
                    have d5 := h3.cells.2.2.2.2.2.1
                    have f5 := h3.frozen 5
                    have hc4 : Chg (fun b => b = p) w3 (w3.setCell ⟨p, 5, none⟩ (.int .i64 0)) := (Chg.at0 p w3).at_ _ _
                    have hI4 : IsTerm (w3.setCell ⟨p, 5, none⟩ (.int .i64 0)) p { down (put t1 t1.row t1.col Blank) with col := 0 } F3 := ⟨_, _, _, _, _, _, _, h3.head (t' := { down (put t1 t1.row t1.col Blank) with col := 0 }) hc4 (h3.blk.set 5 (.int .i64 0)) rfl rfl rfl⟩
                    have HI4 := Lib.hid hI4
                    clear h3 hI3 hI4
                    go_wp2_with fail
                    go_meet
                    rw [HE.out]
                    exact Turned.then hCa hN1 (Turned.after hCb (Turned.then hC3 hN3 (Turned.same HI4.out (hc4.mono (fun k _ e => e ▸ HI4.out.own)))))
                · have HE : Hid (t2 = t1) := Lib.hid (HT2.out.trans (if_neg hgt))
                  rw [decide_eq_false hgt]
                  clear hgt
                  go_wp2_with fail
                  go_meet
                  rw [HE.out]
                  exact ⟨F1, HIa.out, hCa, hN1⟩
              case rest =>
                obtain ⟨F2, hI2, hC2, hN2⟩ := hcut
                have hR := HK2.out.rowOk HK2.out.row
                have hcl : t2.col < (rowAt t2.l t2.row).length := by rw [hR.2.1]; exact HK2.out.col
                have hpo := Lib.hid (hR.1.putOk hcl)
                have Hcl := Lib.hid hcl
                have HR := Lib.hid hR
                have hq4 : wc.drew.cell? ⟨p, 4, none⟩ = some (.int .i64 t2.row) := (cells_of hI2).1
                have hq5 : wc.drew.cell? ⟨p, 5, none⟩ = some (.int .i64 t2.col) := (cells_of hI2).2
                have hq7 : wc.drew.cell? ⟨p, 7, none⟩ = some (.bool t2.dim) := by obtain ⟨_, _, _, _, _, _, _, h⟩ := hI2; exact h.cells.2.2.2.2.2.2.2.1
                have hId2 := Lib.hid (hI2.chg ((Chg.refl Non wc).drew) (fun _ _ h => h))
                clear hI2 hR hcl hwr
                obtain ⟨t3, ht3⟩ : ∃ t3, t3 = put t2 t2.row t2.col (signC t2 r2 w2) := ⟨_, rfl⟩
                have HT3 := Lib.hid ht3
                clear ht3
                go_upto_region 13 with (fail)
                go_cut [] (fun wd2 => IsTerm wd2 p t3 F2 ∧ Chg F2 wc wd2)
                case first =>
                  go_region_held3 (fun w' => w'.cell? ⟨p, 4, none⟩ = some (.int .i64 t2.row) ∧ w'.cell? ⟨p, 5, none⟩ = some (.int .i64 t2.col) ∧ w'.cell? ⟨p, 7, none⟩ = some (.bool t2.dim)) (first | exact ⟨hq4, hq5, hq7⟩ | exact ⟨by assumption, by assumption, by assumption⟩) (first
                      | (have hgd := hcP; fail)
                      | (go_at_call 47; refine (put_calls hId2.out t2.row t2.col (signC t2 r2 w2) HK2.out.row Hcl.out hpo.out.1 hpo.out.2).mono ?_; rintro e w3 ⟨rfl, hP, hcP⟩; have p4 := (cells_of hP).1; have p5 := (cells_of hP).2; have p7 := cell7_of hP))
                  go_wp2_with fail
                  go_meet
                  exact ⟨by rw [HT3.out]; exact hP, ((Chg.refl F2 wc).drew).then hcP⟩
                case rest =>
                  obtain ⟨hI3, hC3⟩ := hcut
                  clear hq4 hq5 hq7
                  obtain ⟨t4, ht4⟩ : ∃ t4, t4 = printed t2 r2 w2 := ⟨_, rfl⟩
                  have HK4 : Hid (Ok (o + 1 + 1) n t4) := Lib.hid (ht4 ▸ HK2.out.printed r2 HW2.out)
                  have HT4 := Lib.hid ht4
                  clear ht4
                  have HI3 := Lib.hid hI3
                  clear hI3
                  go_upto_if 82 with (fail)
                  go_cut [] (fun wd2 => IsTerm wd2 p t4 F2 ∧ Chg F2 wc wd2)
                  case first =>
                    rcases HW2.out with hw1 | ⟨hw1, hroom⟩
                    · have HE : Hid (t4 = t3) := Lib.hid (by rw [HT4.out, HT3.out, printed, if_neg (by rw [hw1]; decide)])
                      subst hw1
                      go_wp2_with fail
                      go_meet
                      exact ⟨by rw [HE.out]; exact HI3.out, Chg.refl _ _⟩
                    · have HE : Hid (t4 = put t3 t3.row (t3.col + 1) (half t3)) := Lib.hid (by rw [HT4.out, HT3.out, printed, if_pos hw1]; rfl)
                      have e1 : (rowAt t3.l t3.row) = putRow (rowAt t2.l t2.row) t2.col (signC t2 r2 w2) := by rw [HT3.out]; simp only [put, rowAt_set _ _ _ _ HK2.out.row, if_pos]
                      have e2 : t3.row < t3.l.length := by rw [HT3.out]; simpa [put] using HK2.out.row
                      have e3 : t3.col = t2.col := by rw [HT3.out]; rfl
                      have hlen2 : (rowAt t2.l t2.row).length = t2.cols := HR.out.2.1
                      have hpo2 : PutOk (rowAt t3.l t3.row) (t3.col + 1) := by rw [e1, e3]; exact HR.out.1.putOk2 (by rw [hlen2]; exact hroom)
                      have hcl2 : t3.col + 1 < (rowAt t3.l t3.row).length := by rw [e1, putRow_length, hlen2, e3]; exact hroom
                      have hq4 : wc.drew.cell? ⟨p, 4, none⟩ = some (.int .i64 t3.row) := (cells_of HI3.out).1
                      have hq5 : wc.drew.cell? ⟨p, 5, none⟩ = some (.int .i64 t3.col) := (cells_of HI3.out).2
                      have hq7 : wc.drew.cell? ⟨p, 7, none⟩ = some (.bool t3.dim) := cell7_of (HI3.out.chg ((Chg.refl Non wc).drew) (fun _ _ h => h))
                      have hput := put_calls (HI3.out.chg ((Chg.refl Non wc).drew) (fun _ _ h => h)) t3.row (t3.col + 1) (half t3) e2 hcl2 hpo2.1 hpo2.2
                      rw [show ((t3.col + 1 : Nat) : Int) = (t3.col : Int) + 1 from rfl] at hput
                      have b2 : t2.cols ≤ 120 := HK2.out.c1
                      have b3 : t3.col ≤ 1000 := by omega
                      have hwr3 := wrap64_one b3
                      have hwk := Lib.hid (wrap_one b3)
                      have Hput := Lib.hid hput
                      subst hw1
                      clear hput e1 e2 e3 hlen2 hpo2 hcl2 hroom b2 b3
                      go_upto_region 15 with (fail)
                      go_region_held3 (fun w' => w'.cell? ⟨p, 4, none⟩ = some (.int .i64 t3.row) ∧ w'.cell? ⟨p, 5, none⟩ = some (.int .i64 t3.col) ∧ w'.cell? ⟨p, 7, none⟩ = some (.bool t3.dim)) (first | exact ⟨hq4, hq5, hq7⟩ | exact ⟨by assumption, by assumption, by assumption⟩) (first
                        | (have hgd := hcP; fail)
                        | (go_at_call 47; rw [hwk.out]; refine Hput.out.mono ?_; rintro e w3 ⟨rfl, hP, hcP⟩; have p4 := (cells_of hP).1; have p5 := (cells_of hP).2; have p7 := cell7_of hP))
                      go_wp2_with fail
                      go_meet
                      exact ⟨by rw [HE.out]; exact hP, ((Chg.refl F2 wc).drew).then hcP⟩
                  case rest =>
                    obtain ⟨hI4, hC4⟩ := hcut
                    obtain ⟨lv4, gv4, bv4, vs4, gs4, bs4, gb4, h4⟩ := id hI4
                    have q0 := h4.cells.1
                    have q5 := h4.cells.2.2.2.2.2.1
                    have q6 := h4.cells.2.2.2.2.2.2.1
                    have f5 := h4.frozen 5
                    have f6 := h4.frozen 6
                    have k1 : t4.col < t4.cols := HK4.out.col
                    have k2 : t4.cols ≤ 120 := HK4.out.c1
                    have k3 := HK4.out.c0
                    have hw12 : w2 = 1 ∨ w2 = 2 := HW2.out.imp id (fun h => h.1)
                    have hwr4 := wrap64_add (x := t4.col) (by omega) hw12
                    have hwk4 := wrap_add (x := t4.col) (by omega) hw12
                    have hwp := wrap64_pred (x := t4.cols) (by omega) k3
                    have hwq := wrap_pred (x := t4.cols) (by omega) k3
                    have hca : Chg (fun b => b = p) wc (wc.setCell ⟨p, 5, none⟩ (.int .i64 (t4.col + w2))) := (Chg.at0 p wc).at_ _ _
                    have hba := h4.blk.set 5 (.int .i64 (t4.col + w2))
                    have H4 := Lib.hid h4
                    have HW12 := Lib.hid hw12
                    clear h4 hI4 hw12
                    by_cases hge : (t4.cols : Int) ≤ t4.col + w2
                    · have HE : Hid (moved t4 w2 = { t4 with col := t4.cols - 1, full := true }) := Lib.hid (if_pos hge)
                      go_wp2_with fail
                      go_quiet (fail)
                      go_wp2_with fail
                      go_end0
                      have hcb := fun m => ((hca.drewN m).at_ 5 (.int .i64 ((t4.cols - 1 : Nat) : Int))).at_ 6 (.bool true)
                      have hbb := fun m => ((hba.drewN m).set 5 (.int .i64 ((t4.cols - 1 : Nat) : Int))).set 6 (.bool true)
                      refine ⟨rfl, ?_⟩
                      rw [← HT4.out, HE.out]
                      exact Turned.then hC2 hN2 (Turned.after (hC3.then hC4) (Turned.same ⟨_, _, _, _, _, _, _, H4.out.head (t' := { t4 with col := t4.cols - 1, full := true }) (hcb _) (hbb _) rfl rfl rfl⟩ ((hcb _).mono (fun k _ e => e ▸ H4.out.own))))
                    · have HE : Hid (moved t4 w2 = { t4 with col := t4.col + w2.toNat }) := Lib.hid (if_neg hge)
                      go_wp2_with fail
                      go_quiet (fail)
                      go_wp2_with fail
                      go_end0
                      have hcast : ((t4.col + w2.toNat : Nat) : Int) = (t4.col : Int) + w2 := by have h12 := HW12.out; omega
                      rw [← hcast] at hca hba ⊢
                      refine ⟨rfl, ?_⟩
                      rw [← HT4.out, HE.out]
                      exact Turned.then hC2 hN2 (Turned.after (hC3.then hC4) (Turned.same ⟨_, _, _, _, _, _, _, H4.out.head (t' := { t4 with col := t4.col + w2.toNat }) (hca.drewN _) (hba.drewN _) rfl rfl rfl⟩ ((hca.drewN _).mono (fun k _ e => e ▸ H4.out.own))))
end T
end Go.Proofs.YtoegjmeoeefllaaGreatDoor
