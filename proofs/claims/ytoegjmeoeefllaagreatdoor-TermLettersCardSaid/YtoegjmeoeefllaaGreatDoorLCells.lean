/- Walks: TermCells. -/
import Derived.Test.YtoegjmeoeefllaaGreatDoorLSizes
namespace Go.Proofs.YtoegjmeoeefllaaGreatDoor
open Go Go.RowKit
namespace T
attribute [local go_sem high] run_max_2 run_min_2
attribute [local go_sem ↓] Go.wp_at_zero Go.wp_at_succ

/-- Behind a cell of two columns, and there alone, stands a second half. -/
def Half (r : List Cell) (j : Nat) : Prop := 0 < j ∧ (cellAt r (j - 1)).wide = 2
theorem Units.cell {r : List Cell} (h : Units r) : ∀ j, j < r.length → (¬ Half r j ∧ ((cellAt r j).wide = 1 ∨ ((cellAt r j).wide = 2 ∧ j + 1 < r.length)) ∧ (cellAt r j).s.size ≠ 0) ∨ (Half r j ∧ (cellAt r j).wide = 0 ∧ (cellAt r j).s.size = 0) := by
  have hs : ∀ (c : Cell) (r : List Cell) (j : Nat), c.wide ≠ 2 → (Half (c :: r) (j + 1) ↔ Half r j) := fun c r j hc => by
    unfold Half
    cases j with
    | zero => constructor
              · rintro ⟨_, h⟩; exact absurd h hc
              · rintro ⟨h, _⟩; omega
    | succ j => simp [cellAt_cons_succ]
  induction h with
  | nil => intro j hj; simp at hj
  | one c r h1 h2 hr ih =>
    intro j hj
    cases j with
    | zero => exact .inl ⟨fun h => by have := h.1; omega, .inl h1, h2⟩
    | succ j =>
      have hj' : j < r.length := by simpa using hj
      rw [hs c r j (by omega), cellAt_cons_succ]
      rcases ih j hj' with ⟨g1, g2, g3⟩ | g
      · exact .inl ⟨g1, g2.imp id (fun g => ⟨g.1, by have := g.2; simp only [List.length_cons]; omega⟩), g3⟩
      · exact .inr g
  | two c k r h1 h2 h3 h4 hr ih =>
    intro j hj
    match j, hj with
    | 0, _ => exact .inl ⟨fun h => by have := h.1; omega, .inr ⟨h1, by simp⟩, h2⟩
    | 1, _ => exact .inr ⟨⟨by omega, h1⟩, h3, h4⟩
    | j + 2, hj =>
      have hj' : j < r.length := by simpa using hj
      have e : Half (c :: k :: r) (j + 2) ↔ Half r j := by
        have e1 : Half (c :: k :: r) (j + 2) ↔ Half (k :: r) (j + 1) := by
          unfold Half
          simp [cellAt_cons_succ]
        rw [e1, hs k r j (by omega)]
      rw [e, cellAt_cons_succ, cellAt_cons_succ]
      rcases ih j hj' with ⟨g1, g2, g3⟩ | g
      · exact .inl ⟨g1, g2.imp id (fun g => ⟨g.1, by have := g.2; simp only [List.length_cons]; omega⟩), g3⟩
      · exact .inr g

theorem runEvs_fed {es : List Ev} (hf : fewR es = true) (r c : Int) : Fed 8800 12800 (runEvs (New r c) es) := by
  have h := of_decide_eq_true hf
  exact ((Fed.new r c).evs es).mono (by omega) (by omega)
theorem rowOf_in {t : Term} {k : Nat} (h : k < t.l.length) : rowOf t.l k = rowAt t.l k := by
  unfold rowOf; rw [if_pos (by omega)]; rfl

set_option maxRecDepth 100000 in
set_option maxHeartbeats 2000000 in
theorem cells_walk (W : World) (hG : Glob W) (r c : Int) (v : Value) (es : List Ev) (h : EvIn W v es (fun b => b < W.heap.size)) :
    Calls Tryz.prog 3 #[.agg #[.int .i64 r, .int .i64 c], v] W fun e w' => e = .returned (.bool true) ∧ Chg Non W w' := by
  have hb2 := Blk.new W [.int .i64 r, .int .i64 c] 22
  have hc0 : Chg Non W (W.alloc (.cells #[.int .i64 r, .int .i64 c] 22)) := (Chg.refl Non W).alloc _
  have x0 := hb2.cell 0
  have x1 := hb2.cell 1
  have hA := fun w' (hc : Chg Non W w') => alive_calls w' (hG.chg hc (fun h => h) (fun h => h))
  have HA := Lib.hid hA
  by_cases hok : fewR es = true ∧ r ≤ 60 ∧ c ≤ 120
  · have hB := begin_some W _ r c v es hc0 hG h hok.1 hok.2.1 hok.2.2
    have hFed := runEvs_fed hok.1 r c
    obtain ⟨t, ht⟩ : ∃ t, t = runEvs (New r c) es := ⟨_, rfl⟩
    rw [← ht] at hB hFed
    have HK := Lib.hid hFed
    clear hok hFed hb2 hc0 h ht hA
    go_enter Tryz.func3, Tryz.ntmps3
    go_wp2_with fail
    refine hB.mono ?_
    rintro e w1 ⟨p, F, rfl, L1⟩
    have hSz := Size_calls L1.1
    clear hB x0 x1
    go_wp2_with fail
    refine hSz.mono ?_
    rintro e w2 ⟨rfl, hc2⟩
    have L2 := L1.non hc2
    have hCu := Cursor_calls L2.1
    clear hSz L1
    go_wp2_with fail
    refine hCu.mono ?_
    rintro e w3 ⟨rfl, hc3⟩
    have HL3 := Lib.hid (L2.non hc3)
    have hl60 : t.l.length ≤ 60 := HK.out.ok.l1
    clear hCu L2
    go_wp2_with fail
    go_loopw [32] (fun i wr => ∃ k : Nat, i = .int .i64 k ∧ k ≤ t.l.length ∧ Chg Non w3 wr) (fun i _ => t.l.length - (intOf i).toNat)
    case atStart => exact ⟨0, rfl, Nat.zero_le _, Chg.refl _ _⟩
    case round =>
      obtain ⟨k, rfl, hk, hck⟩ := hrel
      have LP := HL3.out.non hck
      by_cases hlt : k < t.l.length
      · have hltI : (k : Int) < (t.l.length : Int) := by omega
        have hR := row_live LP HK.out.ok k
        rw [rowOf_in hlt] at hR
        have hrow := HK.out.ok.rowOk hlt
        obtain ⟨R, hRe⟩ : ∃ R, R = rowAt t.l k := ⟨_, rfl⟩
        rw [← hRe] at hR hrow
        have hlen : R.length = t.cols := hrow.2.1
        have hlenI : ((R.length : Int) == (t.cols : Int)) = true := by simp [hlen]
        have hle : R.length ≤ 120 := by rw [hlen]; exact HK.out.ok.c1
        have HR := Lib.hid hrow
        have Hlen := Lib.hid hlen
        have Hlt := Lib.hid hlt
        clear hlt hlen hrow hRe LP
        go_wp2_with fail
        refine hR.mono ?_
        rintro e w4 ⟨A, cp, rfl, hs, hc4⟩
        have HS := Lib.hid hs
        have HC4 := Lib.hid hc4
        have Hck := Lib.hid hck
        clear hR hs hc4 hck
        go_wp2_with fail
        have hcolI : (t.cols : Int) ≤ 120 := by have := HK.out.ok.c1; omega
        have hcol1 : (1 : Int) ≤ (t.cols : Int) := by have := HK.out.ok.c0; omega
        clear hlenI
        go_loopw [14, 44] (fun _ i wq => ∃ j : Nat, i = .int .i64 j ∧ j ≤ R.length ∧ Chg Non w4 wq) (fun _ i _ => R.length - (intOf i).toNat)
        case atStart => exact ⟨0, rfl, Nat.zero_le _, Chg.refl _ _⟩
        case round =>
          obtain ⟨j, rfl, hj, hcj⟩ := hrel
          by_cases hjl : j < R.length
          · have hjI : (j : Int) < (R.length : Int) := by omega
            have hcell := Units.cell HR.out.1 j hjl
            obtain ⟨b, o, rfl, _, q0, q1, q2⟩ := sl_cell3 (HS.out.chg hcj (fun _ _ h => h)) rfl hjl
            obtain ⟨⟨cs, cw, cd⟩, hce⟩ : ∃ cc, cc = cellAt R j := ⟨_, rfl⟩
            rw [← hce] at q0 q1 q2 hcell
            simp only at q0 q1 q2 hcell
            have hemp := toList_emp cs
            have hbw : b < wr.heap.size := World.block_lt_of_cell? wr _ q0
            have Hjl := Lib.hid hjl
            have Hcj := Lib.hid hcj
            clear hce
            by_cases j0 : j = 0
            · have hj0 : ¬ (0 : Int) < (j : Int) := by omega
              rcases hcell with ⟨_, hw, hsz⟩ | ⟨hh, _⟩
              · have he : cs.toList.isEmpty = false := by rw [hemp]; exact decide_eq_false hsz
                clear hemp hjl hcj
                rcases hw with rfl | ⟨rfl, hw⟩
                · clear hsz j0
                  go_wp2_with fail
                  go_roundw
                  case rel =>
                    (repeat apply Exists.intro)
                    refine ⟨?h1, ?h2⟩
                    case h2 => repeat (first | apply And.intro | rfl)
                    case h1 => exact ⟨j + 1, by go_num, by have := Hjl.out; omega, (Hcj.out.alloc _)⟩
                  case measure => have := Hjl.out; simp [intOf]; omega
                · have hlast : ((j : Int) == (t.cols : Int) - 1) = false := by have := Hlen.out; simp; omega
                  clear hsz j0 hw
                  go_wp2_with fail
                  go_roundw
                  case rel =>
                    (repeat apply Exists.intro)
                    refine ⟨?h1, ?h2⟩
                    case h2 => repeat (first | apply And.intro | rfl)
                    case h1 => exact ⟨j + 1, by go_num, by have := Hjl.out; omega, (Hcj.out.alloc _)⟩
                  case measure => have := Hjl.out; simp [intOf]; omega
              · exact absurd hh.1 (by omega)
            · have hj0 : (0 : Int) < (j : Int) := by omega
              have hj1 : (1 : Int) ≤ (j : Int) := by omega
              have hj1n : 1 ≤ j := by omega
              obtain ⟨b', o', e', _, _, p1, _⟩ := sl_cell3 (HS.out.chg hcj (fun _ _ h => h)) rfl (show j - 1 < R.length by omega)
              injection e' with e'
              injection e' with e1 e2 _
              subst e1 e2
              have hjm : (j : Int) - 1 < (R.length : Int) := by omega
              rcases hcell with ⟨hnh, hw, hsz⟩ | ⟨hh, hw, hsz⟩
              · have he : cs.toList.isEmpty = false := by rw [hemp]; exact decide_eq_false hsz
                have hp : ((cellAt R (j - 1)).wide == 2) = false := by
                  have : (cellAt R (j - 1)).wide ≠ 2 := fun e => hnh ⟨by omega, e⟩
                  simpa using this
                clear hemp hjl hcj hnh
                rcases hw with rfl | ⟨rfl, hw⟩
                · clear hsz j0
                  go_wp2_with fail
                  go_roundw
                  case rel =>
                    (repeat apply Exists.intro)
                    refine ⟨?h1, ?h2⟩
                    case h2 => repeat (first | apply And.intro | rfl)
                    case h1 => exact ⟨j + 1, by go_num, by have := Hjl.out; omega, (Hcj.out.alloc _)⟩
                  case measure => have := Hjl.out; simp [intOf]; omega
                · have hlast : ((j : Int) == (t.cols : Int) - 1) = false := by have := Hlen.out; simp; omega
                  clear hsz j0 hw
                  go_wp2_with fail
                  go_roundw
                  case rel =>
                    (repeat apply Exists.intro)
                    refine ⟨?h1, ?h2⟩
                    case h2 => repeat (first | apply And.intro | rfl)
                    case h1 => exact ⟨j + 1, by go_num, by have := Hjl.out; omega, (Hcj.out.alloc _)⟩
                  case measure => have := Hjl.out; simp [intOf]; omega
              · have he : cs.toList.isEmpty = true := by rw [hemp]; exact decide_eq_true hsz
                rw [hh.2] at p1
                subst hw
                clear hemp hjl hcj hh hsz j0
                go_wp2_with fail
                go_roundw
                case rel =>
                  (repeat apply Exists.intro)
                  refine ⟨?h1, ?h2⟩
                  case h2 => repeat (first | apply And.intro | rfl)
                  case h1 => exact ⟨j + 1, by go_num, by have := Hjl.out; omega, (Hcj.out.alloc _)⟩
                case measure => have := Hjl.out; simp [intOf]; omega
          · have hge : ¬ (j : Int) < (R.length : Int) := by omega
            have Hcj := Lib.hid hcj
            clear hcj
            go_wp2_with fail
            go_roundw
            case rel => exact ⟨k + 1, by go_num, by have := Hlt.out; omega, (Hck.out.thenN HC4.out).thenN Hcj.out⟩
            case measure => have := Hlt.out; simp [intOf]; omega
      · have hge : ¬ (k : Int) < (t.l.length : Int) := by omega
        have hrowI : (t.row : Int) < (t.l.length : Int) := by have := HK.out.ok.row; omega
        have hcolI : (t.col : Int) < (t.cols : Int) := by have := HK.out.ok.col; omega
        have hcol1 : (t.cols : Int) ≤ 120 := by have := HK.out.ok.c1; omega
        have hA := HA.out wr LP.2.2.1
        have HLP := Lib.hid LP
        clear LP hlt hck
        go_wp2_with fail
        refine hA.mono ?_
        rintro e w5 ⟨rfl, hc5⟩
        have hFu := Full_calls (HLP.out.non hc5).1
        clear hA
        cases hfull : t.full with
        | false =>
          rw [hfull] at hFu
          clear hfull
          go_wp2_with fail
          refine hFu.mono ?_
          rintro e w6 ⟨rfl, hc6⟩
          have hend := ((HLP.out.non hc5).non hc6).2.2.1
          go_wp2_with fail
          go_ret
          exact ⟨rfl, hend⟩
        | true =>
          rw [hfull] at hFu
          have hlast : ((t.col : Int) == (t.cols : Int) - 1) = true := by have := HK.out.fl hfull; simp; omega
          clear hfull
          go_wp2_with fail
          refine hFu.mono ?_
          rintro e w6 ⟨rfl, hc6⟩
          have hend := ((HLP.out.non hc5).non hc6).2.2.1
          go_wp2_with fail
          go_ret
          exact ⟨rfl, hend⟩
  · have hB := begin_none W _ r c v es hc0 h hok
    clear hok hb2 hc0 h hA
    go_enter Tryz.func3, Tryz.ntmps3
    go_wp2_with fail
    refine hB.mono ?_
    rintro e w1 ⟨rfl, hc1⟩
    have hA := HA.out w1 hc1
    go_wp2_with fail
    refine hA.mono ?_
    rintro e w2 ⟨rfl, hc2⟩
    go_wp2_with fail
    go_ret
    exact ⟨rfl, hc1.thenN hc2⟩
end T
end Go.Proofs.YtoegjmeoeefllaaGreatDoor
