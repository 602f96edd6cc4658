/- Walks: erase; down; control. -/
import Derived.Test.YtoegjmeoeefllaaGreatDoorTermH
import Derived.Test.YtoegjmeoeefllaaGreatDoorTermP
namespace Go.Proofs.YtoegjmeoeefllaaGreatDoor
open Go Go.RowKit
namespace T
attribute [local go_sem ↓] Go.wp_at_zero Go.wp_at_succ
attribute [local go_sem high] run_max_2 run_min_2

theorem rowAt_set (l : List (List Cell)) (k j : Nat) (r : List Cell) (hk : k < l.length) : rowAt (l.set k r) j = if j = k then r else rowAt l j := by
  unfold rowAt
  simp only [List.getD_eq_getElem?_getD, List.getElem?_set]
  by_cases e : j = k
  · subst e; simp [hk]
  · simp [e, Ne.symm e]

/-- The numbers that a terminal has are in their bounds. -/
structure Dim (t : Term) : Prop where
  l0 : 1 ≤ t.l.length
  l1 : t.l.length ≤ 60
  c0 : 1 ≤ t.cols
  c1 : t.cols ≤ 120
  g : t.gone.length ≤ 1000
  o : 0 ≤ t.off ∧ t.off ≤ 1099511627776
  row : t.row < t.l.length
  col : t.col < t.cols

def eraseTo (r : List Cell) (col : Nat) : Nat → List Cell
  | 0 => r
  | k + 1 => putRow (eraseTo r col k) (col + k) Blank
def setRow (t : Term) (row : Nat) (r : List Cell) : Term := { t with l := t.l.set row r }
def erase (t : Term) (row col : Nat) : Term := setRow t row (eraseTo (rowAt t.l row) col (t.cols - col))

theorem eraseTo_ok {r : List Cell} (h : Units r) {col : Nat} : ∀ k, col + k ≤ r.length → Units (eraseTo r col k) ∧ (eraseTo r col k).length = r.length
  | 0, _ => ⟨h, rfl⟩
  | k + 1, hk => by
    obtain ⟨h1, h2⟩ := eraseTo_ok h (col := col) k (by omega)
    exact ⟨h1.put_one (col := col + k) (c := Blank) (by rw [h2]; omega) rfl (by decide), by rw [eraseTo, putRow_length, h2]⟩
theorem put_setRow (t : Term) (row col : Nat) (r : List Cell) (c : Cell) (hr : row < t.l.length) : put (setRow t row r) row col c = setRow t row (putRow r col c) := by
  simp only [put, setRow, rowAt_set _ _ _ _ hr, if_pos, List.set_set]

set_option maxHeartbeats 400000 in
theorem erase_calls {p : Nat} {w : World} {t : Term} {F : Nat → Prop} (h : IsTerm w p t F) (row col : Nat) (hr : row < t.l.length) (hcol : col ≤ t.cols) (hc : t.cols ≤ 120) (hu : Units (rowAt t.l row)) (hlen : (rowAt t.l row).length = t.cols) :
    Calls Tryz.prog 51 #[.pointer (some ⟨p, 0, none⟩), .int .i64 row, .int .i64 col] w fun e w' => e = .returned (.tuple #[]) ∧ IsTerm w' p (erase t row col) F ∧ Chg F w w' := by
  have H := Lib.hid h
  have HL := Lib.hid hlen
  clear h hlen
  go_enter Tryz.func51, Tryz.ntmps51
  go_wp2_with fail
  go_loopw [2] (fun i wr => ∃ k : Nat, i = .int .i64 ((col + k : Nat) : Int) ∧ col + k ≤ t.cols ∧ IsTerm wr p (setRow t row (eraseTo (rowAt t.l row) col k)) F ∧ Chg F w wr) (fun i _ => t.cols - (intOf i).toNat)
  case atStart => exact ⟨0, rfl, hcol, by
    have e : setRow t row (eraseTo (rowAt t.l row) col 0) = t := by
      simp only [setRow, eraseTo, rowAt, List.getD_eq_getElem?_getD, List.getElem?_eq_getElem hr, Option.getD_some, List.set_getElem_self]
    rw [e]; exact H.out, Chg.refl _ _⟩
  case round =>
    obtain ⟨k, rfl, hk, h, hc1⟩ := hrel
    obtain ⟨lv, gv, bv, vs, gs, bs, gb, h0⟩ := id h
    have c0 : wr.cell? ⟨p, 0, none⟩ = some (.int .i64 t.cols) := h0.cells.1
    have Hh := Lib.hid h
    clear h h0
    by_cases hlt : col + k < t.cols
    · have hlt' : ((col + k : Nat) : Int) < (t.cols : Int) := by omega
      go_wp2_with fail
      refine (Blank_calls _).mono ?_; rintro e w1 ⟨rfl, hcB⟩
      go_wp2_with fail
      have hI : IsTerm w1 p (setRow t row (eraseTo (rowAt t.l row) col k)) F := by
        obtain ⟨lv, gv, bv, vs, gs, bs, gb, h0⟩ := Hh.out
        exact ⟨_, _, _, _, _, _, _, h0.chg hcB (fun _ _ h => h)⟩
      obtain ⟨u1, u2⟩ := eraseTo_ok (col := col) hu k (by rw [HL.out]; omega)
      have er : rowAt (setRow t row (eraseTo (rowAt t.l row) col k)).l row = eraseTo (rowAt t.l row) col k := by simp only [setRow, rowAt_set _ _ _ _ hr, if_pos]
      have hpo := u1.putOk (col := col + k) (by rw [u2, HL.out]; omega)
      refine (put_calls hI row (col + k) Blank (by simpa [setRow] using hr) (by rw [er, u2, HL.out]; omega) (by rw [er]; exact hpo.1) (by rw [er]; exact hpo.2)).mono ?_
      rintro e w2 ⟨rfl, hI2, hc2⟩
      rw [put_setRow _ _ _ _ _ hr] at hI2
      go_wp2_with fail
      go_roundw
      case rel => exact ⟨k + 1, by go_num, by omega, hI2, (hc1.thenN hcB).then hc2⟩
      case measure => simp [intOf]; omega
    · have hge : ¬ ((col + k : Nat) : Int) < (t.cols : Int) := by omega
      go_wp2
      go_end0
      have e : t.cols - col = k := by omega
      exact ⟨rfl, by unfold erase; rw [e]; exact Hh.out, hc1⟩

def down (t : Term) : Term := if t.row + 1 < t.l.length then { t with full := false, row := t.row + 1 } else scroll { t with full := false }

/-- From w to w' the terminal at p has become t', in blocks of its own, or new ones. -/
def Turned (w : World) (p : Nat) (F : Nat → Prop) (t' : Term) (w' : World) : Prop := ∃ F', IsTerm w' p t' F' ∧ Chg F w w' ∧ ∀ b, F' b → F b ∨ w.heap.size ≤ b
theorem Turned.same {w w' : World} {p : Nat} {F : Nat → Prop} {t' : Term} (h : IsTerm w' p t' F) (hc : Chg F w w') : Turned w p F t' w' := ⟨F, h, hc, fun _ hb => .inl hb⟩
theorem Turned.then {w w1 w2 : World} {p : Nat} {F F1 : Nat → Prop} {t2 : Term} (hc : Chg F w w1) (hn : ∀ b, F1 b → F b ∨ w.heap.size ≤ b) (h2 : Turned w1 p F1 t2 w2) : Turned w p F t2 w2 := by
  obtain ⟨F2, h3, h4, h5⟩ := h2
  have := hc.size
  exact ⟨F2, h3, hc.trans h4 hn, fun b hb => by rcases h5 b hb with h | h; exact hn b h; exact .inr (by omega)⟩
theorem Turned.after {w w1 w2 : World} {p : Nat} {F : Nat → Prop} {t2 : Term} (hc : Chg F w w1) (h2 : Turned w1 p F t2 w2) : Turned w p F t2 w2 := Turned.then hc (fun _ hb => .inl hb) h2
theorem IsTerm.chg {w w' : World} {p : Nat} {t : Term} {F G : Nat → Prop} (h : IsTerm w p t F) (hc : Chg G w w') (hd : ∀ b, F b → ¬ G b) : IsTerm w' p t F := by
  obtain ⟨lv, gv, bv, vs, gs, bs, gb, h⟩ := h
  exact ⟨_, _, _, _, _, _, _, h.chg hc hd⟩
theorem IsTerm.own {w : World} {p : Nat} {t : Term} {F : Nat → Prop} (h : IsTerm w p t F) : F p := by obtain ⟨lv, gv, bv, vs, gs, bs, gb, h⟩ := h; exact h.own
theorem IsTerm.lt {w : World} {p : Nat} {t : Term} {F : Nat → Prop} (h : IsTerm w p t F) : ∀ b, F b → b < w.heap.size := by obtain ⟨lv, gv, bv, vs, gs, bs, gb, h⟩ := h; exact h.lt
theorem chgP {w w' : World} {p : Nat} {F : Nat → Prop} (hF : F p) (hc : Chg (fun b => b = p) w w') : Chg F w w' := hc.mono (fun k _ e => e ▸ hF)

theorem down_calls {p : Nat} {w : World} {t : Term} {F : Nat → Prop} (h : IsTerm w p t F) (hd : Dim t) :
    Calls Tryz.prog 46 #[.pointer (some ⟨p, 0, none⟩)] w fun e w' => e = .returned (.tuple #[]) ∧ Turned w p F (down t) w' := by
  obtain ⟨lv, gv, bv, vs, gs, bs, gb, h⟩ := h
  obtain ⟨A, cap, rfl, h1, h2⟩ := h.l.shape
  obtain ⟨c0, c1, c2, c3, c4, c5, c6, _⟩ := h.cells
  have f6 := h.frozen 6
  have f4 := h.frozen 4
  unfold maxLen at h2
  have d1 := hd.row
  have d2 := hd.l1
  have HD := Lib.hid hd
  have hc1 : Chg (fun b => b = p) w (w.setCell ⟨p, 6, none⟩ (.bool false)) := (Chg.at0 p w).at_ _ _
  have hb1 := h.blk.set 6 (.bool false)
  have hF := h.own
  by_cases hlt : t.row + 1 < t.l.length
  · have hlt' : (t.row : Int) + 1 < (t.l.length : Int) := by omega
    have e : down t = { t with full := false, row := t.row + 1 } := by unfold down; rw [if_pos hlt]
    rw [e]
    clear e hd
    go_enter Tryz.func46, Tryz.ntmps46
    go_wp2_with fail
    go_quiet (fail)
    go_wp2_with fail
    go_end0
    have hc2 : Chg (fun b => b = p) w (((w.setCell ⟨p, 6, none⟩ (.bool false)).setCell ⟨p, 4, none⟩ (.int .i64 (t.row + 1)))) := hc1.at_ _ _
    exact ⟨rfl, Turned.same ⟨_, _, _, _, _, _, _, h.head (t' := { t with full := false, row := t.row + 1 }) (hc2.drewN _) ((hb1.set 4 (.int .i64 (t.row + 1))).drewN _) rfl rfl rfl⟩ (chgP hF (hc2.drewN _))⟩
  · have hlt' : ¬ ((t.row : Int) + 1 < (t.l.length : Int)) := by omega
    have e : down t = scroll { t with full := false } := by unfold down; rw [if_neg hlt]
    rw [e]
    have hI : ∀ n, IsTerm ((w.setCell ⟨p, 6, none⟩ (.bool false)).drewN n) p { t with full := false } F := fun n => ⟨_, _, _, _, _, _, _, h.head (t' := { t with full := false }) (hc1.drewN n) (hb1.drewN n) rfl rfl rfl⟩
    clear e hd
    go_enter Tryz.func46, Tryz.ntmps46
    go_wp2_with fail
    go_quiet (fail)
    go_wp2_with fail
    refine (scroll_calls (hI _) HD.out.l0 HD.out.l1 HD.out.g HD.out.c1 HD.out.c0 HD.out.o).mono ?_
    rintro e w2 ⟨rfl, hT⟩
    go_wp2_with fail
    go_end0
    exact ⟨rfl, Turned.after (chgP hF (hc1.drewN _)) hT⟩

/-- What a control byte does. -/
def control (t : Term) (x : Nat) : Term := if x = 13 then { t with col := 0, full := false } else if x = 10 then down t else if x = 8 then { t with col := t.col - 1, full := false } else t

theorem control_calls {p : Nat} {w : World} {t : Term} {F : Nat → Prop} (h : IsTerm w p t F) (hd : Dim t) (x : Nat) (hx : x < 256) :
    Calls Tryz.prog 48 #[.pointer (some ⟨p, 0, none⟩), .int .u8 x] w fun e w' => e = .returned (.tuple #[]) ∧ Turned w p F (control t x) w' := by
  have hI := h
  obtain ⟨lv, gv, bv, vs, gs, bs, gb, h⟩ := h
  obtain ⟨c0, c1, c2, c3, c4, c5, c6, _⟩ := h.cells
  have f6 := h.frozen 6
  have f5 := h.frozen 5
  have d1 := hd.col
  have d2 := hd.c1
  have HD := Lib.hid hd
  have hF := h.own
  clear hd
  by_cases x1 : x = 13
  · subst x1
    have hc1 : Chg (fun b => b = p) w ((w.setCell ⟨p, 5, none⟩ (.int .i64 0)).setCell ⟨p, 6, none⟩ (.bool false)) := ((Chg.at0 p w).at_ _ _).at_ _ _
    have hb1 := (h.blk.set 5 (.int .i64 0)).set 6 (.bool false)
    go_enter Tryz.func48, Tryz.ntmps48
    go_wp2_with fail
    go_end0
    exact ⟨rfl, Turned.same ⟨_, _, _, _, _, _, _, h.head (t' := { t with col := 0, full := false }) hc1 hb1 rfl rfl rfl⟩ (chgP hF hc1)⟩
  · by_cases x2 : x = 10
    · subst x2
      go_enter Tryz.func48, Tryz.ntmps48
      go_wp2_with fail
      refine (down_calls hI HD.out).mono ?_
      rintro e w2 ⟨rfl, hT⟩
      go_wp2_with fail
      go_end0
      exact ⟨rfl, hT⟩
    · by_cases x3 : x = 8
      · subst x3
        have em : max ((t.col : Int) - 1) 0 = ((t.col - 1 : Nat) : Int) := by omega
        have hc1 : Chg (fun b => b = p) w ((w.setCell ⟨p, 5, none⟩ (.int .i64 (t.col - 1 : Nat))).setCell ⟨p, 6, none⟩ (.bool false)) := ((Chg.at0 p w).at_ _ _).at_ _ _
        have hb1 := (h.blk.set 5 (.int .i64 (t.col - 1 : Nat))).set 6 (.bool false)
        go_enter Tryz.func48, Tryz.ntmps48
        go_wp2_with fail
        go_end0
        exact ⟨rfl, Turned.same ⟨_, _, _, _, _, _, _, h.head (t' := { t with col := t.col - 1, full := false }) hc1 hb1 rfl rfl rfl⟩ (chgP hF hc1)⟩
      · have y1 : ((x : Int) == 13) = false := by simp; omega
        have y2 : ((x : Int) == 10) = false := by simp; omega
        have y3 : ((x : Int) == 8) = false := by simp; omega
        have e : control t x = t := by unfold control; rw [if_neg x1, if_neg x2, if_neg x3]
        rw [e]
        clear e
        go_enter Tryz.func48, Tryz.ntmps48
        go_wp2_with fail
        go_end0
        exact ⟨rfl, Turned.same hI (Chg.refl _ _)⟩
end T
end Go.Proofs.YtoegjmeoeefllaaGreatDoor
