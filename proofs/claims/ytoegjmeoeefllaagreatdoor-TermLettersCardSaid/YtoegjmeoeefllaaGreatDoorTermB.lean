/- Walks: Size, Cursor, Full, Off; to. -/
import Derived.Test.YtoegjmeoeefllaaGreatDoorTermA
import Derived.BigRegion
import Derived.Deep.RegionHeld3
import Derived.Deep.DrawnRows
namespace Go.Proofs.YtoegjmeoeefllaaGreatDoor
open Go Go.RowKit
namespace T
attribute [local go_sem ↓] Go.wp_at_zero Go.wp_at_succ
attribute [local go_sem high] run_max_2 run_min_2

/-- The cursor goes somewhere, no farther than the edges. -/
def moveTo (t : Term) (r c : Int) : Term := { t with row := (min (max r 0) (t.l.length - 1 : Int)).toNat, col := (min (max c 0) (t.cols - 1 : Int)).toNat, full := false }

theorem Size_calls {p : Nat} {w : World} {t : Term} {F : Nat → Prop} (h : IsTerm w p t F) :
    Calls Tryz.prog 12 #[.pointer (some ⟨p, 0, none⟩)] w fun e w' => e = .returned (.tuple #[.int .i64 t.l.length, .int .i64 t.cols]) ∧ Chg Non w w' := by
  obtain ⟨lv, gv, bv, vs, gs, bs, gb, h⟩ := h
  obtain ⟨A, c, rfl, h1, h2⟩ := h.l.shape
  obtain ⟨c0, c1, _⟩ := h.cells
  go_enter Tryz.func12, Tryz.ntmps12
  go_wp2
  go_quiet (fail)
  go_wp2
  go_ret2
  exact ⟨rfl, (Chg.refl _ _).drewN _⟩

theorem Cursor_calls {p : Nat} {w : World} {t : Term} {F : Nat → Prop} (h : IsTerm w p t F) :
    Calls Tryz.prog 13 #[.pointer (some ⟨p, 0, none⟩)] w fun e w' => e = .returned (.tuple #[.int .i64 t.row, .int .i64 t.col]) ∧ Chg Non w w' := by
  obtain ⟨lv, gv, bv, vs, gs, bs, gb, h⟩ := h
  obtain ⟨c0, c1, c2, c3, c4, c5, _⟩ := h.cells
  go_enter Tryz.func13, Tryz.ntmps13
  go_wp2
  go_quiet (fail)
  go_wp2
  go_ret2
  exact ⟨rfl, (Chg.refl _ _).drewN _⟩

theorem Full_calls {p : Nat} {w : World} {t : Term} {F : Nat → Prop} (h : IsTerm w p t F) :
    Calls Tryz.prog 15 #[.pointer (some ⟨p, 0, none⟩)] w fun e w' => e = .returned (.bool t.full) ∧ Chg Non w w' := by
  obtain ⟨lv, gv, bv, vs, gs, bs, gb, h⟩ := h
  obtain ⟨c0, c1, c2, c3, c4, c5, c6, _⟩ := h.cells
  go_enter Tryz.func15, Tryz.ntmps15
  go_wp2
  go_ret
  exact ⟨rfl, Chg.refl _ _⟩

theorem Off_calls {p : Nat} {w : World} {t : Term} {F : Nat → Prop} (h : IsTerm w p t F) :
    Calls Tryz.prog 21 #[.pointer (some ⟨p, 0, none⟩)] w fun e w' => e = .returned (.int .i64 t.off) ∧ Chg Non w w' := by
  obtain ⟨lv, gv, bv, vs, gs, bs, gb, h⟩ := h
  obtain ⟨c0, c1, c2, c3, _⟩ := h.cells
  go_enter Tryz.func21, Tryz.ntmps21
  go_wp2
  go_ret
  exact ⟨rfl, Chg.refl _ _⟩


theorem to_calls {p : Nat} {w : World} {t : Term} {F : Nat → Prop} (h : IsTerm w p t F) (r c : Int) (hl : 1 ≤ t.l.length) (hc : 1 ≤ t.cols) (hc2 : t.cols ≤ 1000) :
    Calls Tryz.prog 32 #[.pointer (some ⟨p, 0, none⟩), .int .i64 r, .int .i64 c] w fun e w' => e = .returned (.tuple #[]) ∧ IsTerm w' p (moveTo t r c) F ∧ Chg (fun b => b = p) w w' := by
  obtain ⟨lv, gv, bv, vs, gs, bs, gb, h⟩ := h
  obtain ⟨A, cap, rfl, h1, h2⟩ := h.l.shape
  obtain ⟨c0, c1, c2, c3, c4, c5, c6, _⟩ := h.cells
  have hfr := h.frozen
  have f4 := hfr 4
  have f5 := hfr 5
  have f6 := hfr 6
  clear hfr
  unfold maxLen at h2
  go_enter Tryz.func32, Tryz.ntmps32
  go_wp2
  go_region
  all_goals go_wp2
  all_goals go_end0
  have hc : Chg (fun b => b = p) w (((w.setCell ⟨p, 4, none⟩ (.int .i64 (min (max r 0) (t.l.length - 1)))).setCell ⟨p, 5, none⟩ (.int .i64 (min (max c 0) (t.cols - 1)))).setCell ⟨p, 6, none⟩ (.bool false)).drew :=
    ((((Chg.at0 p w).at_ _ _).at_ _ _).at_ _ _).drew
  have hb := (((h.blk.set 4 (.int .i64 (min (max r 0) (t.l.length - 1)))).set 5 (.int .i64 (min (max c 0) (t.cols - 1)))).set 6 (.bool false)).drew
  have e1 : ((moveTo t r c).row : Int) = min (max r 0) (t.l.length - 1) := by simp only [moveTo]; omega
  have e2 : ((moveTo t r c).col : Int) = min (max c 0) (t.cols - 1) := by simp only [moveTo]; omega
  exact ⟨rfl, ⟨_, _, _, _, _, _, _, h.head (t' := moveTo t r c) hc (by rw [e1, e2]; exact hb) rfl rfl rfl⟩, hc⟩

end T
end Go.Proofs.YtoegjmeoeefllaaGreatDoor
