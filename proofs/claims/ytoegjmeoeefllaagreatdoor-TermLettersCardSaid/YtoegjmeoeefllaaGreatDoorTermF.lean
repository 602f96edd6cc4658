/- Walks: Row; Gone; Copy. -/
import Derived.Test.YtoegjmeoeefllaaGreatDoorTermE
namespace Go.Proofs.YtoegjmeoeefllaaGreatDoor
open Go Go.RowKit
namespace T
attribute [local go_sem ↓] Go.wp_at_zero Go.wp_at_succ
attribute [local go_sem high] run_max_2 run_min_2

def rowOf (l : List (List Cell)) (k : Int) : List Cell := if 0 ≤ k ∧ k < l.length then rowAt l k.toNat else []

theorem Row_calls {p : Nat} {w : World} {t : Term} {F : Nat → Prop} (h : IsTerm w p t F) (k : Int) (hw : ∀ j, j < t.l.length → (rowAt t.l j).length ≤ 1000000) :
    Calls Tryz.prog 14 #[.pointer (some ⟨p, 0, none⟩), .int .i64 k] w fun e w' => ∃ A' c', e = .returned (.slice A' (rowOf t.l k).length c') ∧
      Sl w' 32 3 (.slice A' (rowOf t.l k).length c') (rowOf t.l k).length (flat (rowOf t.l k)) (fun b => w.heap.size ≤ b) ∧ Chg Non w w' := by
  obtain ⟨lv, gv, bv, vs, gs, bs, gb, h⟩ := h
  obtain ⟨A, c, rfl, h1, h2⟩ := h.l.shape
  obtain ⟨c0, c1, _⟩ := h.cells
  unfold maxLen at h2
  by_cases h0 : 0 ≤ k
  · by_cases hk : k < t.l.length
    · obtain ⟨j, rfl⟩ := Int.eq_ofNat_of_zero_le h0
      have hj : j < t.l.length := by omega
      obtain ⟨lb, lo, cap, rb, ro, rc, hv, g1, g2, g3, g4, g5, g6, g7, g8⟩ := h.row hj
      injection hv with e1 _ e3; subst e1 e3
      have hrd := g8.rd (G := fun _ => True) trivial
      have e : rowOf t.l (j : Int) = rowAt t.l j := by unfold rowOf; rw [if_pos ⟨by omega, by omega⟩, Int.toNat_natCast]
      rw [e]
      have hwj := hw j hj
      clear e g4 g5 h hw
      go_enter Tryz.func14, Tryz.ntmps14
      go_wp2_with fail
      refine (CloneCells_calls _ _ _ _ _ hrd (flat_one _) hwj).mono ?_; rintro e w1 ⟨A1, c1', rfl, hs, hc⟩
      go_wp2_with fail
      go_ret
      exact ⟨_, _, rfl, hs, hc⟩
    · have e : rowOf t.l k = [] := by unfold rowOf; rw [if_neg (by omega)]
      rw [e]
      have hk' : (t.l.length : Int) ≤ k := by omega
      clear e h hw
      go_enter Tryz.func14, Tryz.ntmps14
      go_wp2
      go_ret
      exact ⟨_, _, rfl, Sl.nil _ _ _ _, Chg.refl _ _⟩
  · have e : rowOf t.l k = [] := by unfold rowOf; rw [if_neg (by omega)]
    rw [e]
    have hk' : k < 0 := by omega
    clear e h hw
    go_enter Tryz.func14, Tryz.ntmps14
    go_wp2
    go_ret
    exact ⟨_, _, rfl, Sl.nil _ _ _ _, Chg.refl _ _⟩

/-- A row that has gone off, in memory. -/
theorem Rep.grow {w : World} {p : Nat} {t : Term} {F : Nat → Prop} {lv gv bv : Value} {vs gs : List Value} {bs gb : List Nat} (h : Rep w p t F lv gv bv vs gs bs gb) {k : Nat} (hk : k < t.gone.length) : ∃ lb lo cap rb ro rc, gv = .slice (some ⟨lb, lo, none⟩) t.gone.length cap ∧ t.gone.length ≤ cap ∧ cap ≤ maxLen ∧
    w.cell? ⟨lb, lo + k, none⟩ = some (.slice (some ⟨rb, ro, none⟩) (rowAt t.gone k).length rc) ∧ SlAt w 32 3 (.slice (some ⟨rb, ro, none⟩) (rowAt t.gone k).length rc) (rowAt t.gone k).length (flat (rowAt t.gone k)) rb := by
  obtain ⟨lb, hF, hat⟩ := h.g.pos (by omega)
  obtain ⟨lo, cap, rfl, h1, h2, h3⟩ := hat.cells
  obtain ⟨u, b, e1, e2, e3, e4⟩ := h.grows.2.2 k hk
  obtain ⟨ro, rc, rfl, g1, g2, _⟩ := e3.cells
  exact ⟨lb, lo, cap, b, ro, rc, rfl, h1, h2, by rw [h3 k (by omega), e1], e3⟩

theorem Gone_calls {p : Nat} {w : World} {t : Term} {F : Nat → Prop} (h : IsTerm w p t F) (k : Int) (hw : ∀ j, j < t.gone.length → (rowAt t.gone j).length ≤ 1000000) (hoff : 0 ≤ t.off ∧ t.off ≤ 1000000000) (hg : t.gone.length ≤ 1000000) (hk : -1000000000 ≤ k ∧ k ≤ 1000000000) :
    Calls Tryz.prog 22 #[.pointer (some ⟨p, 0, none⟩), .int .i64 k] w fun e w' => ∃ A' c', e = .returned (.slice A' (rowOf t.gone (k - (t.off - t.gone.length))).length c') ∧
      Sl w' 32 3 (.slice A' (rowOf t.gone (k - (t.off - t.gone.length))).length c') (rowOf t.gone (k - (t.off - t.gone.length))).length (flat (rowOf t.gone (k - (t.off - t.gone.length)))) (fun b => w.heap.size ≤ b) ∧ Chg Non w w' := by
  obtain ⟨lv, gv, bv, vs, gs, bs, gb, h⟩ := h
  obtain ⟨A, c, rfl, h1, h2⟩ := h.g.shape
  obtain ⟨c0, c1, c2, c3, _⟩ := h.cells
  unfold maxLen at h2
  by_cases h0 : 0 ≤ k - (t.off - t.gone.length)
  · by_cases hk2 : k - (t.off - t.gone.length) < t.gone.length
    · obtain ⟨j, hj0⟩ := Int.eq_ofNat_of_zero_le h0
      have hj : j < t.gone.length := by omega
      obtain ⟨lb, lo, cap, rb, ro, rc, hv, g1, g2, g3, g8⟩ := h.grow hj
      injection hv with e1 _ e3; subst e1 e3
      have hrd := g8.rd (G := fun _ => True) trivial
      have e : rowOf t.gone (k - (t.off - t.gone.length)) = rowAt t.gone j := by unfold rowOf; rw [if_pos ⟨by omega, by omega⟩, hj0, Int.toNat_natCast]
      rw [e]
      have hwj := hw j hj
      have e2 : (k - (t.off - t.gone.length)).toNat = j := by omega
      have g3' : w.cell? ⟨lb, lo + (k - (t.off - t.gone.length)).toNat, none⟩ = some (.slice (some ⟨rb, ro, none⟩) (rowAt t.gone j).length rc) := by rw [e2]; exact g3
      clear e e2 h hw hj0 g3
      go_enter Tryz.func22, Tryz.ntmps22
      go_wp2_with fail
      go_quiet (fail)
      go_wp2_with fail
      refine (CloneCells_calls _ _ _ _ _ (hrd.chg ((Chg.refl Non w).drewN _) (fun _ _ _ h => h)) (flat_one _) hwj).mono ?_; rintro e w1 ⟨A1, c1', rfl, hs, hc⟩
      go_wp2_with fail
      go_ret
      exact ⟨_, _, rfl, hs, ((Chg.refl Non w).drewN _).then hc⟩
    · have e : rowOf t.gone (k - (t.off - t.gone.length)) = [] := by unfold rowOf; rw [if_neg (by omega)]
      rw [e]
      have hk' : (t.gone.length : Int) ≤ k - (t.off - t.gone.length) := by omega
      clear e h hw
      go_enter Tryz.func22, Tryz.ntmps22
      go_wp2_with fail
      go_quiet (fail)
      go_wp2
      go_ret
      exact ⟨_, _, rfl, Sl.nil _ _ _ _, (Chg.refl _ _).drewN _⟩
  · have e : rowOf t.gone (k - (t.off - t.gone.length)) = [] := by unfold rowOf; rw [if_neg (by omega)]
    rw [e]
    have hk' : k - (t.off - t.gone.length) < 0 := by omega
    clear e h hw
    go_enter Tryz.func22, Tryz.ntmps22
    go_wp2_with fail
    go_quiet (fail)
    go_wp2
    go_ret
    exact ⟨_, _, rfl, Sl.nil _ _ _ _, (Chg.refl _ _).drewN _⟩
end T
end Go.Proofs.YtoegjmeoeefllaaGreatDoor
