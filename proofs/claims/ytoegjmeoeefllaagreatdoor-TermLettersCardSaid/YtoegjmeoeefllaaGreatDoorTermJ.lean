/- Walks: signs are printed. -/
import Derived.Test.YtoegjmeoeefllaaGreatDoorTermI
import Derived.Test.YtoegjmeoeefllaaGreatDoorWidth
import Derived.Test.YtoegjmeoeefllaaGreatDoorSign
namespace Go.Proofs.YtoegjmeoeefllaaGreatDoor
open Go Go.RowKit
namespace T
attribute [local go_sem high] run_max_2 run_min_2

def addS (r : List Cell) (c : Nat) (s : ByteArray) : List Cell := r.set c { cellAt r c with s := (cellAt r c).s ++ s }
def joinAt (r : List Cell) (c : Nat) : Nat := if (cellAt r c).wide = 0 then c - 1 else c
def join (t : Term) (s : ByteArray) : Term :=
  if t.full then setRow t t.row (addS (rowAt t.l t.row) (joinAt (rowAt t.l t.row) t.col) s)
  else if 0 < t.col then setRow t t.row (addS (rowAt t.l t.row) (joinAt (rowAt t.l t.row) (t.col - 1)) s) else t

theorem flat_setS (r : List Cell) (i : Nat) (c : Cell) (h : i < r.length) (h2 : c.wide = (cellAt r i).wide) (h3 : c.dim = (cellAt r i).dim) : flat (r.set i c) = (flat r).set (i * 3) (.string c.s) := by
  induction r generalizing i with
  | nil => simp at h
  | cons x r ih =>
    cases i with
    | zero =>
      simp only [cellAt, List.getD_cons_zero] at h2 h3
      simp [flat_cons, flatC, h2, h3]
    | succ i =>
      rw [List.set_cons_succ, flat_cons, flat_cons, ih i (by simpa using h) (by simpa [cellAt] using h2) (by simpa [cellAt] using h3), show (i + 1) * 3 = i * 3 + 3 by omega]
      simp [flatC]

theorem join_walk (p : Nat) (w : World) (s : ByteArray) (t : Term) (lb lo n cap rb ro rn rc c : Nat) (R : List Cell)
    (hcc : (t.full = true ∧ c = t.col) ∨ (t.full = false ∧ 0 < t.col ∧ c = t.col - 1)) (hcol : t.col < rn) (hsz : s.size ≤ 4) (htx : ∀ j, (cellAt R j).s.size ≤ 1099511627776)
    (h1 : w.cell? ⟨p, 1, none⟩ = some (.slice (some ⟨lb, lo, none⟩) n cap)) (h4 : w.cell? ⟨p, 4, none⟩ = some (.int .i64 t.row)) (h5 : w.cell? ⟨p, 5, none⟩ = some (.int .i64 t.col)) (h6 : w.cell? ⟨p, 6, none⟩ = some (.bool t.full))
    (h2 : w.cell? ⟨lb, lo + t.row, none⟩ = some (.slice (some ⟨rb, ro, none⟩) rn rc))
    (hat : SlAt w 32 3 (.slice (some ⟨rb, ro, none⟩) rn rc) rn (flat R) rb) (hR : R.length = rn)
    (hn1 : t.row < n) (hc : rn ≤ 1000) (hz : (cellAt R c).wide = 0 → 0 < c) :
    Calls Tryz.prog 45 #[.pointer (some ⟨p, 0, none⟩), .string s] w fun e w' => e = .returned (.tuple #[]) ∧
      SlAt w' 32 3 (.slice (some ⟨rb, ro, none⟩) rn rc) rn (flat (addS R (joinAt R c) s)) rb ∧ Chg (fun k => k = rb) w w' := by
  have hp := World.block_lt_of_cell? w _ h1
  have hlb := World.block_lt_of_cell? w _ h2
  have hrb := hat.lt
  simp only at hp hlb hrb
  have hcn : c < rn := by omega
  obtain ⟨e1, e2, e3⟩ := flat_at R c (by omega)
  obtain ⟨o', cap', l, hv, hblk, hl1, hl2, hl3, hl4⟩ := id hat
  injection hv with e4 e5 e6; injection e4 with e4; injection e4 with _ e4 _; subst e4 e6
  obtain ⟨_, _, hv, _, _, hcell⟩ := hat.cells
  injection hv with e4 e5 e6; injection e4 with e4; injection e4 with _ e4 _; subst e4 e6
  have c1 : w.cell? ⟨rb, ro + c * 3 + 1, none⟩ = some (.int .i64 (cellAt R c).wide) := by rw [Nat.add_assoc, hcell _ (by omega), e2]
  obtain ⟨d, hd⟩ : ∃ d, d = joinAt R c := ⟨_, rfl⟩
  have hdn : d < rn := by rw [hd, joinAt]; split <;> omega
  obtain ⟨g1, g2, g3⟩ := flat_at R d (by omega)
  have c2 : w.cell? ⟨rb, ro + d * 3, none⟩ = some (.string (cellAt R d).s) := by rw [hcell _ (by omega), g1]
  have c3 : w.frozen? ⟨rb, ro + d * 3, none⟩ = false := hblk.frozen _
  have hres : ∀ m, SlAt ((w.setCell ⟨rb, ro + d * 3, none⟩ (.string ((cellAt R d).s ++ s))).drewN m) 32 3 (.slice (some ⟨rb, ro, none⟩) rn rc) rn (flat (addS R d s)) rb ∧ Chg (fun k => k = rb) w ((w.setCell ⟨rb, ro + d * 3, none⟩ (.string ((cellAt R d).s ++ s))).drewN m) := fun m => by
    refine ⟨?_, ((Chg.at0 rb w).at_ _ _).drewN m⟩
    have hst := hat.store hblk (i := d * 3) (cells := [.string ((cellAt R d).s ++ s)]) (by simp; omega) (w' := (w.setCell ⟨rb, ro + d * 3, none⟩ (.string ((cellAt R d).s ++ s))).drewN m) (by
      rw [splice_cons _ _ _ _ (by omega), splice_nil]; exact (hblk.set _ _).drewN m)
    rw [splice_cons _ _ _ _ (by rw [flat_length]; omega), splice_nil, ← flat_setS R d { cellAt R d with s := (cellAt R d).s ++ s } (by omega) rfl rfl] at hst
    exact hst
  have hsum : ¬ (9223372036854775807 < (cellAt R d).s.size + s.size) := by have := htx d; omega
  have Hres := Lib.hid hres
  have hdw : ((cellAt R c).wide = 0 ∧ 0 < c ∧ d = c - 1) ∨ (¬ (cellAt R c).wide = 0 ∧ d = c) := by
    rw [hd, joinAt]
    by_cases hw : (cellAt R c).wide = 0
    · exact .inl ⟨hw, hz hw, by rw [if_pos hw]⟩
    · exact .inr ⟨hw, by rw [if_neg hw]⟩
  show Calls _ _ _ _ (fun e w' => e = _ ∧ SlAt w' _ 3 _ rn (flat (addS R (joinAt R c) s)) rb ∧ _)
  rw [← hd]
  generalize (cellAt R c).wide = wd at c1 hdw
  generalize (cellAt R d).s = sd at c2 hsum hres Hres
  generalize flat (addS R d s) = FR at hres Hres ⊢
  clear hd e1 e2 e3 g1 g2 g3 hcell hat hblk hl1 hl2 hl3 hl4 hz htx hR hres
  rcases hcc with ⟨hf, hcx⟩ | ⟨hf, h0, hcx⟩ <;> rw [hf] at h6 <;> rcases hdw with ⟨rfl, h00, hdx⟩ | ⟨hw, hdx⟩
  · rw [show (t.col : Int) = (d : Int) + 1 by omega] at h5
    rw [show c = d + 1 by omega] at c1
    have hd1 : (0 : Int) ≤ (d : Int) := by omega
    have hd2 : (d : Int) < (rn : Int) := by omega
    have hd3 : (d : Int) + 1 < (rn : Int) := by omega
    clear hcx hdx
    go_enter Tryz.func45, Tryz.ntmps45
    go_wp2_with fail
    go_quiet (fail)
    go_wp2_with fail
    all_goals (go_end0; exact ⟨rfl, Hres.out _⟩)
  · have hw2 : (wd == 0) = false := by simpa using hw
    rw [show (t.col : Int) = (d : Int) by omega] at h5
    rw [show c = d by omega] at c1
    have hd1 : (0 : Int) ≤ (d : Int) := by omega
    have hd2 : (d : Int) < (rn : Int) := by omega
    clear hcx hdx
    go_enter Tryz.func45, Tryz.ntmps45
    go_wp2_with fail
    go_quiet (fail)
    go_wp2_with fail
    all_goals (go_end0; exact ⟨rfl, Hres.out _⟩)
  · rw [show (t.col : Int) = (d : Int) + 1 + 1 by omega] at h5
    rw [show c = d + 1 by omega] at c1
    have hd1 : (0 : Int) ≤ (d : Int) := by omega
    have hd2 : (d : Int) < (rn : Int) := by omega
    have hd3 : (d : Int) + 1 < (rn : Int) := by omega
    have hd4 : (0 : Int) ≤ (d : Int) + 1 := by omega
    clear hcx hdx
    go_enter Tryz.func45, Tryz.ntmps45
    go_wp2_with fail
    go_quiet (fail)
    go_wp2_with fail
    all_goals (go_end0; exact ⟨rfl, Hres.out _⟩)
  · have hw2 : (wd == 0) = false := by simpa using hw
    rw [show (t.col : Int) = (d : Int) + 1 by omega] at h5
    rw [show c = d by omega] at c1
    have hd1 : (0 : Int) ≤ (d : Int) := by omega
    have hd2 : (d : Int) < (rn : Int) := by omega
    clear hcx hdx
    go_enter Tryz.func45, Tryz.ntmps45
    go_wp2_with fail
    go_quiet (fail)
    go_wp2_with fail
    all_goals (go_end0; exact ⟨rfl, Hres.out _⟩)
end T
end Go.Proofs.YtoegjmeoeefllaaGreatDoor
