/- Signs of one width, laid one behind another. Plain Lean. -/
import Derived.Test.YtoegjmeoeefllaaGreatDoorSeqs
namespace Go.Proofs.YtoegjmeoeefllaaGreatDoor
open Go Go.RowKit
namespace T

structure Grid where
  C : Nat
  R : Nat
  e : Nat
  wd : Nat
  sg : Nat → Cell
structure Fit (g : Grid) : Prop where
  wd : g.wd = 1 ∨ g.wd = 2
  e : g.e = g.C / g.wd
  e1 : 1 ≤ g.e
  r1 : 1 ≤ g.R
def halfC : Cell := ⟨ByteArray.empty, 0, false⟩
def cellL (g : Grid) (n k j : Nat) : Cell := if j / g.wd < g.e ∧ k * g.e + j / g.wd < n then (if j % g.wd = 0 then g.sg (k * g.e + j / g.wd) else halfC) else Blank
def lineL (g : Grid) (n k : Nat) : List Cell := (List.range g.C).map (cellL g n k)

theorem line_len (g : Grid) (n k : Nat) : (lineL g n k).length = g.C := by simp [lineL]
theorem line_at (g : Grid) (n k : Nat) {j : Nat} (h : j < g.C) : cellAt (lineL g n k) j = cellL g n k j := by
  simp [cellAt, lineL, List.getD, h]
theorem line_ext {a b : List Cell} (hl : a.length = b.length) (h : ∀ j, j < a.length → cellAt a j = cellAt b j) : a = b := by
  refine List.ext_getElem hl (fun j h1 h2 => ?_)
  have := h j h1
  simpa [cellAt, List.getD, h1, h2] using this
theorem blank_at (n j : Nat) : cellAt (blankRow n) j = Blank := by
  simp only [cellAt, blankRow, List.getD_eq_getElem?_getD, List.getElem?_replicate]
  split <;> rfl
theorem cell_past (g : Grid) {n k : Nat} (h : n ≤ k * g.e) (j : Nat) : cellL g n k j = Blank := if_neg (fun h2 => absurd (Nat.lt_of_le_of_lt (Nat.le_add_right (k * g.e) (j / g.wd)) h2.2) (Nat.not_lt.2 h))
theorem line_blank (g : Grid) {n k : Nat} (h : n ≤ k * g.e) : lineL g n k = blankRow g.C := by
  refine line_ext (by rw [line_len]; simp [blankRow]) (fun j hj => ?_)
  rw [line_len] at hj
  rw [line_at g n k hj, cell_past g h, blank_at]
theorem fit_mul {g : Grid} (h : Fit g) : g.e * g.wd ≤ g.C ∧ g.C < (g.e + 1) * g.wd := by
  rcases h.wd with e | e <;> have := h.e <;> rw [e] at this ⊢ <;> omega
/-- One sign more. -/
theorem cell_next {g : Grid} {n q m : Nat} (hn : n = q * g.e + m) (hm : m < g.e) (k j : Nat) :
    cellL g (n + 1) k j = if k = q ∧ j / g.wd = m then (if j % g.wd = 0 then g.sg n else halfC) else cellL g n k j := by
  by_cases hk : k = q
  · subst hk
    by_cases hj : j / g.wd = m
    · rw [if_pos ⟨rfl, hj⟩, cellL, hj, if_pos ⟨hm, by omega⟩, hn]
    · rw [if_neg (fun h => hj h.2)]
      unfold cellL
      have : (j / g.wd < g.e ∧ k * g.e + j / g.wd < n + 1) ↔ (j / g.wd < g.e ∧ k * g.e + j / g.wd < n) := by generalize j / g.wd = d at *; omega
      simp only [this]
  · rw [if_neg (fun h => hk h.1)]
    unfold cellL
    have h1 : (j / g.wd < g.e ∧ k * g.e + j / g.wd < n + 1) ↔ (j / g.wd < g.e ∧ k * g.e + j / g.wd < n) := by
      rcases Nat.lt_or_gt_of_ne hk with h | h
      · have := Nat.mul_le_mul_right g.e (show k + 1 ≤ q from h)
        rw [Nat.add_mul] at this; generalize j / g.wd = d; generalize k * g.e = a at *; generalize q * g.e = b at *; omega
      · have := Nat.mul_le_mul_right g.e (show q + 1 ≤ k from h)
        rw [Nat.add_mul] at this; generalize j / g.wd = d; generalize k * g.e = a at *; generalize q * g.e = b at *; omega
    simp only [h1]
theorem line_other {g : Grid} {n q m : Nat} (hn : n = q * g.e + m) (hm : m < g.e) {k : Nat} (hk : k ≠ q) : lineL g (n + 1) k = lineL g n k := by
  unfold lineL
  refine List.map_congr_left (fun j _ => ?_)
  rw [cell_next hn hm, if_neg (fun h => hk h.1)]
theorem cell_free {g : Grid} {n q m : Nat} (hn : n = q * g.e + m) {j : Nat} (hj : m ≤ j / g.wd) : cellL g n q j = Blank := if_neg (fun h => absurd (Nat.lt_of_le_of_lt (Nat.add_le_add_left hj (q * g.e)) h.2) (by rw [← hn]; exact Nat.lt_irrefl n))

theorem putRow_onB {r : List Cell} {j : Nat} (c : Cell) (h : cellAt r j = Blank) : putRow r j c = r.set j c := by
  unfold putRow
  rw [h]
  have h0 : ¬ (Blank.wide = 0 ∧ (cellAt r (j - 1)).wide = 2) := fun h => absurd h.1 (by decide)
  simp only [if_neg h0]
  rw [h, if_neg (by decide)]
theorem set_self {r : List Cell} {j : Nat} (hj : j < r.length) : r.set j (cellAt r j) = r := by
  simp [cellAt, List.getD, hj]

/-- The row that is being written, with one sign more. -/
theorem line_put {g : Grid} (hg : Fit g) {n q m : Nat} (hn : n = q * g.e + m) (hm : m < g.e) :
    (g.wd = 1 → putRow (lineL g n q) m (g.sg n) = lineL g (n + 1) q) ∧
    (g.wd = 2 → (g.sg n).wide = 2 → putRow (putRow (lineL g n q) (m * 2) (g.sg n)) (m * 2 + 1) halfC = lineL g (n + 1) q) := by
  have hf := fit_mul hg
  constructor
  · intro hw
    rw [hw] at hf
    rw [putRow_onB _ (by rw [line_at g n q (by omega)]; exact cell_free hn (by rw [hw]; omega))]
    refine line_ext (by simp [line_len]) (fun j hj => ?_)
    rw [List.length_set, line_len] at hj
    rw [line_at g (n + 1) q hj, cell_next hn hm, cellAt_set _ _ _ _ (by rw [line_len]; exact hj), line_at g n q hj, hw, Nat.div_one, Nat.mod_one]
    by_cases h : j = m
    · rw [if_pos h, if_pos ⟨rfl, h⟩, if_pos rfl]
    · rw [if_neg h, if_neg (fun h2 => h h2.2)]
  · intro hw _
    have hmul : (m + 1) * 2 ≤ g.e * 2 := by omega
    rw [hw] at hf
    have b1 : cellAt (lineL g n q) (m * 2) = Blank := by rw [line_at g n q (by omega)]; exact cell_free hn (by rw [hw]; omega)
    have b2 : cellAt ((lineL g n q).set (m * 2) (g.sg n)) (m * 2 + 1) = Blank := by
      rw [cellAt_set _ _ _ _ (by rw [line_len]; omega), if_neg (by omega), line_at g n q (by omega)]; exact cell_free hn (by rw [hw]; omega)
    rw [putRow_onB _ b1, putRow_onB _ b2]
    refine line_ext (by simp [line_len]) (fun j hj => ?_)
    rw [List.length_set, List.length_set, line_len] at hj
    rw [line_at g (n + 1) q hj, cell_next hn hm, cellAt_set _ _ _ _ (by rw [List.length_set, line_len]; exact hj), cellAt_set _ _ _ _ (by rw [line_len]; exact hj), line_at g n q hj, hw]
    by_cases h : j = m * 2 + 1
    · rw [if_pos h, if_pos ⟨rfl, by omega⟩, if_neg (by omega)]
    · rw [if_neg h]
      by_cases h2 : j = m * 2
      · rw [if_pos h2, if_pos ⟨rfl, by omega⟩, if_pos (by omega)]
      · rw [if_neg h2, if_neg (fun h3 => by omega)]

/-! ### the terminal -/
structure Bd (g : Grid) (t : Term) (q n : Nat) : Prop where
  cols : t.cols = g.C
  l : t.l = (List.range g.R).map (fun i => lineL g n (q + 1 - g.R + i))
  gone : t.gone = (List.range (q + 1 - g.R)).map (lineL g n)
  off : t.off = ((q + 1 - g.R : Nat) : Int)
  row : t.row = q - (q + 1 - g.R)
  dim : t.dim = false
def Pos (g : Grid) (t : Term) (m : Nat) : Prop := if m * g.wd < g.C then t.col = m * g.wd ∧ t.full = false else t.col = g.C - 1 ∧ t.full = true

theorem Bd.same {g : Grid} {t : Term} {q n : Nat} (h : Bd g t q n) (c : Nat) (f : Bool) : Bd g { t with col := c, full := f } q n := { h with }
theorem Bd.len {g : Grid} {t : Term} {q n : Nat} (h : Bd g t q n) : t.l.length = g.R := by rw [h.l]; simp
theorem Bd.at_ {g : Grid} {t : Term} {q n : Nat} (h : Bd g t q n) {i : Nat} (hi : i < g.R) : rowAt t.l i = lineL g n (q + 1 - g.R + i) := by
  rw [h.l]; simp [rowAt, List.getD, hi]
theorem Bd.goneAt {g : Grid} {t : Term} {q n : Nat} (h : Bd g t q n) {i : Nat} (hi : i < q + 1 - g.R) : rowAt t.gone i = lineL g n i := by
  rw [h.gone]; simp [rowAt, List.getD, hi]
theorem Bd.here {g : Grid} {t : Term} {q n : Nat} (h : Bd g t q n) (hr : 1 ≤ g.R) : rowAt t.l t.row = lineL g n q := by
  rw [h.at_ (by rw [h.row]; omega), h.row]; congr 1; omega

theorem scroll_gone (t : Term) : ({ scroll { t with full := false } with col := 0 } : Term).gone = keep (t.gone ++ [rowAt t.l 0]) := by simp only [scroll]
theorem keep_few {l : List (List Cell)} (h : l.length ≤ 1000) : keep l = l := by
  unfold keep; rw [Nat.sub_eq_zero_of_le h, List.drop_zero]
theorem Bd.down {g : Grid} {t : Term} {q n : Nat} (h : Bd g t q n) (hr : 1 ≤ g.R) (hn : n ≤ (q + 1) * g.e) (hq : q < 1000) : Bd g { T.down t with col := 0 } (q + 1) n ∧ Pos g { T.down t with col := 0 } 0 ∨ g.C = 0 := by
  by_cases hC : g.C = 0
  · exact .inr hC
  left
  have hp : ∀ u : Term, u.full = false → Pos g { u with col := 0 } 0 := fun u hu => by
    unfold Pos; rw [if_pos (by omega)]; exact ⟨by simp, hu⟩
  unfold T.down
  by_cases hlt : t.row + 1 < t.l.length
  · rw [if_pos hlt]
    rw [h.len, h.row] at hlt
    refine ⟨⟨h.cols, ?_, ?_, ?_, ?_, h.dim⟩, hp _ rfl⟩
    · show t.l = _; rw [h.l]; have e : q + 1 + 1 - g.R = q + 1 - g.R := by omega
      rw [e]
    · show t.gone = _; rw [h.gone]; have e : q + 1 + 1 - g.R = q + 1 - g.R := by omega
      rw [e]
    · show t.off = _; rw [h.off]; congr 1; omega
    · show t.row + 1 = _; rw [h.row]; omega
  · rw [if_neg hlt]
    rw [h.len, h.row] at hlt
    have e : q + 1 + 1 - g.R = q + 1 - g.R + 1 := by omega
    refine ⟨⟨h.cols, ?_, ?_, ?_, ?_, h.dim⟩, hp _ rfl⟩
    · show t.l.drop 1 ++ [blankRow t.cols] = _
      rw [h.l, h.cols, e]
      refine List.ext_getElem (by simp; omega) (fun j h1 h2 => ?_)
      simp only [List.length_map, List.length_range] at h2
      by_cases hj : j < g.R - 1
      · rw [List.getElem_append_left (by simp; omega)]
        simp only [List.getElem_drop, List.getElem_map, List.getElem_range]
        congr 1; omega
      · rw [List.getElem_append_right (by simp; omega)]
        simp only [List.getElem_map, List.getElem_range, List.getElem_singleton]
        refine (line_blank g ?_).symm
        have e3 : q + 1 - g.R + 1 + j = q + 1 := by omega
        rw [e3]; exact hn
    · refine (scroll_gone t).trans ?_
      have hz : (t.gone ++ [rowAt t.l 0]).length ≤ 1000 := by rw [List.length_append, h.gone, List.length_map, List.length_range, List.length_singleton]; omega
      have e5 : rowAt t.l 0 = lineL g n (q + 1 - g.R) := h.at_ hr
      rw [keep_few hz, e, List.range_succ, List.map_append, ← h.gone, e5]; rfl
    · show t.off + 1 = _; rw [h.off, e]; rfl
    · show t.row = _; rw [h.row]; omega

theorem map_set {α : Type} {R : Nat} {f f' : Nat → α} {i : Nat} {x : α} (hx : x = f' i) (h : ∀ k, k < R → k ≠ i → f k = f' k) : ((List.range R).map f).set i x = (List.range R).map f' := by
  refine List.ext_getElem (by simp) (fun j h1 h2 => ?_)
  simp only [List.length_map, List.length_range] at h2
  rw [List.getElem_set]
  split
  · next e => subst e; rw [hx]; simp
  · next e => simp only [List.getElem_map, List.getElem_range]; exact h j h2 (fun e2 => e e2.symm)

/-- The row is written anew. -/
theorem Bd.put {g : Grid} {t : Term} {q n m : Nat} (h : Bd g t q n) (hr : 1 ≤ g.R) (hn : n = q * g.e + m) (hm : m < g.e) {X : List Cell} (hX : X = lineL g (n + 1) q) : Bd g (setRow t t.row X) q (n + 1) := by
  refine ⟨h.cols, ?_, ?_, h.off, h.row, h.dim⟩
  · show t.l.set t.row X = _
    rw [h.l]
    refine map_set ?_ (fun k hk hne => ?_)
    · rw [hX, h.row]; congr 1; omega
    · refine (line_other hn hm ?_).symm
      rw [h.row] at hne; omega
  · show t.gone = _
    rw [h.gone]
    refine List.map_congr_left (fun k hk => ?_)
    rw [List.mem_range] at hk
    exact (line_other hn hm (by omega)).symm
end T
end Go.Proofs.YtoegjmeoeefllaaGreatDoor
