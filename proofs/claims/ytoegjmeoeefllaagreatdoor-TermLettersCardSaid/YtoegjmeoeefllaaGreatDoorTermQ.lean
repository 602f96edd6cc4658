/- What a terminal keeps, whatever it is fed. Plain Lean. -/
import Derived.Test.YtoegjmeoeefllaaGreatDoorTermJ
namespace Go.Proofs.YtoegjmeoeefllaaGreatDoor
open Go Go.RowKit
namespace T

def RowOk (cols n : Nat) (r : List Cell) : Prop := Units r ∧ r.length = cols ∧ ∀ c ∈ r, c.s.size ≤ n + 4
/-- All that a terminal keeps; 'o': how many rows may have gone off; 'n': how long a cell's text may have become. -/
structure Ok (o n : Nat) (t : Term) : Prop where
  l0 : 1 ≤ t.l.length
  l1 : t.l.length ≤ 60
  c0 : 1 ≤ t.cols
  c1 : t.cols ≤ 120
  g : t.gone.length ≤ 1000
  row : t.row < t.l.length
  col : t.col < t.cols
  off : 0 ≤ t.off ∧ t.off ≤ o
  rows : ∀ r ∈ t.l, RowOk t.cols n r
  gone : ∀ r ∈ t.gone, 1 ≤ r.length ∧ r.length ≤ 120
  b : t.b.length ≤ 4
  seq : t.seq.size ≤ 16

theorem RowOk.mono {cols n m : Nat} {r : List Cell} (h : RowOk cols n r) (hm : n ≤ m) : RowOk cols m r := ⟨h.1, h.2.1, fun c hc => by have := h.2.2 c hc; omega⟩
theorem Ok.mono {o n o' n' : Nat} {t : Term} (h : Ok o n t) (ho : o ≤ o') (hn : n ≤ n') : Ok o' n' t := { h with off := ⟨h.off.1, by have := h.off.2; omega⟩, rows := fun r hr => (h.rows r hr).mono hn }
theorem Ok.dim {o n : Nat} {t : Term} (h : Ok o n t) (ho : o ≤ 1000000000000) : Dim t := ⟨h.l0, h.l1, h.c0, h.c1, h.g, ⟨h.off.1, by have := h.off.2; omega⟩, h.row, h.col⟩
theorem rowAt_mem {l : List (List Cell)} {k : Nat} (h : k < l.length) : rowAt l k ∈ l := by
  rw [rowAt, List.getD_eq_getElem?_getD, List.getElem?_eq_getElem h]; exact List.getElem_mem h
theorem Ok.rowOk {o n : Nat} {t : Term} (h : Ok o n t) {k : Nat} (hk : k < t.l.length) : RowOk t.cols n (rowAt t.l k) := h.rows _ (rowAt_mem hk)

theorem putRow_mem {r : List Cell} {col : Nat} {c x : Cell} (h : x ∈ putRow r col c) : x ∈ r ∨ x = Blank ∨ x = c := by
  have set1 : ∀ (r : List Cell) i (y : Cell), x ∈ r.set i y → x ∈ r ∨ x = y := fun r i y h => by
    rcases List.mem_or_eq_of_mem_set h with h | h; exact .inl h; exact .inr h
  unfold putRow at h
  simp only at h
  rcases set1 _ _ _ h with h | h
  · have two : ∀ (p q : Prop) [Decidable p] [Decidable q] (r : List Cell) i j, x ∈ (if p then (if q then r.set i Blank else r).set j Blank else (if q then r.set i Blank else r)) → x ∈ r ∨ x = Blank := by
      intro p q _ _ r i j h
      by_cases hp : p <;> by_cases hq : q <;> simp only [hp, hq, if_true, if_false] at h
      · rcases set1 _ _ _ h with h | h
        · exact set1 _ _ _ h
        · exact .inr h
      · exact set1 _ _ _ h
      · exact set1 _ _ _ h
      · exact .inl h
    rcases two _ _ _ _ _ h with h | h
    · exact .inl h
    · exact .inr (.inl h)
  · exact .inr (.inr h)
theorem Blank_size : Blank.s.size = 1 := by decide
theorem RowOk.put_one {cols n : Nat} {r : List Cell} (h : RowOk cols n r) {col : Nat} (hc : col < cols) {c : Cell} (h1 : c.wide = 1) (hs : c.s.size ≠ 0) (hs2 : c.s.size ≤ 4) : RowOk cols n (putRow r col c) := by
  refine ⟨h.1.put_one (by rw [h.2.1]; exact hc) h1 hs, by rw [putRow_length, h.2.1], fun x hx => ?_⟩
  rcases putRow_mem hx with hx | rfl | rfl
  · exact h.2.2 x hx
  · rw [Blank_size]; omega
  · omega
theorem RowOk.put_two {cols n : Nat} {r : List Cell} (h : RowOk cols n r) {col : Nat} (hc : col + 1 < cols) {c k : Cell} (h1 : c.wide = 2) (hs : c.s.size ≠ 0) (hs2 : c.s.size ≤ 4) (h2 : k.wide = 0) (ht : k.s.size = 0) : RowOk cols n (putRow (putRow r col c) (col + 1) k) := by
  refine ⟨h.1.put_two (by rw [h.2.1]; exact hc) h1 hs h2 ht, by rw [putRow_length, putRow_length, h.2.1], fun x hx => ?_⟩
  rcases putRow_mem hx with hx | rfl | rfl
  · rcases putRow_mem hx with hx | rfl | rfl
    · exact h.2.2 x hx
    · rw [Blank_size]; omega
    · omega
  · rw [Blank_size]; omega
  · omega
theorem RowOk.blank (cols n : Nat) : RowOk cols n (blankRow cols) := ⟨blankRow_units cols, by simp [blankRow], fun x hx => by rw [List.eq_of_mem_replicate hx, Blank_size]; omega⟩

theorem Ok.setRow {o n : Nat} {t : Term} (h : Ok o n t) (k : Nat) {r : List Cell} (hr : RowOk t.cols n r) : Ok o n (setRow t k r) :=
  { h with
    l0 := by simpa [T.setRow] using h.l0
    l1 := by simpa [T.setRow] using h.l1
    row := by simpa [T.setRow] using h.row
    rows := fun x hx => by
      rcases List.mem_or_eq_of_mem_set (show x ∈ t.l.set k r from hx) with hx | rfl
      · exact h.rows x hx
      · exact hr }
theorem put_eq (t : Term) (row col : Nat) (c : Cell) : put t row col c = setRow t row (putRow (rowAt t.l row) col c) := rfl

theorem Ok.scroll {o n : Nat} {t : Term} (h : Ok o n t) : Ok (o + 1) n (scroll t) := by
  have hl0 := h.l0
  have hl : (t.l.drop 1 ++ [blankRow t.cols]).length = t.l.length := by simp; omega
  have e : (T.scroll t).l = t.l.drop 1 ++ [blankRow t.cols] := by simp only [T.scroll]
  have eg : (T.scroll t).gone = keep (t.gone ++ [rowAt t.l 0]) := by simp only [T.scroll]
  have el : (T.scroll t).l.length = t.l.length := by rw [e, hl]
  exact
  { h with
    l0 := by rw [el]; exact h.l0
    l1 := by rw [el]; exact h.l1
    row := by rw [el]; exact h.row
    g := by rw [eg]; have := h.g; simp only [keep, List.length_drop, List.length_append, List.length_singleton]; omega
    off := by have := h.off; simp only [T.scroll]; omega
    rows := fun r hr => by
      rw [e, List.mem_append, List.mem_singleton] at hr
      rcases hr with hr | rfl
      · exact h.rows r (List.mem_of_mem_drop hr)
      · exact RowOk.blank _ _
    gone := fun r hr => by
      rw [eg] at hr
      have hr := List.mem_of_mem_drop hr
      rw [List.mem_append, List.mem_singleton] at hr
      rcases hr with hr | rfl
      · exact h.gone r hr
      · have := (h.rowOk h.l0).2.1; have := h.c0; have := h.c1; omega }
theorem Ok.down {o n : Nat} {t : Term} (h : Ok o n t) : Ok (o + 1) n (down t) := by
  unfold T.down
  split
  · exact { h.mono (Nat.le_succ o) (Nat.le_refl n) with row := by assumption }
  · exact Ok.scroll (t := { t with full := false }) { h with }
theorem Ok.zeroCol {o n : Nat} {t : Term} (h : Ok o n t) : Ok o n { t with col := 0 } := { h with col := h.c0 }
theorem Ok.control {o n : Nat} {t : Term} (h : Ok o n t) (x : Nat) : Ok (o + 1) n (control t x) := by
  have h' := h.mono (Nat.le_succ o) (Nat.le_refl n)
  have hc := h.col
  unfold T.control
  repeat' split
  · exact { h' with col := h.c0 }
  · exact h.down
  · exact { h' with col := by show t.col - 1 < t.cols; omega }
  · exact h'
end T
end Go.Proofs.YtoegjmeoeefllaaGreatDoor
