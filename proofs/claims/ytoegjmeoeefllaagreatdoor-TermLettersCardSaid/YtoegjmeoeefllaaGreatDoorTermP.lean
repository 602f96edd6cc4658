/- Rows of cells: what is right, and what put, erase and sign keep. Plain Lean. -/
import Derived.Test.YtoegjmeoeefllaaGreatDoorTermM
namespace Go.Proofs.YtoegjmeoeefllaaGreatDoor
open Go Go.RowKit
namespace T

/-- A cell's columns. -/
def W (r : List Cell) (j : Nat) : Int := (cellAt r j).wide
/-- A row is right: cells of one column, and cells of two, each with its half behind it. -/
inductive Units : List Cell → Prop
  | nil : Units []
  | one (c : Cell) (r : List Cell) (h1 : c.wide = 1) (hs : c.s.size ≠ 0) (h : Units r) : Units (c :: r)
  | two (c k : Cell) (r : List Cell) (h1 : c.wide = 2) (hs : c.s.size ≠ 0) (h2 : k.wide = 0) (ht : k.s.size = 0) (h : Units r) : Units (c :: k :: r)

theorem cellAt_cons_zero (c : Cell) (r : List Cell) : cellAt (c :: r) 0 = c := rfl
theorem cellAt_cons_succ (c : Cell) (r : List Cell) (j : Nat) : cellAt (c :: r) (j + 1) = cellAt r j := rfl
theorem cellAt_append (a b : List Cell) (i : Nat) : cellAt (a ++ b) (a.length + i) = cellAt b i := by
  unfold cellAt; rw [List.getD_eq_getElem?_getD, List.getD_eq_getElem?_getD, List.getElem?_append_right (by omega)]; congr 2; omega
theorem set_append (a b : List Cell) (i : Nat) (c : Cell) : (a ++ b).set (a.length + i) c = a ++ b.set i c := by
  rw [List.set_append_right _ _ (by omega)]; congr 2; omega
theorem cellAt_mid (a : List Cell) (x : Cell) (b : List Cell) : cellAt (a ++ x :: b) a.length = x := cellAt_append a (x :: b) 0
theorem set_mid (a : List Cell) (x c : Cell) (b : List Cell) : (a ++ x :: b).set a.length c = a ++ c :: b := by simp
theorem putRow_length (r : List Cell) (col : Nat) (c : Cell) : (putRow r col c).length = r.length := by
  unfold putRow; simp only [List.length_set]; (repeat' split) <;> simp
theorem Units.append {a b : List Cell} (ha : Units a) (hb : Units b) : Units (a ++ b) := by
  induction ha with
  | nil => exact hb
  | one c r h1 hs _ ih => exact .one c _ h1 hs ih
  | two c k r h1 hs h2 ht _ ih => exact .two c k _ h1 hs h2 ht ih
theorem Blank_one {r : List Cell} (h : Units r) : Units (Blank :: r) := .one _ _ rfl (by decide) h

theorem cellAt_set_ne (r : List Cell) (i j : Nat) (c : Cell) (h : j ≠ i) : cellAt (r.set i c) j = cellAt r j := by
  unfold cellAt; rw [List.getD_eq_getElem?_getD, List.getD_eq_getElem?_getD, List.getElem?_set_ne (Ne.symm h)]

/-- Where a column of a right row lies. -/
theorem Units.at {r : List Cell} (h : Units r) : ∀ col, col < r.length → ∃ a b, Units a ∧ Units b ∧
    ((∃ x, x.wide = 1 ∧ x.s.size ≠ 0 ∧ r = a ++ x :: b ∧ col = a.length) ∨ (∃ x k, x.wide = 2 ∧ x.s.size ≠ 0 ∧ k.wide = 0 ∧ k.s.size = 0 ∧ r = a ++ x :: k :: b ∧ (col = a.length ∨ col = a.length + 1))) := by
  induction h with
  | nil => intro col h; simp at h
  | one c r h1 hs hr ih =>
    intro col hcol
    cases col with
    | zero => exact ⟨[], r, .nil, hr, .inl ⟨c, h1, hs, rfl, rfl⟩⟩
    | succ col =>
      obtain ⟨a, b, ha, hb, h⟩ := ih col (by simpa using hcol)
      refine ⟨c :: a, b, .one c a h1 hs ha, hb, ?_⟩
      rcases h with ⟨x, e1, e2, e3, e4⟩ | ⟨x, k, e1, e2, e3, e4, e5, e6⟩
      · exact .inl ⟨x, e1, e2, by rw [e3]; rfl, by simp [e4]⟩
      · exact .inr ⟨x, k, e1, e2, e3, e4, by rw [e5]; rfl, by simp; omega⟩
  | two c k r h1 hs h2 ht hr ih =>
    intro col hcol
    match col, hcol with
    | 0, _ => exact ⟨[], r, .nil, hr, .inr ⟨c, k, h1, hs, h2, ht, rfl, .inl rfl⟩⟩
    | 1, _ => exact ⟨[], r, .nil, hr, .inr ⟨c, k, h1, hs, h2, ht, rfl, .inr rfl⟩⟩
    | col + 2, hcol =>
      obtain ⟨a, b, ha, hb, h⟩ := ih col (by simpa using hcol)
      refine ⟨c :: k :: a, b, .two c k a h1 hs h2 ht ha, hb, ?_⟩
      rcases h with ⟨x, e1, e2, e3, e4⟩ | ⟨x, k, e1, e2, e3, e4, e5, e6⟩
      · exact .inl ⟨x, e1, e2, by rw [e3]; rfl, by simp [e4]⟩
      · exact .inr ⟨x, k, e1, e2, e3, e4, by rw [e5]; rfl, by simp; omega⟩

/-! ### put, by what stands there -/
theorem putRow1 {a b : List Cell} {x c : Cell} (hx : x.wide = 1) : putRow (a ++ x :: b) a.length c = a ++ c :: b := by
  have e : cellAt (a ++ x :: b) a.length = x := cellAt_mid _ _ _
  have s : ∀ c, (a ++ x :: b).set a.length c = a ++ c :: b := fun c => set_mid _ _ _ _
  unfold putRow
  simp only [e, hx]
  simp [e, hx]
theorem putRow2 {a b : List Cell} {x k c : Cell} (hx : x.wide = 2) : putRow (a ++ x :: k :: b) a.length c = a ++ c :: Blank :: b := by
  have e : cellAt (a ++ x :: k :: b) a.length = x := cellAt_mid _ _ _
  unfold putRow
  simp only [e, hx]
  simp only [show ¬ ((2 : Int) = 0 ∧ (cellAt (a ++ x :: k :: b) (a.length - 1)).wide = 2) from fun h => by omega, if_false, e, hx, if_true]
  rw [set_append]
  exact set_mid _ _ _ _
theorem putRow0 {a b : List Cell} {x k c : Cell} (hx : x.wide = 2) (hk : k.wide = 0) : putRow (a ++ x :: k :: b) (a.length + 1) c = a ++ Blank :: c :: b := by
  have e : cellAt (a ++ x :: k :: b) (a.length + 1) = k := cellAt_append a (x :: k :: b) 1
  have e0 : cellAt (a ++ x :: k :: b) (a.length + 1 - 1) = x := cellAt_mid _ _ _
  unfold putRow
  simp only [e, e0, hx, hk, and_self, if_true]
  have s0 : (a ++ x :: k :: b).set (a.length + 1 - 1) Blank = a ++ Blank :: k :: b := set_mid _ _ _ _
  rw [s0]
  have e2 : cellAt (a ++ Blank :: k :: b) (a.length + 1) = k := cellAt_append a (Blank :: k :: b) 1
  simp only [e2, hk, show ¬ ((0 : Int) = 2) from by omega, if_false]
  exact set_append a (Blank :: k :: b) 1 c

theorem Units.put_one {r : List Cell} (h : Units r) {col : Nat} (hc : col < r.length) {c : Cell} (h1 : c.wide = 1) (hs : c.s.size ≠ 0) : Units (putRow r col c) := by
  obtain ⟨a, b, ha, hb, ⟨x, e1, e2, rfl, rfl⟩ | ⟨x, k, e1, e2, e3, e4, rfl, rfl | rfl⟩⟩ := h.at col hc
  · rw [putRow1 e1]; exact ha.append (.one _ _ h1 hs hb)
  · rw [putRow2 e1]; exact ha.append (.one _ _ h1 hs (Blank_one hb))
  · rw [putRow0 e1 e3]; exact ha.append (Blank_one (.one _ _ h1 hs hb))
/-- A sign of two columns: its cell, and its half. -/
theorem Units.put_two {r : List Cell} (h : Units r) {col : Nat} (hc : col + 1 < r.length) {c k : Cell} (h1 : c.wide = 2) (hs : c.s.size ≠ 0) (h2 : k.wide = 0) (ht : k.s.size = 0) : Units (putRow (putRow r col c) (col + 1) k) := by
  -- behind the first one: a cell of two columns, and one behind it
  have key : ∀ a x b, Units a → Units (x :: b) → Units (putRow (a ++ c :: x :: b) (a.length + 1) k) := by
    intro a x b ha hxb
    have e : a ++ c :: x :: b = (a ++ [c]) ++ x :: b := by simp
    have el : a.length + 1 = (a ++ [c]).length := by simp
    rw [e, el]
    cases hxb with
    | one _ _ g1 g2 g3 => rw [putRow1 g1]; simpa using ha.append (.two c k b h1 hs h2 ht g3)
    | two _ y r' g1 g2 g3 g4 g5 => rw [putRow2 g1]; simpa using ha.append (.two c k _ h1 hs h2 ht (Blank_one g5))
  obtain ⟨a, b, ha, hb, ⟨x, e1, e2, rfl, rfl⟩ | ⟨x, y, e1, e2, e3, e4, rfl, rfl | rfl⟩⟩ := h.at col (by omega)
  · rw [putRow1 e1]
    cases b with
    | nil => simp at hc
    | cons z b => exact key a z b ha hb
  · rw [putRow2 e1]; exact key a Blank b ha (Blank_one hb)
  · rw [putRow0 e1 e3]
    cases b with
    | nil => simp at hc
    | cons z b =>
      have e : a ++ Blank :: c :: z :: b = (a ++ [Blank]) ++ c :: z :: b := by simp
      have el : a.length + 1 + 1 = (a ++ [Blank]).length + 1 := by simp
      rw [e, el]
      exact key _ z b (ha.append (Blank_one .nil)) hb

/-- What put asks. -/
def PutOk (r : List Cell) (col : Nat) : Prop := ((cellAt r col).wide = 0 → 0 < col) ∧ ((cellAt (if (cellAt r col).wide = 0 ∧ (cellAt r (col - 1)).wide = 2 then r.set (col - 1) Blank else r) col).wide = 2 → col + 1 < r.length)
theorem PutOk.one {a b : List Cell} {x : Cell} (hx : x.wide = 1) : PutOk (a ++ x :: b) a.length := by
  have e : cellAt (a ++ x :: b) a.length = x := cellAt_mid _ _ _
  constructor
  · rw [e, hx]; intro h; omega
  · rw [e, hx, if_neg (fun h => by omega), e, hx]; intro h; omega
theorem PutOk.two {a b : List Cell} {x k : Cell} (hx : x.wide = 2) : PutOk (a ++ x :: k :: b) a.length := by
  have e : cellAt (a ++ x :: k :: b) a.length = x := cellAt_mid _ _ _
  constructor
  · rw [e, hx]; intro h; omega
  · intro _; simp
theorem PutOk.half {a b : List Cell} {x k : Cell} (hx : x.wide = 2) (hk : k.wide = 0) : PutOk (a ++ x :: k :: b) (a.length + 1) := by
  have e : cellAt (a ++ x :: k :: b) (a.length + 1) = k := cellAt_append a (x :: k :: b) 1
  have e0 : cellAt (a ++ x :: k :: b) (a.length + 1 - 1) = x := cellAt_mid _ _ _
  constructor
  · intro _; omega
  · rw [e, e0, hx, hk, if_pos ⟨rfl, rfl⟩]
    have s0 : (a ++ x :: k :: b).set (a.length + 1 - 1) Blank = a ++ Blank :: k :: b := set_mid _ _ _ _
    have e2 : cellAt (a ++ Blank :: k :: b) (a.length + 1) = k := cellAt_append a (Blank :: k :: b) 1
    rw [s0, e2, hk]; intro h; omega
theorem Units.putOk {r : List Cell} (h : Units r) {col : Nat} (hc : col < r.length) : PutOk r col := by
  obtain ⟨a, b, ha, hb, ⟨x, e1, e2, rfl, rfl⟩ | ⟨x, k, e1, e2, e3, e4, rfl, rfl | rfl⟩⟩ := h.at col hc
  · exact PutOk.one e1
  · exact PutOk.two e1
  · exact PutOk.half e1 e3
/-- .. for the half of a sign of two columns. -/
theorem Units.putOk2 {r : List Cell} (h : Units r) {col : Nat} (hc : col + 1 < r.length) {c : Cell} : PutOk (putRow r col c) (col + 1) := by
  have key : ∀ a x b, Units (x :: b) → PutOk (a ++ c :: x :: b) (a.length + 1) := by
    intro a x b hxb
    have e : a ++ c :: x :: b = (a ++ [c]) ++ x :: b := by simp
    have el : a.length + 1 = (a ++ [c]).length := by simp
    rw [e, el]
    cases hxb with
    | one _ _ g1 g2 g3 => exact PutOk.one g1
    | two _ y r' g1 g2 g3 g4 g5 => exact PutOk.two g1
  obtain ⟨a, b, ha, hb, ⟨x, e1, e2, rfl, rfl⟩ | ⟨x, y, e1, e2, e3, e4, rfl, rfl | rfl⟩⟩ := h.at col (by omega)
  · rw [putRow1 e1]
    cases b with
    | nil => simp at hc
    | cons z b => exact key a z b hb
  · rw [putRow2 e1]; exact key a Blank b (Blank_one hb)
  · rw [putRow0 e1 e3]
    cases b with
    | nil => simp at hc
    | cons z b =>
      have e : a ++ Blank :: c :: z :: b = (a ++ [Blank]) ++ c :: z :: b := by simp
      have el : a.length + 1 + 1 = (a ++ [Blank]).length + 1 := by simp
      rw [e, el]
      exact key _ z b hb

theorem blankRow_units (n : Nat) : Units (blankRow n) := by
  unfold blankRow
  induction n with
  | zero => exact .nil
  | succ n ih => rw [List.replicate_succ]; exact Blank_one ih

/-- A right row, cell by cell. -/
theorem Units.cells {r : List Cell} (h : Units r) : ∀ j, j < r.length → (W r j = 0 ∨ W r j = 1 ∨ W r j = 2) ∧ (W r j = 0 ↔ 0 < j ∧ W r (j - 1) = 2) ∧ (W r j = 2 → j + 1 < r.length) ∧ ((cellAt r j).s.size = 0 ↔ W r j = 0) := by
  induction h with
  | nil => intro j hj; simp at hj
  | one c r h1 hs _ ih =>
    intro j hj
    cases j with
    | zero =>
      have : W (c :: r) 0 = 1 := h1
      have : (cellAt (c :: r) 0).s.size ≠ 0 := hs
      simp only [List.length_cons]; omega
    | succ j =>
      have e : W (c :: r) (j + 1) = W r j := rfl
      have es : cellAt (c :: r) (j + 1) = cellAt r j := rfl
      have := ih j (by simpa using hj)
      rw [e, es, Nat.add_sub_cancel]
      cases j with
      | zero =>
        have : W (c :: r) 0 = 1 := h1
        simp only [List.length_cons]; omega
      | succ j =>
        have e2 : W (c :: r) (j + 1) = W r j := rfl
        rw [e2]
        rw [Nat.add_sub_cancel] at this
        simp only [List.length_cons]; omega
  | two c k r h1 hs h2 ht _ ih =>
    intro j hj
    match j, hj with
    | 0, _ =>
      have : W (c :: k :: r) 0 = 2 := h1
      have : (cellAt (c :: k :: r) 0).s.size ≠ 0 := hs
      simp only [List.length_cons]; omega
    | 1, _ =>
      have : W (c :: k :: r) 1 = 0 := h2
      have : W (c :: k :: r) (1 - 1) = 2 := h1
      have : (cellAt (c :: k :: r) 1).s.size = 0 := ht
      simp only [List.length_cons]; omega
    | j + 2, hj =>
      have e : W (c :: k :: r) (j + 2) = W r j := rfl
      have es : cellAt (c :: k :: r) (j + 2) = cellAt r j := rfl
      have := ih j (by simpa using hj)
      rw [e, es]
      cases j with
      | zero =>
        have : W (c :: k :: r) (0 + 2 - 1) = 0 := h2
        simp only [List.length_cons]; omega
      | succ j =>
        have e2 : W (c :: k :: r) (j + 1 + 2 - 1) = W r j := rfl
        rw [e2]
        rw [Nat.add_sub_cancel] at this
        simp only [List.length_cons]; omega
end T
end Go.Proofs.YtoegjmeoeefllaaGreatDoor
