/- The terminal as the program has it, in plain Lean: cells, rows, and what each function does to them. -/
import Derived.Test.YtoegjmeoeefllaaGreatDoorBase
namespace Go.Proofs.YtoegjmeoeefllaaGreatDoor
open Go Go.RowKit
namespace T

structure Cell where
  s : ByteArray
  wide : Int
  dim : Bool
  deriving DecidableEq

structure Term where
  cols : Nat
  l : List (List Cell)
  gone : List (List Cell)
  off : Int
  row : Nat
  col : Nat
  full : Bool
  dim : Bool
  ins : Int
  seq : ByteArray
  b : List Int

def space : ByteArray := ⟨#[32]⟩
def Blank : Cell := ⟨space, 1, false⟩
def blankRow (cols : Nat) : List Cell := List.replicate cols Blank

def cellAt (r : List Cell) (j : Nat) : Cell := r.getD j Blank
def rowAt (l : List (List Cell)) (k : Nat) : List Cell := l.getD k []

/-- put, on a row. -/
def putRow (r : List Cell) (col : Nat) (c : Cell) : List Cell :=
  let r1 := if (cellAt r col).wide = 0 ∧ (cellAt r (col - 1)).wide = 2 then r.set (col - 1) Blank else r
  let r2 := if (cellAt r1 col).wide = 2 then r1.set (col + 1) Blank else r1
  r2.set col c
def put (t : Term) (row col : Nat) (c : Cell) : Term := { t with l := t.l.set row (putRow (rowAt t.l row) col c) }

/-! ### cells -/
def flatC (c : Cell) : List Value := [.string c.s, .int .i64 c.wide, .bool c.dim]
def flat (r : List Cell) : List Value := r.flatMap flatC
theorem flat_length (r : List Cell) : (flat r).length = r.length * 3 := by
  induction r with
  | nil => rfl
  | cons c r ih => simp only [flat, List.flatMap_cons, List.length_append, List.length_cons] at ih ⊢; rw [ih]; simp [flatC]; omega
theorem flat_cons (c : Cell) (r : List Cell) : flat (c :: r) = flatC c ++ flat r := rfl
theorem flat_append (a b : List Cell) : flat (a ++ b) = flat a ++ flat b := by simp [flat]
theorem flat_take (r : List Cell) (i : Nat) : flat (r.take i) = (flat r).take (i * 3) := by
  induction r generalizing i with
  | nil => simp [flat]
  | cons c r ih =>
    cases i with
    | zero => simp [flat]
    | succ i =>
      rw [List.take_succ_cons, flat_cons, flat_cons, ih, show (i + 1) * 3 = i * 3 + 3 by omega]
      simp [flatC]
theorem flat_drop (r : List Cell) (i : Nat) : flat (r.drop i) = (flat r).drop (i * 3) := by
  induction r generalizing i with
  | nil => simp [flat]
  | cons c r ih =>
    cases i with
    | zero => simp
    | succ i =>
      rw [List.drop_succ_cons, flat_cons, ih, show (i + 1) * 3 = i * 3 + 3 by omega]
      simp [flatC]
theorem flat_at (r : List Cell) (i : Nat) (h : i < r.length) : (flat r)[i * 3]? = some (.string (cellAt r i).s) ∧ (flat r)[i * 3 + 1]? = some (.int .i64 (cellAt r i).wide) ∧ (flat r)[i * 3 + 2]? = some (.bool (cellAt r i).dim) := by
  induction r generalizing i with
  | nil => simp at h
  | cons c r ih =>
    cases i with
    | zero => simp [flat_cons, flatC, cellAt]
    | succ i =>
      have := ih i (by simpa using h)
      rw [flat_cons, show (i + 1) * 3 = i * 3 + 3 by omega]
      simpa [flatC, cellAt] using this
theorem flat_set (r : List Cell) (i : Nat) (c : Cell) (h : i < r.length) : flat (r.set i c) = splice (flat r) (i * 3) (flatC c) := by
  rw [List.set_eq_take_append_cons_drop, if_pos h, flat_append, flat_cons, flat_take, flat_drop, splice]
  have : (flatC c).length = 3 := rfl
  rw [this, show (i + 1) * 3 = i * 3 + 3 by omega, List.append_assoc]
theorem flat_one (r : List Cell) : ∀ u ∈ flat r, u.oneCell' = true := by
  intro u hu
  simp only [flat, List.mem_flatMap, flatC] at hu
  obtain ⟨c, _, hc⟩ := hu
  simp at hc
  rcases hc with rfl | rfl | rfl <;> rfl

/-! ### rows, and the whole, in memory -/

/-- The rows of cells 'rows' are what the slices 'vs' hold, row k in block bs[k]. -/
def RowsIn (w : World) (rows : List (List Cell)) (vs : List Value) (bs : List Nat) (F : Nat → Prop) : Prop :=
  vs.length = rows.length ∧ bs.length = rows.length ∧
  ∀ k, k < rows.length → ∃ u b, vs[k]? = some u ∧ bs[k]? = some b ∧ SlAt w 32 3 u (rowAt rows k).length (flat (rowAt rows k)) b ∧ F b

structure Rep (w : World) (p : Nat) (t : Term) (F : Nat → Prop) (lv gv bv : Value) (vs gs : List Value) (bs gb : List Nat) : Prop where
  blk : Blk w p [.int .i64 t.cols, lv, gv, .int .i64 t.off, .int .i64 t.row, .int .i64 t.col, .bool t.full, .bool t.dim, .int .i64 t.ins, .string t.seq, bv] 57
  l : Sl w 29 1 lv t.l.length vs F
  rows : RowsIn w t.l vs bs F
  nodup : bs.Nodup
  g : Sl w 29 1 gv t.gone.length gs F
  grows : RowsIn w t.gone gs gb F
  apart : ∀ b, b ∈ bs → b ∉ gb
  lg : ∀ b, wbk lv b → ¬ wbk gv b
  b : Sl w 5 1 bv t.b.length (t.b.map (Value.int .u8)) F
  own : F p
  lt : ∀ b, F b → b < w.heap.size

/-- Somewhere in memory there stands the terminal t, all of it in blocks of F. -/
def IsTerm (w : World) (p : Nat) (t : Term) (F : Nat → Prop) : Prop := ∃ lv gv bv vs gs bs gb, Rep w p t F lv gv bv vs gs bs gb

theorem RowsIn.chg {w w' : World} {rows : List (List Cell)} {vs : List Value} {bs : List Nat} {F G : Nat → Prop} (h : RowsIn w rows vs bs F) (hc : Chg G w w') (hn : ∀ b, b ∈ bs → ¬ G b) : RowsIn w' rows vs bs F := by
  refine ⟨h.1, h.2.1, fun k hk => ?_⟩
  obtain ⟨u, b, h1, h2, h3, h4⟩ := h.2.2 k hk
  exact ⟨u, b, h1, h2, h3.chg hc (hn b (List.mem_of_getElem? h2)), h4⟩
theorem RowsIn.mono {w : World} {rows : List (List Cell)} {vs : List Value} {bs : List Nat} {F G : Nat → Prop} (h : RowsIn w rows vs bs F) (hG : ∀ b, b < w.heap.size → F b → G b) : RowsIn w rows vs bs G := by
  refine ⟨h.1, h.2.1, fun k hk => ?_⟩
  obtain ⟨u, b, h1, h2, h3, h4⟩ := h.2.2 k hk
  exact ⟨u, b, h1, h2, h3, hG b h3.lt h4⟩
theorem RowsIn.F {w : World} {rows : List (List Cell)} {vs : List Value} {bs : List Nat} {F : Nat → Prop} (h : RowsIn w rows vs bs F) {b : Nat} (hb : b ∈ bs) : F b := by
  obtain ⟨k, hk, rfl⟩ := List.getElem_of_mem hb
  obtain ⟨u, b, h1, h2, h3, h4⟩ := h.2.2 k (by rw [← h.2.1]; exact hk)
  rw [List.getElem?_eq_getElem hk] at h2
  injection h2 with h2
  rw [h2]; exact h4
theorem RowsIn.blk {w : World} {rows : List (List Cell)} {vs : List Value} {bs : List Nat} {F : Nat → Prop} (h : RowsIn w rows vs bs F) {b : Nat} (hb : b ∈ bs) : ∃ l, Blk w b l 32 := by
  obtain ⟨k, hk, rfl⟩ := List.getElem_of_mem hb
  obtain ⟨u, b, h1, h2, h3, h4⟩ := h.2.2 k (by rw [← h.2.1]; exact hk)
  rw [List.getElem?_eq_getElem hk] at h2
  injection h2 with h2
  obtain ⟨_, _, l, _, hb, _⟩ := h3
  rw [h2]; exact ⟨l, hb⟩
/-- A row that is another one. -/
theorem RowsIn.set {w w' : World} {rows : List (List Cell)} {vs : List Value} {bs : List Nat} {F G : Nat → Prop} (h : RowsIn w rows vs bs F) (hnd : bs.Nodup) (hc : Chg G w w') {k : Nat} (hk : k < rows.length) {b : Nat} (hb : bs[k]? = some b)
    (hG : ∀ x, x ∈ bs → G x → x = b) {u : Value} (hu : vs[k]? = some u) {r : List Cell} (hr : SlAt w' 32 3 u r.length (flat r) b) : RowsIn w' (rows.set k r) vs bs F := by
  refine ⟨by simpa using h.1, by simpa using h.2.1, fun j hj => ?_⟩
  rw [List.length_set] at hj
  obtain ⟨u', b', h1, h2, h3, h4⟩ := h.2.2 j hj
  by_cases e : j = k
  · subst e
    rw [hb] at h2; injection h2 with h2; subst h2
    rw [hu] at h1; injection h1 with h1; subst h1
    refine ⟨u, b, hu, hb, ?_, h4⟩
    simpa [rowAt, List.getD, hk] using hr
  · have hne : b' ≠ b := by
      intro e2; subst e2
      obtain ⟨hj1, hj2⟩ := List.getElem?_eq_some_iff.1 h2
      obtain ⟨hk1, hk2⟩ := List.getElem?_eq_some_iff.1 hb
      exact e ((List.getElem_inj hnd).1 (hj2.trans hk2.symm))
    have e3 : rowAt (rows.set k r) j = rowAt rows j := by simp [rowAt, List.getD, Ne.symm e]
    rw [e3]
    exact ⟨u', b', h1, h2, h3.chg hc (fun hg => hne (hG b' (List.mem_of_getElem? h2) hg)), h4⟩

theorem Sl.wbF {w : World} {E sz n : Nat} {v : Value} {cs : List Value} {F : Nat → Prop} (h : Sl w E sz v n cs F) {b : Nat} (hb : wbk v b) : F b ∧ ∃ l, Blk w b l E := by
  obtain ⟨A, n', c, rfl, hc, rfl⟩ := hb
  rcases h.2 with ⟨A', hv, _⟩ | ⟨b, hb, o, cap, l, hv, hl, _⟩
  · injection hv with _ _ e; omega
  · injection hv with e1 _ _; injection e1 with e1; subst e1; exact ⟨hb, l, hl⟩

section
variable {w w' : World} {p : Nat} {t t' : Term} {F G : Nat → Prop} {lv gv bv : Value} {vs gs : List Value} {bs gb : List Nat}

/-- What changed elsewhere. -/
theorem Rep.chg (h : Rep w p t F lv gv bv vs gs bs gb) (hc : Chg G w w') (hd : ∀ b, F b → ¬ G b) : Rep w' p t F lv gv bv vs gs bs gb :=
  { h with
    blk := h.blk.chg hc (hd p h.own)
    l := h.l.chg hc hd
    rows := h.rows.chg hc (fun b hb => hd b (h.rows.F hb))
    g := h.g.chg hc hd
    grows := h.grows.chg hc (fun b hb => hd b (h.grows.F hb))
    b := h.b.chg hc hd
    lt := fun b hb => Nat.lt_of_lt_of_le (h.lt b hb) hc.size }
theorem Rep.mono (h : Rep w p t F lv gv bv vs gs bs gb) (hG : ∀ b, b < w.heap.size → F b → G b) (hl : ∀ b, G b → b < w.heap.size) : Rep w p t G lv gv bv vs gs bs gb :=
  { h with
    l := h.l.mono hG
    rows := h.rows.mono hG
    g := h.g.mono hG
    grows := h.grows.mono hG
    b := h.b.mono hG
    own := hG p h.blk.lt h.own
    lt := hl }
/-- The head's own cells are others; what lies behind it is as it was. -/
theorem Rep.head (h : Rep w p t F lv gv bv vs gs bs gb) (hc : Chg (fun x => x = p) w w')
    (hb : Blk w' p [.int .i64 t'.cols, lv, gv, .int .i64 t'.off, .int .i64 t'.row, .int .i64 t'.col, .bool t'.full, .bool t'.dim, .int .i64 t'.ins, .string t'.seq, bv] 57)
    (hl : t'.l = t.l) (hg : t'.gone = t.gone) (hbb : t'.b = t.b) : Rep w' p t' F lv gv bv vs gs bs gb := by
  have hrow : ∀ b, b ∈ bs → ¬ b = p := fun b hb e => by obtain ⟨l, hl⟩ := h.rows.blk hb; subst e; exact hl.ne h.blk (by decide) rfl
  have hgrow : ∀ b, b ∈ gb → ¬ b = p := fun b hb e => by obtain ⟨l, hl⟩ := h.grows.blk hb; subst e; exact hl.ne h.blk (by decide) rfl
  exact
  { h with
    blk := hb
    l := by rw [hl]; exact h.l.chgT hc (fun k l _ hk e => hk.ne h.blk (by decide) e)
    rows := by rw [hl]; exact h.rows.chg hc hrow
    g := by rw [hg]; exact h.g.chgT hc (fun k l _ hk e => hk.ne h.blk (by decide) e)
    grows := by rw [hg]; exact h.grows.chg hc hgrow
    b := by rw [hbb]; exact h.b.chgT hc (fun k l _ hk e => hk.ne h.blk (by decide) e)
    lt := fun b hb => Nat.lt_of_lt_of_le (h.lt b hb) hc.size }
/-- One row is another one. -/
theorem Rep.setRow (h : Rep w p t F lv gv bv vs gs bs gb) {k : Nat} (hk : k < t.l.length) {b : Nat} (hb : bs[k]? = some b) {u : Value} (hu : vs[k]? = some u) (hc : Chg (fun x => x = b) w w') {r : List Cell}
    (hr : SlAt w' 32 3 u r.length (flat r) b) : Rep w' p { t with l := t.l.set k r } F lv gv bv vs gs bs gb := by
  have hbm : b ∈ bs := List.mem_of_getElem? hb
  obtain ⟨l0, hl0⟩ := h.rows.blk hbm
  exact
  { h with
    blk := h.blk.chg hc (fun e => h.blk.ne hl0 (by decide) e)
    l := by simpa using h.l.chgT hc (fun k l _ hk e => hk.ne hl0 (by decide) e)
    rows := h.rows.set h.nodup hc hk hb (fun x _ hx => hx) hu hr
    g := h.g.chgT hc (fun k l _ hk e => hk.ne hl0 (by decide) e)
    grows := h.grows.chg hc (fun x hx e => h.apart b hbm (e ▸ hx))
    b := h.b.chgT hc (fun k l _ hk e => hk.ne hl0 (by decide) e)
    lt := fun b hb => Nat.lt_of_lt_of_le (h.lt b hb) hc.size }
/-- The head's cells, for a walk. -/
theorem Rep.cells (h : Rep w p t F lv gv bv vs gs bs gb) : w.cell? ⟨p, 0, none⟩ = some (.int .i64 t.cols) ∧ w.cell? ⟨p, 1, none⟩ = some lv ∧ w.cell? ⟨p, 2, none⟩ = some gv ∧ w.cell? ⟨p, 3, none⟩ = some (.int .i64 t.off) ∧
    w.cell? ⟨p, 4, none⟩ = some (.int .i64 t.row) ∧ w.cell? ⟨p, 5, none⟩ = some (.int .i64 t.col) ∧ w.cell? ⟨p, 6, none⟩ = some (.bool t.full) ∧ w.cell? ⟨p, 7, none⟩ = some (.bool t.dim) ∧
    w.cell? ⟨p, 8, none⟩ = some (.int .i64 t.ins) ∧ w.cell? ⟨p, 9, none⟩ = some (.string t.seq) ∧ w.cell? ⟨p, 10, none⟩ = some bv := by
  simp only [h.blk.cell]; simp
theorem Rep.frozen (h : Rep w p t F lv gv bv vs gs bs gb) : ∀ o, w.frozen? ⟨p, o, none⟩ = false := fun o => h.blk.frozen o
theorem Rep.row (h : Rep w p t F lv gv bv vs gs bs gb) {k : Nat} (hk : k < t.l.length) : ∃ lb lo cap rb ro rc, lv = .slice (some ⟨lb, lo, none⟩) t.l.length cap ∧ t.l.length ≤ cap ∧ cap ≤ maxLen ∧
    w.cell? ⟨lb, lo + k, none⟩ = some (.slice (some ⟨rb, ro, none⟩) (rowAt t.l k).length rc) ∧ vs[k]? = some (.slice (some ⟨rb, ro, none⟩) (rowAt t.l k).length rc) ∧ bs[k]? = some rb ∧ (rowAt t.l k).length ≤ rc ∧ rc ≤ maxLen ∧
    SlAt w 32 3 (.slice (some ⟨rb, ro, none⟩) (rowAt t.l k).length rc) (rowAt t.l k).length (flat (rowAt t.l k)) rb := by
  obtain ⟨lb, hF, hat⟩ := h.l.pos (by omega)
  obtain ⟨lo, cap, rfl, h1, h2, h3⟩ := hat.cells
  obtain ⟨u, b, e1, e2, e3, e4⟩ := h.rows.2.2 k hk
  obtain ⟨ro, rc, rfl, g1, g2, _⟩ := e3.cells
  exact ⟨lb, lo, cap, b, ro, rc, rfl, h1, h2, by rw [h3 k (by omega), e1], e1, e2, g1, g2, e3⟩
end

end T
end Go.Proofs.YtoegjmeoeefllaaGreatDoor
