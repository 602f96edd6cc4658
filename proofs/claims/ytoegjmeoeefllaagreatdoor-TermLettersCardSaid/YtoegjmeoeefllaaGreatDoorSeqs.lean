/- What some sequences do. Plain Lean. -/
import Derived.Test.YtoegjmeoeefllaaGreatDoorLSizes
namespace Go.Proofs.YtoegjmeoeefllaaGreatDoor
open Go Go.RowKit
namespace T

theorem byte_esc {u : Term} (h0 : u.ins = 0) (hb : u.b = []) : byteR u 27 = { u with ins := 1 } := by
  obtain ⟨c, l, g, o, row, col, f, d, i, s, b⟩ := u
  simp only at h0 hb
  subst h0; subst hb
  unfold byteR
  rw [if_neg (fun h => absurd h.2 (by decide)), if_pos (.inl rfl)]
  unfold plainR
  rw [if_pos rfl]
  rfl
theorem byte_open {u : Term} (h : u.ins = 1) : byteR u 91 = { u with ins := 2, seq := ByteArray.empty } := by
  unfold byteR
  rw [if_neg (fun h => absurd h.2 (by decide)), if_neg (fun h2 => h2.elim (fun e => by rw [h] at e; exact absurd e (by decide)) (by decide)), if_pos ⟨h, rfl⟩]
theorem byte_par {u : Term} (h : u.ins = 2) {x : Nat} (h1 : 32 ≤ x) (h2 : x < 64) : byteR u x = { u with seq := seqC u.seq x } := by
  unfold byteR
  rw [if_neg (fun h => by omega), if_neg (fun h3 => h3.elim (fun e => by rw [h] at e; exact absurd e (by decide)) (by omega)), if_neg (fun h => by omega), if_pos ⟨h, h1, h2⟩]
theorem byte_end {u : Term} (h : u.ins = 2) {x : Nat} (h1 : 64 ≤ x) (h2 : x ≤ 126) : byteR u x = endsR { u with ins := 0 } u.seq x := by
  unfold byteR
  rw [if_neg (fun h => by omega), if_neg (fun h3 => h3.elim (fun e => by rw [h] at e; exact absurd e (by decide)) (by omega)), if_neg (fun h3 => by rw [h] at h3; exact absurd h3.1 (by decide)), if_neg (fun h => by omega), if_pos ⟨h, h1, h2⟩]

/-- It waits for nothing. -/
def Still (u : Term) : Prop := u.ins = 0 ∧ u.b = []
def clean (u : Term) (s : ByteArray) : Term := { u with ins := 0, seq := s }
theorem seq_ends {u : Term} (h : Still u) {x : Nat} (h1 : 64 ≤ x) (h2 : x ≤ 126) : feedR u [27, 91, (x : Int)] = endsR (clean u ByteArray.empty) ByteArray.empty x := by
  show byteR (byteR (byteR u 27) 91) x = _
  rw [byte_esc h.1 h.2, byte_open rfl, byte_end rfl h1 h2]
  rfl
theorem num_empty : numR ByteArray.empty = (0, true) := by kernel_rfl
theorem ends_empty (t : Term) {x : Nat} (h : x ≠ 72) : endsR t ByteArray.empty x = acts t 0 x := by
  unfold endsR
  rw [if_neg h, num_empty, if_neg (by decide)]
theorem feed_B {u : Term} (h : Still u) : feedR u [27, 91, 66] = moveTo (clean u ByteArray.empty) (u.row + 1) u.col := by
  have e := seq_ends h (x := 66) (by decide) (by decide)
  rw [ends_empty _ (by decide)] at e
  exact e
theorem feed_J {u : Term} (h : Still u) : feedR u [27, 91, 74] = eraseAll (clean u ByteArray.empty) := by
  have e := seq_ends h (x := 74) (by decide) (by decide)
  rw [ends_empty _ (by decide)] at e
  exact e
theorem feed_K {u : Term} (h : Still u) : feedR u [27, 91, 75] = erase (clean u ByteArray.empty) u.row u.col := by
  have e := seq_ends h (x := 75) (by decide) (by decide)
  rw [ends_empty _ (by decide)] at e
  exact e
theorem cut_empty : cutAt ByteArray.empty = (ByteArray.empty, ByteArray.empty, false) := by kernel_rfl
theorem feed_H {u : Term} (h : Still u) : feedR u [27, 91, 72] = moveTo (clean u ByteArray.empty) 0 0 := by
  have e := seq_ends h (x := 72) (by decide) (by decide)
  have e2 : home (clean u ByteArray.empty) ByteArray.empty = moveTo (clean u ByteArray.empty) 0 0 := by
    unfold home
    rw [cut_empty, if_neg (fun h => h.1 rfl), num_empty]
    rfl
  rw [← e2]
  exact e
theorem Still.move {u : Term} (h : Still u) (s : ByteArray) (r c : Int) : Still (moveTo (clean u s) r c) := ⟨rfl, h.2⟩
theorem still_calm (t : Term) : Still (feedR t [24, 13]) := ⟨(calm t).1, (calm t).2.1⟩

/-! ### what erasing leaves -/
theorem cellAt_set (r : List Cell) (i j : Nat) (c : Cell) (hj : j < r.length) : cellAt (r.set i c) j = if j = i then c else cellAt r j := by
  by_cases e : j = i
  · subst e; rw [if_pos rfl]; simp [cellAt, hj]
  · rw [if_neg e, cellAt_set_ne r i j c e]
theorem keep_blank {r : List Cell} {j : Nat} (hj : j < r.length) (h : cellAt r j = Blank) (i : Nat) : cellAt (r.set i Blank) j = Blank := by
  rw [cellAt_set r i j Blank hj]
  split
  · rfl
  · exact h
theorem putRow_blank {r : List Cell} {col j : Nat} (hj : j < r.length) (h : j = col ∨ cellAt r j = Blank) : cellAt (putRow r col Blank) j = Blank := by
  unfold putRow
  simp only
  by_cases e : j = col
  · rw [cellAt_set _ _ _ _ (by (repeat' split) <;> simpa using hj), if_pos e]
  · have hb := h.resolve_left e
    refine keep_blank (by (repeat' split) <;> simpa using hj) ?_ col
    repeat' split
    all_goals first | exact hb | exact keep_blank hj hb _ | exact keep_blank (by simpa using hj) (keep_blank hj hb _) _
theorem eraseTo_length (r : List Cell) (col : Nat) : ∀ k, (eraseTo r col k).length = r.length
  | 0 => rfl
  | k + 1 => by rw [eraseTo, putRow_length, eraseTo_length r col k]
theorem eraseTo_blank (r : List Cell) : ∀ k, k ≤ r.length → ∀ j, j < k → cellAt (eraseTo r 0 k) j = Blank
  | 0, _, j, hj => absurd hj (Nat.not_lt_zero _)
  | k + 1, hk, j, hj => by
    rw [eraseTo]
    refine putRow_blank (by rw [eraseTo_length]; omega) ?_
    by_cases e : j = 0 + k
    · exact .inl e
    · exact .inr (eraseTo_blank r k (by omega) j (by omega))
theorem row_ext {a b : List Cell} (hl : a.length = b.length) (h : ∀ j, j < a.length → cellAt a j = cellAt b j) : a = b := by
  apply List.ext_getElem hl
  intro j h1 h2
  have := h j h1
  simpa [cellAt, h1, h2] using this
theorem cellAt_blankRow (n j : Nat) : cellAt (blankRow n) j = Blank := by
  unfold cellAt blankRow
  rw [List.getD_eq_getElem?_getD, List.getElem?_replicate]
  split <;> rfl
theorem eraseTo_all (r : List Cell) : eraseTo r 0 r.length = blankRow r.length :=
  row_ext (by rw [eraseTo_length]; simp [blankRow]) (fun j hj => by rw [eraseTo_length] at hj; rw [eraseTo_blank r _ (Nat.le_refl _) j hj, cellAt_blankRow])
theorem erase_row {o n : Nat} {t : Term} (h : Ok o n t) {k : Nat} (hk : k < t.l.length) (j : Nat) : rowAt (erase t k 0).l j = if j = k then blankRow t.cols else rowAt t.l j := by
  have e : eraseTo (rowAt t.l k) 0 (t.cols - 0) = blankRow t.cols := by
    have hl := h.rowLen hk
    rw [Nat.sub_zero, ← hl]
    exact eraseTo_all _
  show rowAt (t.l.set k _) j = _
  rw [rowAt_set _ _ _ _ hk, e]
theorem eraseFrom_row {o n : Nat} {t : Term} (h : Ok o n t) (k : Nat) : ∀ m, k + m ≤ t.l.length → ∀ j, rowAt (eraseFrom t k m).l j = if k ≤ j ∧ j < k + m then blankRow t.cols else rowAt t.l j
  | 0, _, j => by rw [if_neg (by omega)]; rfl
  | m + 1, hm, j => by
    have hcols : (eraseFrom t k m).cols = t.cols := by
      have : ∀ (m k : Nat) (t : Term), (eraseFrom t k m).cols = t.cols := by
        intro m
        induction m with
        | zero => intro k t; rfl
        | succ m ih => intro k t; exact ih (k + 1) (erase t k 0)
      exact this m k t
    rw [eraseFrom_succ, erase_row (h.eraseFrom k m (by omega)) (by rw [eraseFrom_len]; omega), eraseFrom_row h k m (by omega), hcols]
    by_cases e : j = k + m
    · rw [if_pos e, if_pos (by omega)]
    · rw [if_neg e]
      by_cases e2 : k ≤ j ∧ j < k + m
      · rw [if_pos e2, if_pos (by omega)]
      · rw [if_neg e2, if_neg (by omega)]
theorem eraseAll_row {o n : Nat} {t : Term} (h : Ok o n t) (hc : t.col = 0) (j : Nat) (hj : j < t.l.length) : rowAt (eraseAll t).l j = if t.row ≤ j then blankRow t.cols else rowAt t.l j := by
  have hr := h.row
  unfold eraseAll
  rw [hc, eraseFrom_row (h.erase hr (Nat.zero_le _)) (t.row + 1) _ (by rw [erase_len]; omega), erase_row h hr]
  show (if _ then blankRow t.cols else _) = _
  by_cases e : t.row ≤ j
  · rw [if_pos e]
    by_cases e2 : j = t.row
    · rw [if_neg (by omega), if_pos e2]
    · rw [if_pos (by omega)]
  · rw [if_neg e, if_neg (by omega), if_neg (by omega)]

/-! ### a move, with its number -/
theorem isDigit_of {n : Nat} (h : n < 10) : isDigit (UInt8.ofNat (48 + n)) = true ∧ (UInt8.ofNat (48 + n)).toNat = 48 + n := by
  have e : (UInt8.ofNat (48 + n)).toNat = 48 + n := by simp; omega
  refine ⟨?_, e⟩
  unfold isDigit
  rw [e]
  exact decide_eq_true (by omega)
theorem num_three {a b c : Nat} (ha : a < 10) (hb : b < 10) (hc : c < 10) : numR ⟨#[UInt8.ofNat (48 + a), UInt8.ofNat (48 + b), UInt8.ofNat (48 + c)]⟩ = (((100 * a + 10 * b + c : Nat) : Int), true) := by
  obtain ⟨a1, a2⟩ := isDigit_of ha
  obtain ⟨b1, b2⟩ := isDigit_of hb
  obtain ⟨c1, c2⟩ := isDigit_of hc
  rw [numR_eq, if_pos ⟨fun x hx => by
    have hx : x ∈ [UInt8.ofNat (48 + a), UInt8.ofNat (48 + b), UInt8.ofNat (48 + c)] := hx
    rcases List.mem_cons.1 hx with rfl | hx
    · exact a1
    · rcases List.mem_cons.1 hx with rfl | hx
      · exact b1
      · rcases List.mem_cons.1 hx with rfl | hx
        · exact c1
        · exact absurd hx (by simp), by show 3 ≤ 3; exact Nat.le_refl _⟩]
  refine congrArg (fun v => (v, true)) ?_
  show ((((0 * 10 + ((UInt8.ofNat (48 + a)).toNat - 48)) * 10 + ((UInt8.ofNat (48 + b)).toNat - 48)) * 10 + ((UInt8.ofNat (48 + c)).toNat - 48) : Nat) : Int) = _
  rw [a2, b2, c2]
  omega
theorem seq_three {a b c : Nat} : seqC (seqC (seqC ByteArray.empty (48 + a)) (48 + b)) (48 + c) = ⟨#[UInt8.ofNat (48 + a), UInt8.ofNat (48 + b), UInt8.ofNat (48 + c)]⟩ := by
  have e1 : seqC ByteArray.empty (48 + a) = ⟨#[UInt8.ofNat (48 + a)]⟩ := by unfold seqC; rw [if_pos (by decide)]; rfl
  have e2 : seqC ⟨#[UInt8.ofNat (48 + a)]⟩ (48 + b) = ⟨#[UInt8.ofNat (48 + a), UInt8.ofNat (48 + b)]⟩ := by unfold seqC; rw [if_pos (by show 1 < 16; decide)]; rfl
  have e3 : seqC ⟨#[UInt8.ofNat (48 + a), UInt8.ofNat (48 + b)]⟩ (48 + c) = ⟨#[UInt8.ofNat (48 + a), UInt8.ofNat (48 + b), UInt8.ofNat (48 + c)]⟩ := by unfold seqC; rw [if_pos (by show 2 < 16; decide)]; rfl
  rw [e1, e2, e3]
theorem feed_move {u : Term} (h : Still u) {n : Nat} (hn : 1 ≤ n ∧ n ≤ 999) (x : Nat) (hx : 65 ≤ x ∧ x ≤ 68) :
    ∃ s, feedR u [27, 91, ((48 + n / 100 : Nat) : Int), ((48 + n / 10 % 10 : Nat) : Int), ((48 + n % 10 : Nat) : Int), (x : Int)] = acts (clean u s) (n : Int) x := by
  refine ⟨⟨#[UInt8.ofNat (48 + n / 100), UInt8.ofNat (48 + n / 10 % 10), UInt8.ofNat (48 + n % 10)]⟩, ?_⟩
  show byteR (byteR (byteR (byteR (byteR (byteR u 27) 91) (48 + n / 100)) (48 + n / 10 % 10)) (48 + n % 10)) x = _
  have e2 : byteR { u with ins := 1 } 91 = { u with ins := 2, seq := ByteArray.empty } := byte_open rfl
  have e3 : ∀ (s : ByteArray) (y : Nat), 32 ≤ y → y < 64 → byteR { u with ins := 2, seq := s } y = { u with ins := 2, seq := seqC s y } := fun s y h1 h2 => byte_par rfl h1 h2
  have e4 : ∀ s : ByteArray, byteR { u with ins := 2, seq := s } x = endsR { u with ins := 0, seq := s } s x := fun s => byte_end rfl (by omega) (by omega)
  rw [byte_esc h.1 h.2, e2, e3 _ (48 + n / 100) (by omega) (by omega), e3 _ (48 + n / 10 % 10) (by omega) (by omega), e3 _ (48 + n % 10) (by omega) (by omega), e4]
  show endsR (clean u (seqC (seqC (seqC ByteArray.empty (48 + n / 100)) (48 + n / 10 % 10)) (48 + n % 10))) (seqC (seqC (seqC ByteArray.empty (48 + n / 100)) (48 + n / 10 % 10)) (48 + n % 10)) x = _
  rw [seq_three]
  unfold endsR
  rw [if_neg (by omega), num_three (by omega) (by omega) (by omega), if_neg (by simp)]
  have e : 100 * (n / 100) + 10 * (n / 10 % 10) + n % 10 = n := by omega
  rw [e]
end T
end Go.Proofs.YtoegjmeoeefllaaGreatDoor
