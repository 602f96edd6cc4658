/- Walks: a sign is printed. -/
import Derived.Test.YtoegjmeoeefllaaGreatDoorTermQ
import Derived.Deep.Cut
namespace Go.Proofs.YtoegjmeoeefllaaGreatDoor
open Go Go.RowKit
namespace T
attribute [local go_sem high] run_max_2 run_min_2
attribute [local go_sem ↓] Go.wp_at_zero Go.wp_at_succ

theorem run_convert_rune {P : Program} (w : World) (src dst : TypeId) (r : Int) (hs : P.underlying src = some (.int .i32)) (hd : P.underlying dst = some .string) :
    (convert src dst (.int .i32 r)).run P w = .ok (.string (Utf8.encode r)) w := by
  simp [convert, run_underlying hs, run_underlying hd, Conv.intToString]
theorem encode_size (r : Int) : (Utf8.encode r).size ≠ 0 ∧ (Utf8.encode r).size ≤ 4 := by
  unfold Utf8.encode
  dsimp only
  generalize (if Utf8.valid r then r.toNat else Utf8.runeError) = c
  repeat' split
  all_goals exact ⟨by simp [ByteArray.size], by simp [ByteArray.size]⟩

/-! ### joins -/
theorem Units.joinAt {r : List Cell} (h : Units r) {c : Nat} (hc : c < r.length) : ((cellAt r c).wide = 0 → 0 < c) ∧ joinAt r c < r.length ∧ ∃ a x b, r = a ++ x :: b ∧ joinAt r c = a.length ∧ ∀ y : Cell, y.wide = x.wide → y.s.size ≠ 0 → Units (a ++ y :: b) := by
  obtain ⟨a, b, ha, hb, ⟨x, e1, e2, rfl, rfl⟩ | ⟨x, k, e1, e2, e3, e4, rfl, rfl | rfl⟩⟩ := h.at c hc
  · have hx : (cellAt (a ++ x :: b) a.length).wide = 1 := by rw [cellAt_mid, e1]
    have hj : T.joinAt (a ++ x :: b) a.length = a.length := by rw [T.joinAt, if_neg (by rw [hx]; decide)]
    exact ⟨fun h0 => absurd (hx.symm.trans h0) (by decide), by rw [hj]; exact hc, a, x, b, rfl, hj, fun y hy hs => ha.append (.one y b (hy.trans e1) hs hb)⟩
  · have hx : (cellAt (a ++ x :: k :: b) a.length).wide = 2 := by rw [cellAt_mid, e1]
    have hj : T.joinAt (a ++ x :: k :: b) a.length = a.length := by rw [T.joinAt, if_neg (by rw [hx]; decide)]
    exact ⟨fun h0 => absurd (hx.symm.trans h0) (by decide), by rw [hj]; exact hc, a, x, k :: b, rfl, hj, fun y hy hs => ha.append (.two y k b (hy.trans e1) hs e3 e4 hb)⟩
  · have hx : (cellAt (a ++ x :: k :: b) (a.length + 1)).wide = 0 := by rw [cellAt_append a (x :: k :: b) 1]; exact e3
    have hj : T.joinAt (a ++ x :: k :: b) (a.length + 1) = a.length := by rw [T.joinAt, if_pos hx]; rfl
    exact ⟨fun _ => Nat.succ_pos _, by rw [hj]; omega, a, x, k :: b, rfl, hj, fun y hy hs => ha.append (.two y k b (hy.trans e1) hs e3 e4 hb)⟩
theorem size_append (a b : ByteArray) : (a ++ b).size = a.size + b.size := by simp [ByteArray.size_append]
theorem RowOk.addS {cols n : Nat} {r : List Cell} (h : RowOk cols n r) {c : Nat} (hc : c < cols) {s : ByteArray} (hs : s.size ≠ 0) (hs4 : s.size ≤ 4) : RowOk cols (n + 4) (addS r (joinAt r c) s) := by
  obtain ⟨_, _, a, x, b, hr, hj, hu⟩ := h.1.joinAt (c := c) (by rw [h.2.1]; exact hc)
  have e : T.addS r (joinAt r c) s = a ++ { x with s := x.s ++ s } :: b := by
    rw [T.addS, hj, hr, cellAt_mid, set_mid]
  refine ⟨by rw [e]; exact hu _ rfl (by rw [size_append]; omega), by rw [T.addS, List.length_set, h.2.1], fun y hy => ?_⟩
  rw [e, List.mem_append, List.mem_cons] at hy
  rcases hy with hy | rfl | hy
  · have := h.2.2 y (by rw [hr]; exact List.mem_append_left _ hy); omega
  · have := h.2.2 x (by rw [hr]; simp); rw [size_append]; omega
  · have := h.2.2 y (by rw [hr]; simp [hy]); omega
theorem Ok.join {o n : Nat} {t : Term} (h : Ok o n t) {s : ByteArray} (hs : s.size ≠ 0) (hs4 : s.size ≤ 4) : Ok o (n + 4) (join t s) := by
  have h' := h.mono (Nat.le_refl o) (Nat.le_add_right n 4)
  have hc := h.col
  unfold T.join
  split
  · exact h'.setRow _ ((h.rowOk h.row).addS h.col hs hs4)
  · split
    · exact h'.setRow _ ((h.rowOk h.row).addS (by omega) hs hs4)
    · exact h'

/-! ### a sign -/
def wrapped (t : Term) : Term := if t.full then { down t with col := 0 } else t
def sgn (t : Term) (r w : Int) : Int × Int := if w = 2 ∧ t.cols = 1 then (65533, 1) else (r, w)
def room (t : Term) (w : Int) : Term := if (t.cols : Int) < t.col + w then { down (put t t.row t.col Blank) with col := 0 } else t
def signC (t : Term) (r w : Int) : Cell := ⟨Utf8.encode r, w, t.dim⟩
def half (t : Term) : Cell := ⟨ByteArray.empty, 0, t.dim⟩
def printed (t : Term) (r w : Int) : Term :=
  if w = 2 then put (put t t.row t.col (signC t r w)) t.row (t.col + 1) (half t) else put t t.row t.col (signC t r w)
def moved (t : Term) (w : Int) : Term := if (t.cols : Int) ≤ t.col + w then { t with col := t.cols - 1, full := true } else { t with col := t.col + w.toNat }
def signR (t : Term) (r : Int) : Term :=
  if Wd.isControl r then t else if Wd.ofR r = 0 then join t (Utf8.encode r)
  else moved (printed (room (wrapped t) (sgn (wrapped t) r (Wd.ofR r)).2) (sgn (wrapped t) r (Wd.ofR r)).1 (sgn (wrapped t) r (Wd.ofR r)).2) (sgn (wrapped t) r (Wd.ofR r)).2

theorem Ok.wrapped {o n : Nat} {t : Term} (h : Ok o n t) : Ok (o + 1) n (wrapped t) := by
  unfold T.wrapped
  split
  · exact h.down.zeroCol
  · exact h.mono (Nat.le_succ o) (Nat.le_refl n)
theorem Ok.putBlank {o n : Nat} {t : Term} (h : Ok o n t) : Ok o n (put t t.row t.col Blank) := h.setRow _ ((h.rowOk h.row).put_one h.col rfl (by decide) (by decide))
theorem Ok.room {o n : Nat} {t : Term} (h : Ok o n t) (w : Int) : Ok (o + 1) n (room t w) := by
  unfold T.room
  split
  · exact h.putBlank.down.zeroCol
  · exact h.mono (Nat.le_succ o) (Nat.le_refl n)
theorem Ok.put1 {o n : Nat} {t : Term} (h : Ok o n t) (r : Int) : Ok o n (put t t.row t.col (signC t r 1)) := h.setRow _ ((h.rowOk h.row).put_one h.col rfl (encode_size r).1 (encode_size r).2)
theorem put_put (t : Term) (k i j : Nat) (c d : Cell) (hk : k < t.l.length) : put (put t k i c) k j d = setRow t k (putRow (putRow (rowAt t.l k) i c) j d) := by
  have e := put_setRow t k j (putRow (rowAt t.l k) i c) d hk
  rw [← e]; rfl
theorem Ok.put2 {o n : Nat} {t : Term} (h : Ok o n t) (r : Int) (hc : t.col + 1 < t.cols) : Ok o n (put (put t t.row t.col (signC t r 2)) t.row (t.col + 1) (half t)) := by
  rw [put_put _ _ _ _ _ _ h.row]
  exact h.setRow _ ((h.rowOk h.row).put_two hc rfl (encode_size r).1 (encode_size r).2 rfl rfl)
theorem Ok.moved {o n : Nat} {t : Term} (h : Ok o n t) (w : Int) : Ok o n (moved t w) := by
  have hc := h.c0
  unfold T.moved
  split
  · exact { h with col := by show t.cols - 1 < t.cols; omega }
  · exact { h with col := by show t.col + w.toNat < t.cols; have := h.col; omega }
theorem ofR_cases (r : Int) : Wd.ofR r = 0 ∨ Wd.ofR r = 1 ∨ Wd.ofR r = 2 := by
  unfold Wd.ofR
  repeat' split
  all_goals simp
/-- What a sign is when it comes to be put: its width, and the room that it has. -/
theorem sgn_room {o n : Nat} {t : Term} (h : Ok o n t) {r w : Int} (hw : w = 1 ∨ w = 2) : ((sgn t r w).2 = 1 ∨ ((sgn t r w).2 = 2 ∧ (room t (sgn t r w).2).col + 1 < (room t (sgn t r w).2).cols)) := by
  have hc := h.col
  have h0 := h.c0
  have hd : ∀ t : Term, (T.down t).cols = t.cols := fun t => by unfold T.down; split <;> rfl
  unfold sgn
  split
  · exact .inl rfl
  · rename_i hn
    rcases hw with rfl | rfl
    · exact .inl rfl
    · refine .inr ⟨rfl, ?_⟩
      have h2 : t.cols ≠ 1 := fun e => hn ⟨rfl, e⟩
      unfold T.room
      split
      · show 0 + 1 < (T.down _).cols
        rw [hd]
        show 0 + 1 < t.cols
        omega
      · show t.col + 1 < t.cols
        simp only at *
        omega
theorem Ok.printed {o n : Nat} {t : Term} (h : Ok o n t) (r : Int) {w : Int} (hw : w = 1 ∨ (w = 2 ∧ t.col + 1 < t.cols)) : Ok o n (printed t r w) := by
  unfold T.printed
  rcases hw with rfl | ⟨rfl, hc⟩
  · rw [if_neg (by decide)]; exact h.put1 r
  · rw [if_pos rfl]; exact h.put2 r hc
theorem Ok.sign {o n : Nat} {t : Term} (h : Ok o n t) (r : Int) : Ok (o + 2) (n + 4) (signR t r) := by
  unfold signR
  split
  · exact h.mono (by omega) (by omega)
  · split
    · exact (h.join (encode_size r).1 (encode_size r).2).mono (by omega) (Nat.le_refl _)
    · have hw : Wd.ofR r = 1 ∨ Wd.ofR r = 2 := by rcases ofR_cases r with h | h | h; contradiction; exact .inl h; exact .inr h
      exact (((h.wrapped.room _).printed _ (sgn_room h.wrapped hw)).moved _).mono (by omega) (by omega)
end T
end Go.Proofs.YtoegjmeoeefllaaGreatDoor
