/- What holds of memory between two worlds, and what slices hold: words and laws that know nothing of the program. -/
import Derived.WalkKit
import Derived.Laws.IdiomCopy
import Derived.Deep.Draws

import Derived.Lib.Hide
namespace Go.Proofs.YtoegjmeoeefllaaGreatDoor
open Go Go.RowKit

/-! ### Worlds: what may have turned -/

/-- From w to w' no block but those in F has turned; blocks may have been laid. -/
structure Chg (F : Nat → Prop) (w w' : World) : Prop where
  os : w'.os = w.os
  tape : w'.tape = w.tape
  output : w'.output = w.output
  size : w.heap.size ≤ w'.heap.size
  block : ∀ k, k < w.heap.size → ¬ F k → w'.heap[k]? = w.heap[k]?

abbrev Non : Nat → Prop := fun _ => False

theorem Chg.refl (F : Nat → Prop) (w : World) : Chg F w w := ⟨rfl, rfl, rfl, Nat.le_refl _, fun _ _ _ => rfl⟩
theorem Chg.mono {F G : Nat → Prop} {w w' : World} (h : Chg F w w') (hg : ∀ k, k < w.heap.size → F k → G k) : Chg G w w' :=
  ⟨h.os, h.tape, h.output, h.size, fun k hk hn => h.block k hk (fun hf => hn (hg k hk hf))⟩
theorem Chg.trans {F G : Nat → Prop} {w w1 w2 : World} (h : Chg F w w1) (k : Chg G w1 w2) (hg : ∀ b, G b → F b ∨ w.heap.size ≤ b) : Chg F w w2 :=
  ⟨k.os.trans h.os, k.tape.trans h.tape, k.output.trans h.output, Nat.le_trans h.size k.size, fun b hb hn =>
    (k.block b (Nat.lt_of_lt_of_le hb h.size) (fun hG => by rcases hg b hG with h' | h'; exact hn h'; omega)).trans (h.block b hb hn)⟩
theorem Chg.then {F : Nat → Prop} {w w1 w2 : World} (h : Chg F w w1) (k : Chg F w1 w2) : Chg F w w2 := h.trans k (fun _ hb => .inl hb)
theorem Chg.thenN {F : Nat → Prop} {w w1 w2 : World} (h : Chg F w w1) (k : Chg Non w1 w2) : Chg F w w2 := h.trans k (fun _ hb => hb.elim)
theorem Chg.of_below {w w' : World} (h : Below w.heap.size w w') (F : Nat → Prop) : Chg F w w' := ⟨h.os, h.tape, h.output, h.size, fun k hk _ => h.block k hk⟩
theorem Chg.below {w w' : World} (h : Chg Non w w') : Below w.heap.size w w' := ⟨h.os, h.tape, h.output, h.size, fun k hk => h.block k hk (fun h => h)⟩
/-- Of what lies below B nothing has turned, if all that may have turned lies above. -/
theorem Chg.belowB {F : Nat → Prop} {w w' : World} (h : Chg F w w') {B : Nat} (hB : B ≤ w.heap.size) (hF : ∀ k, F k → B ≤ k) : Below B w w' :=
  ⟨h.os, h.tape, h.output, h.size, fun k hk => h.block k (by omega) (fun hf => by have := hF k hf; omega)⟩
theorem Chg.alloc {F : Nat → Prop} {w w1 : World} (h : Chg F w w1) (o : Obj) : Chg F w (w1.alloc o) :=
  h.thenN (Chg.of_below ((Below.refl _ _).alloc (Nat.le_refl _) o) Non)
theorem Chg.drew {F : Nat → Prop} {w w1 : World} (h : Chg F w w1) : Chg F w w1.drew := ⟨h.os, h.tape, h.output, h.size, h.block⟩
theorem Chg.drewN {F : Nat → Prop} {w w1 : World} (h : Chg F w w1) (n : Nat) : Chg F w (w1.drewN n) := ⟨h.os, h.tape, h.output, h.size, h.block⟩
theorem Chg.setCell {F : Nat → Prop} {w w1 : World} (h : Chg F w w1) (a : Addr) (u : Value) (hF : F a.block ∨ w.heap.size ≤ a.block) : Chg F w (w1.setCell a u) :=
  ⟨h.os, h.tape, h.output, by simpa using h.size, fun k hk hn => by
    rw [Below.heap_setCell _ _ _ _ (fun e => by subst e; rcases hF with h' | h'; exact hn h'; omega)]
    exact h.block k hk hn⟩
theorem Chg.setCells {F : Nat → Prop} {w : World} (b : Nat) (hF : F b ∨ w.heap.size ≤ b) : ∀ (vs : List Value) (o : Nat) {w1 : World}, Chg F w w1 → Chg F w (w1.setCells b o vs)
  | [], _, _, h => h
  | v :: r, o, _, h => Chg.setCells b hF r (o + 1) (h.setCell ⟨b, o, none⟩ v hF)
/-- Stores into one block alone. -/
theorem Chg.at_ {p : Nat} {w w1 : World} (h : Chg (fun b => b = p) w w1) (i : Nat) (u : Value) : Chg (fun b => b = p) w (w1.setCell ⟨p, i, none⟩ u) := h.setCell ⟨p, i, none⟩ u (.inl rfl)
theorem Chg.at0 (p : Nat) (w : World) : Chg (fun b => b = p) w w := Chg.refl _ _
theorem Chg.cell {F : Nat → Prop} {w w' : World} (h : Chg F w w') {a : Addr} {v : Value} (hc : w.cell? a = some v) (hn : ¬ F a.block) : w'.cell? a = some v :=
  (World.cell?_of_block (h.block a.block (World.block_lt_of_cell? w a hc) hn)).trans hc
/-- Old cells, and old marks, read as they did: two rules for the walk. -/
theorem Chg.rules {w w' : World} (h : Chg Non w w') : (∀ b o, b < w.heap.size → w'.cell? ⟨b, o, none⟩ = w.cell? ⟨b, o, none⟩) ∧ (∀ b o, b < w.heap.size → w'.frozen? ⟨b, o, none⟩ = w.frozen? ⟨b, o, none⟩) :=
  ⟨fun b o hb => World.cell?_of_block (a := ⟨b, o, none⟩) (h.block b hb (fun h => h)), fun b o hb => World.frozen?_of_block (a := ⟨b, o, none⟩) (h.block b hb (fun h => h))⟩
theorem Chg.grown {w w' : World} {row : Option Nat} (hg : w.grownBy w' row) {F : Nat → Prop} (hF : ∀ k, row = some k → F k) : Chg F w w' :=
  ⟨hg.os, hg.tape, hg.output, hg.size, fun k hk hn => hg.block k hk (fun e => hn (hF k e.symm))⟩

/-! ### A block that is known whole -/

def Blk (w : World) (b : Nat) (l : List Value) (E : TypeId) : Prop := w.heap[b]? = some (.cells l.toArray E (0, 0))

section
variable {w : World} {b : Nat} {l : List Value} {E : TypeId}
theorem Blk.lt (h : Blk w b l E) : b < w.heap.size := (Array.getElem?_eq_some_iff.1 h).1
theorem Blk.cell (h : Blk w b l E) (i : Nat) : w.cell? ⟨b, i, none⟩ = l[i]? := by rw [cell_of_row w b i _ E (0, 0) h]; simp
theorem Blk.frozen (h : Blk w b l E) (i : Nat) : w.frozen? ⟨b, i, none⟩ = false := by unfold Blk at h; simp [World.frozen?, h]
theorem Blk.alloc (h : Blk w b l E) (o : Obj) : Blk (w.alloc o) b l E := (Below.heap_alloc w o b h.lt).trans h
theorem Blk.drew (h : Blk w b l E) : Blk w.drew b l E := h
theorem Blk.drewN (h : Blk w b l E) (n : Nat) : Blk (w.drewN n) b l E := h
theorem Blk.new (w : World) (l : List Value) (E : TypeId) : Blk (w.alloc (.cells l.toArray E)) w.heap.size l E := heap_alloc_new w _
theorem Blk.chg {F : Nat → Prop} {w' : World} (h : Blk w b l E) (hc : Chg F w w') (hn : ¬ F b) : Blk w' b l E := (hc.block b h.lt hn).trans h
theorem Blk.set (h : Blk w b l E) (i : Nat) (u : Value) : Blk (w.setCell ⟨b, i, none⟩ u) b (l.set i u) E := by
  have := heap_setCell_same w b i l.toArray E u h
  unfold Blk; rw [this]; simp
theorem Blk.other (h : Blk w b l E) {a : Addr} (hn : b ≠ a.block) (u : Value) : Blk (w.setCell a u) b l E := (Below.heap_setCell w a u b hn).trans h
theorem Blk.ne {b' : Nat} {l' : List Value} {E' : TypeId} (h : Blk w b l E) (h' : Blk w b' l' E') (hE : E ≠ E') : b ≠ b' := by
  rintro rfl; unfold Blk at h h'; rw [h] at h'; injection h' with h'; injection h' with _ h'; exact hE h'
theorem Blk.det {l' : List Value} {E' : TypeId} (h : Blk w b l E) (h' : Blk w b l' E') : l = l' := by
  unfold Blk at h h'; rw [h] at h'; injection h' with h'; injection h' with h' _; simpa using h'
end

/-- Some cells in the place of others. -/
def splice (l : List Value) (o : Nat) (vs : List Value) : List Value := l.take o ++ vs ++ l.drop (o + vs.length)
theorem splice_nil (l : List Value) (o : Nat) : splice l o [] = l := by simp [splice]
theorem length_splice (l : List Value) (o : Nat) (vs : List Value) (h : o + vs.length ≤ l.length) : (splice l o vs).length = l.length := by
  simp [splice]; omega
theorem splice_cons (l : List Value) (o : Nat) (v : Value) (r : List Value) (h : o < l.length) : splice l o (v :: r) = splice (l.set o v) (o + 1) r := by
  apply List.ext_getElem?
  intro i
  simp only [splice, List.getElem?_append, List.length_append, List.length_take, List.getElem?_take, List.getElem?_drop, List.length_cons, List.length_set, List.getElem?_set]
  by_cases h1 : i < o
  · have e1 : i < min o l.length := by omega
    have e2 : i < min (o + 1) l.length := by omega
    simp [h1, e1, e2, show o ≠ i by omega, show i < o + 1 by omega, show i < min o l.length + (r.length + 1) by omega, show i < min (o + 1) l.length + r.length by omega]
  · by_cases h2 : i = o
    · subst h2
      have e1 : ¬ i < min i l.length := by omega
      have e2 : i < min (i + 1) l.length := by omega
      have e3 : i - min i l.length = 0 := by omega
      simp [e1, e2, e3, h, show i < min i l.length + (r.length + 1) by omega, show i < min (i + 1) l.length + r.length by omega]
    · have e1 : ¬ i < min o l.length := by omega
      have e2 : ¬ i < min (o + 1) l.length := by omega
      have e3 : min o l.length = o := by omega
      have e4 : min (o + 1) l.length = o + 1 := by omega
      rw [e3] at e1; rw [e4] at e2
      by_cases h3 : i < o + 1 + r.length
      · rw [if_pos (by rw [e3]; omega), if_neg (by rw [e3]; omega), if_pos (by rw [e4]; omega), if_neg (by rw [e4]; omega), e3, e4]
        rw [show i - o = (i - (o + 1)) + 1 by omega]; simp
      · rw [if_neg (by rw [e3]; omega), if_neg (by rw [e4]; omega), if_neg (by omega), e3, e4]
        congr 1; omega
theorem splice_read (l : List Value) (o : Nat) (vs : List Value) (h : o + vs.length ≤ l.length) : ((splice l o vs).drop o).take vs.length = vs := by
  have : (l.take o).length = o := by simp; omega
  rw [splice, List.append_assoc, List.drop_append_of_le_length (by omega), List.drop_of_length_le (by omega), List.nil_append, List.take_append_of_le_length (by omega), List.take_length]
/-- What stood elsewhere stands. -/
theorem splice_far (l : List Value) (o : Nat) (vs : List Value) (i : Nat) (h : o + vs.length ≤ l.length) (hi : i < o ∨ o + vs.length ≤ i) : (splice l o vs)[i]? = l[i]? := by
  simp only [splice, List.getElem?_append, List.length_append, List.length_take, List.getElem?_take, List.getElem?_drop]
  have e : min o l.length = o := by omega
  rw [e]
  rcases hi with hi | hi
  · rw [if_pos (by omega), if_pos (by omega), if_pos (by omega)]
  · rw [if_neg (by omega)]
    congr 1; omega
theorem Blk.setCells {b : Nat} {E : TypeId} : ∀ (vs : List Value) (o : Nat) {w : World} {l : List Value}, Blk w b l E → o + vs.length ≤ l.length → Blk (w.setCells b o vs) b (splice l o vs) E
  | [], o, w, l, h, _ => by rw [splice_nil]; exact h
  | v :: r, o, w, l, h, hl => by
    simp only [List.length_cons] at hl
    rw [splice_cons l o v r (by omega)]
    exact Blk.setCells r (o + 1) (h.set o v) (by simp; omega)
theorem Blk.setCells_other {b b' : Nat} {E : TypeId} (hn : b ≠ b') : ∀ (vs : List Value) (o : Nat) {w : World} {l : List Value}, Blk w b l E → Blk (w.setCells b' o vs) b l E
  | [], _, _, _, h => h
  | v :: r, o, _, _, h => Blk.setCells_other hn r (o + 1) (h.other (a := ⟨b', o, none⟩) hn v)
theorem size_setCells (b : Nat) : ∀ (vs : List Value) (o : Nat) (w : World), (w.setCells b o vs).heap.size = w.heap.size
  | [], _, _ => rfl
  | v :: r, o, w => by rw [World.setCells, size_setCells b r]; simp

/-! ### Slices -/

/-- The slice v (n elements of type E, sz cells each) lies in block b; its cells are cs; there is no other mark on the block. -/
def SlAt (w : World) (E sz : Nat) (v : Value) (n : Nat) (cs : List Value) (b : Nat) : Prop :=
  ∃ o cap l, v = .slice (some ⟨b, o, none⟩) n cap ∧ Blk w b l E ∧ n ≤ cap ∧ cap ≤ maxLen ∧ o + cap * sz ≤ l.length ∧ (l.drop o).take (n * sz) = cs
/-- .. or it is empty, without room. Its block is one of F. -/
def Sl (w : World) (E sz : Nat) (v : Value) (n : Nat) (cs : List Value) (F : Nat → Prop) : Prop :=
  cs.length = n * sz ∧ ((∃ A, v = .slice A 0 0 ∧ n = 0) ∨ ∃ b, F b ∧ SlAt w E sz v n cs b)
/-- The slice v is read: n elements, whose cells are cs, in a block of G. -/
def Rd (w : World) (sz : Nat) (v : Value) (n : Nat) (cs : List Value) (G : Nat → Prop) : Prop :=
  cs.length = n * sz ∧ ∃ A c, v = .slice A n c ∧ n ≤ c ∧ c ≤ maxLen ∧ (n = 0 ∨ ∃ b o, A = some ⟨b, o, none⟩ ∧ G b ∧ ∀ j, j < n * sz → w.cell? ⟨b, o + j, none⟩ = cs[j]?)

/-- A slice's block that may be written. -/
def wbk (v : Value) (b : Nat) : Prop := ∃ A n c, v = .slice (some A) n c ∧ 0 < c ∧ A.block = b

section
variable {w w' : World} {E sz : Nat} {v : Value} {n : Nat} {cs : List Value} {b : Nat} {F G : Nat → Prop}

theorem SlAt.lt (h : SlAt w E sz v n cs b) : b < w.heap.size := by obtain ⟨_, _, _, _, h, _⟩ := h; exact h.lt
theorem SlAt.chg (h : SlAt w E sz v n cs b) (hc : Chg F w w') (hn : ¬ F b) : SlAt w' E sz v n cs b := by
  obtain ⟨o, cap, l, hv, hb, r⟩ := h
  exact ⟨o, cap, l, hv, hb.chg hc hn, r⟩
theorem SlAt.length (h : SlAt w E sz v n cs b) : cs.length = n * sz := by
  obtain ⟨o, cap, l, hv, hb, h1, h2, h3, rfl⟩ := h
  have := Nat.mul_le_mul_right sz h1
  simp; omega
theorem SlAt.own (h : SlAt w E sz v n cs b) : v.ownBlock = some b := by obtain ⟨_, _, _, rfl, _⟩ := h; rfl
theorem SlAt.ne {b' : Nat} {E' sz' n' : Nat} {v' : Value} {cs' : List Value} (h : SlAt w E sz v n cs b) (h' : SlAt w E' sz' v' n' cs' b') (hE : E ≠ E') : b ≠ b' := by
  obtain ⟨_, _, _, _, h, _⟩ := h
  obtain ⟨_, _, _, _, h', _⟩ := h'
  exact h.ne h' hE
theorem SlAt.neBlk {b' : Nat} {E' : Nat} {l' : List Value} (h : SlAt w E sz v n cs b) (h' : Blk w b' l' E') (hE : E ≠ E') : b ≠ b' := by
  obtain ⟨_, _, _, _, h, _⟩ := h
  exact h.ne h' hE

theorem Sl.length (h : Sl w E sz v n cs F) : cs.length = n * sz := h.1
theorem Sl.of (h : SlAt w E sz v n cs b) (hF : F b) : Sl w E sz v n cs F := ⟨h.length, .inr ⟨b, hF, h⟩⟩
theorem Sl.mono (h : Sl w E sz v n cs F) (hg : ∀ k, k < w.heap.size → F k → G k) : Sl w E sz v n cs G := by
  refine ⟨h.1, ?_⟩
  rcases h.2 with h2 | ⟨b, hb, h2⟩
  · exact .inl h2
  · exact .inr ⟨b, hg b h2.lt hb, h2⟩
theorem Sl.chg (h : Sl w E sz v n cs F) (hc : Chg G w w') (hn : ∀ k, F k → ¬ G k) : Sl w' E sz v n cs F := by
  refine ⟨h.1, ?_⟩
  rcases h.2 with h2 | ⟨b, hb, h2⟩
  · exact .inl h2
  · exact .inr ⟨b, hb, h2.chg hc (hn b hb)⟩
/-- Blocks of another type do not matter. -/
theorem Sl.chgT (h : Sl w E sz v n cs F) (hc : Chg G w w') (hn : ∀ k l, F k → Blk w k l E → ¬ G k) : Sl w' E sz v n cs F := by
  refine ⟨h.1, ?_⟩
  rcases h.2 with h2 | ⟨b, hb, h2⟩
  · exact .inl h2
  · obtain ⟨_, _, l, _, hbl, _⟩ := id h2
    exact .inr ⟨b, hb, h2.chg hc (hn b l hb hbl)⟩
theorem Sl.own (h : Sl w E sz v n cs F) (hn : 0 < n) {k : Nat} (hk : v.ownBlock = some k) : F k := by
  rcases h.2 with ⟨A, _, h2⟩ | ⟨b, hb, h2⟩
  · omega
  · rw [h2.own] at hk; injection hk with hk; subst hk; exact hb
theorem Sl.nil (w : World) (E sz : Nat) (F : Nat → Prop) : Sl w E sz (.slice none 0 0) 0 [] F := ⟨by simp, .inl ⟨none, rfl, rfl⟩⟩
theorem Sl.shape (h : Sl w E sz v n cs F) : ∃ A c, v = .slice A n c ∧ n ≤ c ∧ c ≤ maxLen := by
  rcases h.2 with ⟨A, rfl, rfl⟩ | ⟨b, _, o, cap, l, rfl, _, h1, h2, _⟩
  · exact ⟨A, 0, rfl, Nat.le_refl _, Nat.zero_le _⟩
  · exact ⟨_, _, rfl, h1, h2⟩
theorem Sl.pos (h : Sl w E sz v n cs F) (hn : 0 < n) : ∃ b, F b ∧ SlAt w E sz v n cs b := by
  rcases h.2 with ⟨A, _, h2⟩ | h2
  · omega
  · exact h2
/-- The cells, where they are asked for. -/
theorem SlAt.cells (h : SlAt w E sz v n cs b) : ∃ o cap, v = .slice (some ⟨b, o, none⟩) n cap ∧ n ≤ cap ∧ cap ≤ maxLen ∧ ∀ j, j < n * sz → w.cell? ⟨b, o + j, none⟩ = cs[j]? := by
  obtain ⟨o, cap, l, rfl, hb, h1, h2, h3, rfl⟩ := h
  refine ⟨o, cap, rfl, h1, h2, fun j hj => ?_⟩
  rw [hb.cell, List.getElem?_take, if_pos hj, List.getElem?_drop]
theorem SlAt.rd (h : SlAt w E sz v n cs b) (hG : G b) : Rd w sz v n cs G := by
  obtain ⟨o, cap, rfl, h1, h2, h3⟩ := h.cells
  exact ⟨h.length, _, _, rfl, h1, h2, .inr ⟨b, o, rfl, hG, h3⟩⟩
theorem Sl.rd (h : Sl w E sz v n cs F) (hG : ∀ k, F k → G k) : Rd w sz v n cs G := by
  rcases h.2 with ⟨A, rfl, rfl⟩ | ⟨b, hb, h2⟩
  · exact ⟨h.1, A, 0, rfl, Nat.le_refl _, Nat.zero_le _, .inl rfl⟩
  · exact h2.rd (hG b hb)
theorem Rd.mono (h : Rd w sz v n cs F) (hG : ∀ k, F k → G k) : Rd w sz v n cs G := by
  obtain ⟨hl, A, c, hv, h1, h2, h3⟩ := h
  refine ⟨hl, A, c, hv, h1, h2, ?_⟩
  rcases h3 with h3 | ⟨b, o, hA, hb, h3⟩
  · exact .inl h3
  · exact .inr ⟨b, o, hA, hG b hb, h3⟩
theorem Rd.chg (h : Rd w sz v n cs G) (hc : Chg F w w') (hn : ∀ k, k < w.heap.size → G k → ¬ F k) : Rd w' sz v n cs G := by
  obtain ⟨hl, A, c, hv, h1, h2, h3⟩ := h
  refine ⟨hl, A, c, hv, h1, h2, ?_⟩
  rcases h3 with h3 | ⟨b, o, hA, hb, h3⟩
  · exact .inl h3
  · refine .inr ⟨b, o, hA, hb, fun j hj => ?_⟩
    have hlt : j < cs.length := by omega
    have h4 := h3 j hj
    rw [List.getElem?_eq_getElem hlt] at h4 ⊢
    exact hc.cell h4 (hn b (World.block_lt_of_cell? w _ h4) hb)
theorem Rd.length (h : Rd w sz v n cs G) : cs.length = n * sz := h.1
theorem Rd.shape (h : Rd w sz v n cs G) : ∃ A c, v = .slice A n c ∧ n ≤ c ∧ c ≤ maxLen := by
  obtain ⟨_, A, c, hv, h1, h2, _⟩ := h
  exact ⟨A, c, hv, h1, h2⟩
theorem Rd.none_ {c : Nat} (h : Rd w sz (.slice none n c) n cs G) : n = 0 := by
  obtain ⟨_, A, c', hv, _, _, h | ⟨_, _, h, _⟩⟩ := h
  · exact h
  · injection hv with e; rw [← e] at h; cases h
theorem Rd.pos {A : Option Addr} {c : Nat} (h : Rd w sz (.slice A n c) n cs G) (hn : 0 < n) : ∃ b o, A = some ⟨b, o, none⟩ ∧ G b ∧ ∀ j, j < n * sz → w.cell? ⟨b, o + j, none⟩ = cs[j]? := by
  obtain ⟨_, A', c', hv, _, _, h⟩ := h
  injection hv with e; subst e
  rcases h with h | h
  · omega
  · exact h
/-- One slice's head taken off, or its end. -/
theorem add_mid (b o j : Nat) : (⟨b, o, none⟩ : Addr).add j = ⟨b, o + j, none⟩ := by unfold Addr.add; split <;> simp_all
theorem Rd.drop {A : Option Addr} {c : Nat} (h : Rd w sz (.slice A n c) n cs G) (i : Nat) (hi : i ≤ n) : Rd w sz (.slice (if c = i then A else A.map (·.add (i * sz))) (n - i) (c - i)) (n - i) (cs.drop (i * sz)) G := by
  obtain ⟨hl, A', c', hv, h1, h2, h3⟩ := h
  injection hv with e1 e2 e3; subst e1 e3
  have hm := Nat.mul_le_mul_right sz hi
  refine ⟨by rw [List.length_drop, hl, ← Nat.sub_mul], _, _, rfl, by omega, by omega, ?_⟩
  by_cases h0 : n - i = 0
  · exact .inl h0
  · rcases h3 with h3 | ⟨b, o, rfl, hb, h3⟩
    · omega
    · rw [if_neg (by omega)]
      refine .inr ⟨b, o + i * sz, by simp [add_mid], hb, fun j hj => ?_⟩
      rw [Nat.sub_mul] at hj
      rw [Nat.add_assoc, h3 _ (by omega), List.getElem?_drop]
theorem Rd.take {A : Option Addr} {c : Nat} (h : Rd w sz (.slice A n c) n cs G) (i : Nat) (hi : i ≤ n) : Rd w sz (.slice A i c) i (cs.take (i * sz)) G := by
  obtain ⟨hl, A', c', hv, h1, h2, h3⟩ := h
  injection hv with e1 e2 e3; subst e1 e3
  have hm := Nat.mul_le_mul_right sz hi
  refine ⟨by rw [List.length_take, hl]; omega, _, _, rfl, by omega, h2, ?_⟩
  rcases h3 with h3 | ⟨b, o, rfl, hb, h3⟩
  · exact .inl (by omega)
  · exact .inr ⟨b, o, rfl, hb, fun j hj => by rw [h3 j (by omega), List.getElem?_take, if_pos hj]⟩
theorem SlAt.drop {A : Option Addr} {c : Nat} (h : SlAt w E sz (.slice A n c) n cs b) (i : Nat) (hi : i ≤ n) (hc : i < c) : SlAt w E sz (.slice (A.map (·.add (i * sz))) (n - i) (c - i)) (n - i) (cs.drop (i * sz)) b := by
  obtain ⟨o, cap, l, hv, hb, h1, h2, h3, rfl⟩ := h
  injection hv with e1 e2 e3; subst e1 e3
  have hm := Nat.mul_le_mul_right sz hi
  have hm2 := Nat.mul_le_mul_right sz (Nat.le_of_lt hc)
  refine ⟨o + i * sz, c - i, l, by simp [add_mid], hb, by omega, by omega, by rw [Nat.sub_mul]; omega, ?_⟩
  rw [List.drop_take, List.drop_drop, Nat.sub_mul]
theorem SlAt.take {A : Option Addr} {c : Nat} (h : SlAt w E sz (.slice A n c) n cs b) (i : Nat) (hi : i ≤ n) : SlAt w E sz (.slice A i c) i (cs.take (i * sz)) b := by
  obtain ⟨o, cap, l, hv, hb, h1, h2, h3, rfl⟩ := h
  injection hv with e1 e2 e3; subst e1 e3
  have hm := Nat.mul_le_mul_right sz hi
  exact ⟨o, c, l, rfl, hb, by omega, h2, h3, by rw [List.take_take, Nat.min_eq_left hm]⟩
theorem Sl.drop {A : Option Addr} {c : Nat} (h : Sl w E sz (.slice A n c) n cs F) (i : Nat) (hi : i ≤ n) : Sl w E sz (.slice (if c = i then A else A.map (·.add (i * sz))) (n - i) (c - i)) (n - i) (cs.drop (i * sz)) F := by
  have hm := Nat.mul_le_mul_right sz hi
  refine ⟨by rw [List.length_drop, h.1, ← Nat.sub_mul], ?_⟩
  obtain ⟨A', c', hv, h1, h2⟩ := h.shape
  injection hv with e1 e2 e3; subst e1 e3
  by_cases hc : c = i
  · rw [if_pos hc]; exact .inl ⟨A, by congr 1 <;> omega, by omega⟩
  · rcases h.2 with ⟨A', hv, h0⟩ | ⟨b, hb, h3⟩
    · injection hv with e1 e2 e3; omega
    · rw [if_neg hc]; exact .inr ⟨b, hb, h3.drop i hi (by omega)⟩
theorem Sl.take {A : Option Addr} {c : Nat} (h : Sl w E sz (.slice A n c) n cs F) (i : Nat) (hi : i ≤ n) : Sl w E sz (.slice A i c) i (cs.take (i * sz)) F := by
  have hm := Nat.mul_le_mul_right sz hi
  refine ⟨by rw [List.length_take, h.1]; omega, ?_⟩
  rcases h.2 with ⟨A', hv, h0⟩ | ⟨b, hb, h3⟩
  · injection hv with e1 e2 e3; subst e1 e2 e3; exact .inl ⟨A, by congr 1; omega, by omega⟩
  · exact .inr ⟨b, hb, h3.take i hi⟩
end

#print axioms Sl.take
end Go.Proofs.YtoegjmeoeefllaaGreatDoor
