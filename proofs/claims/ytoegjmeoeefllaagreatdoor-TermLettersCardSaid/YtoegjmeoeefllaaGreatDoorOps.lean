/- The operations on memory, as laws that leave the world behind them a letter, with what is known of it. -/
import Derived.Test.YtoegjmeoeefllaaGreatDoorBase
import Derived.Deep.MidRow
import Derived.Laws.MakeOwn
import Derived.Lib.Strings
namespace Go.Proofs.YtoegjmeoeefllaaGreatDoor
open Go Go.RowKit

/-- What is asked of an element's type. -/
structure EInfo (P : Program) (t E sz bytes : Nat) (z : Value) : Prop where
  und : P.underlying t = some (.slice E)
  inf : (P.info? E).map (fun i => (i.zero, i.size, i.bytes)) = some (some z, sz, bytes)
  zs : z.cells.size = sz
  pos : 0 < sz
  bpos : 0 < bytes

theorem EInfo.parts {P : Program} {t E sz bytes : Nat} {z : Value} (h : EInfo P t E sz bytes z) : ∃ i, P.info? E = some i ∧ i.zero = some z ∧ i.size = sz ∧ i.bytes = bytes := by
  have := h.inf
  cases hq : P.info? E with
  | none => simp [hq] at this
  | some i => simp [hq] at this; exact ⟨i, rfl, this.1, this.2.1, this.2.2⟩

theorem run_max_2 {P : Program} (w : World) (ts : Array TypeId) (t : TypeId) (k k' : IntKind) (x y : Int) : (Builtin.max_ ts t #[.int k x, .int k' y]).run P w = .ok (.int k (max x y)) w := by
  rw [run_max_int2]; congr 2; split <;> omega
theorem run_min_2 {P : Program} (w : World) (ts : Array TypeId) (t : TypeId) (k k' : IntKind) (x y : Int) : (Builtin.min_ ts t #[.int k x, .int k' y]).run P w = .ok (.int k (min x y)) w := by
  rw [run_min_int2]; congr 2; split <;> omega

section
variable {P : Program} {w : World}

theorem there_of_blk {b : Nat} {l : List Value} {E : TypeId} (h : Blk w b l E) {o n : Nat} (hl : o + n ≤ l.length) : w.there b o n := fun j hj => by
  rw [h.cell, h.frozen, List.getElem?_eq_getElem (by omega)]; simp

theorem range_of_blk {b : Nat} {l : List Value} {E : TypeId} (h : Blk w b l E) {o n : Nat} {cs : List Value} (hc : (l.drop o).take n = cs) : w.rangeAt b o cs := fun j v hj => by
  subst hc
  rw [List.getElem?_take] at hj
  split at hj
  · rw [h.cell, ← List.getElem?_drop]; exact hj
  · cases hj

/-- A struct, or an array, is stored into a block that is known whole. -/
theorem wpList_store_blk {ops : Array Oper} {rest : List Oper} {op : Oper} {a : Act} {Q : Exit → Act → World → Prop} (hgd : op.guard = none) (ty : TypeId) (x y : Operand) (ho : op.op = .store ty x y)
    (b o : Nat) (cells : List Value) (hx : a.eval x = .pointer (some ⟨b, o, none⟩)) (hy : a.eval y = .agg cells.toArray) {l : List Value} {E : TypeId} (hb : Blk w b l E) (hl : o + cells.length ≤ l.length)
    (hi : (P.info? ty).map (·.size) = some cells.length) (h1 : ∀ u ∈ cells, u.oneCell' = true)
    (h : ∀ w', Blk w' b (splice l o cells) E → Chg (fun k => k = b) w w' → wpList P ops Q rest (a.put op.dst undef) w') : wpList P ops Q (op :: rest) a w := by
  refine wpList_store_mid hgd ty x y ho b o cells.toArray hx hy (there_of_blk hb (by simpa using hl)) (by simpa using hi) (all_oneCell_toArray h1) ?_
  exact h _ (hb.setCells cells o hl) (Chg.setCells (F := fun k => k = b) b (.inl rfl) cells o (Chg.refl _ _))

/-- A struct, or an array, is read out of a block that is known whole. -/
theorem wpList_load_blk {ops : Array Oper} {rest : List Oper} {op : Oper} {a : Act} {Q : Exit → Act → World → Prop} (hgd : op.guard = none) (ty : TypeId) (x : Operand) (ho : op.op = .load ty x)
    (b o : Nat) (hx : a.eval x = .pointer (some ⟨b, o, none⟩)) {l : List Value} {E : TypeId} (hb : Blk w b l E) (cs : List Value) (hc : (l.drop o).take cs.length = cs) (d : TypeDesc)
    (hu : P.underlying ty = some d) (hd : d.isRow = true) (hi : (P.info? ty).map (·.size) = some cs.length)
    (h : wpList P ops Q rest (a.put op.dst (.agg cs.toArray)) w) : wpList P ops Q (op :: rest) a w :=
  wpList_load_mid hgd ty x ho b o hx cs d (range_of_blk hb hc) hu hd hi h

theorem splice_mid (l vs : List Value) (o i n : Nat) (hi : i + vs.length ≤ n) (hl : o + n ≤ l.length) : ((splice l (o + i) vs).drop o).take n = splice ((l.drop o).take n) i vs := by
  apply List.ext_getElem?
  intro j
  have hlen : ((l.drop o).take n).length = n := by simp; omega
  by_cases hj : j < n
  · rw [List.getElem?_take, if_pos hj, List.getElem?_drop]
    by_cases h : i ≤ j ∧ j < i + vs.length
    · have e1 : (splice l (o + i) vs)[o + j]? = (((splice l (o + i) vs).drop (o + i)).take vs.length)[j - i]? := by
        rw [List.getElem?_take, if_pos (by omega), List.getElem?_drop]; congr 1; omega
      have e2 : (splice ((l.drop o).take n) i vs)[j]? = (((splice ((l.drop o).take n) i vs).drop i).take vs.length)[j - i]? := by
        rw [List.getElem?_take, if_pos (by omega), List.getElem?_drop]; congr 1; omega
      rw [e1, e2, splice_read _ _ _ (by omega), splice_read _ _ _ (by omega)]
    · rw [splice_far _ _ _ _ (by omega) (by omega), splice_far _ _ _ _ (by omega) (by omega), List.getElem?_take, if_pos hj, List.getElem?_drop]
  · rw [List.getElem?_eq_none (by rw [List.length_take, List.length_drop, length_splice _ _ _ (by omega)]; omega), List.getElem?_eq_none (by rw [length_splice _ _ _ (by omega)]; omega)]

theorem SlAt.store {E sz n cap b o : Nat} {cs : List Value} (h : SlAt w E sz (.slice (some ⟨b, o, none⟩) n cap) n cs b) {l : List Value} (hb : Blk w b l E) {i : Nat} {cells : List Value} (hi : i + cells.length ≤ n * sz) {w' : World} (hw : Blk w' b (splice l (o + i) cells) E) :
    SlAt w' E sz (.slice (some ⟨b, o, none⟩) n cap) n (splice cs i cells) b := by
  obtain ⟨o', cap', l', hv, hbl, h1, h2, h3, rfl⟩ := h
  injection hv with e1 _ e3; injection e1 with e1; injection e1 with _ e1 _; subst e1 e3
  obtain rfl := hb.det hbl
  have hm := Nat.mul_le_mul_right sz h1
  exact ⟨o, cap, _, rfl, hw, h1, h2, by rw [length_splice _ _ _ (by omega)]; exact h3, splice_mid _ _ _ _ _ hi (by omega)⟩

/-- An element of a slice is written, whole. -/
theorem wpList_store_elem {ops : Array Oper} {rest : List Oper} {op : Oper} {a : Act} {Q : Exit → Act → World → Prop} (hgd : op.guard = none) (ty : TypeId) (x y : Operand) (ho : op.op = .store ty x y)
    (b o i : Nat) (cells : List Value) (hx : a.eval x = .pointer (some ⟨b, o + i, none⟩)) (hy : a.eval y = .agg cells.toArray) {E sz n cap : Nat} {cs : List Value} (h : SlAt w E sz (.slice (some ⟨b, o, none⟩) n cap) n cs b) (hl : i + cells.length ≤ n * sz)
    (hi : (P.info? ty).map (·.size) = some cells.length) (h1 : ∀ u ∈ cells, u.oneCell' = true)
    (k : ∀ w', SlAt w' E sz (.slice (some ⟨b, o, none⟩) n cap) n (splice cs i cells) b → Chg (fun k => k = b) w w' → w'.heap.size = w.heap.size → wpList P ops Q rest (a.put op.dst undef) w') : wpList P ops Q (op :: rest) a w := by
  have h0 := h
  obtain ⟨o', cap', l, hv, hbl, h1', h2, h3, rfl⟩ := h
  injection hv with e1 _ e3; injection e1 with e1; injection e1 with _ e1 _; subst e1 e3
  have hm := Nat.mul_le_mul_right sz h1'
  refine wpList_store_mid hgd ty x y ho b (o + i) cells.toArray hx hy (there_of_blk hbl (by simp; omega)) (by simpa using hi) (all_oneCell_toArray h1) ?_
  exact k _ (h0.store hbl hl (hbl.setCells cells (o + i) (by omega))) (Chg.setCells (F := fun k => k = b) b (.inl rfl) cells (o + i) (Chg.refl _ _)) (size_setCells _ _ _ _)

/-- An element of a slice is read, whole. -/
theorem wpList_load_elem {ops : Array Oper} {rest : List Oper} {op : Oper} {a : Act} {Q : Exit → Act → World → Prop} (hgd : op.guard = none) (ty : TypeId) (x : Operand) (ho : op.op = .load ty x)
    (b o i : Nat) (hx : a.eval x = .pointer (some ⟨b, o + i, none⟩)) {E sz n cap : Nat} {cs : List Value} (h : SlAt w E sz (.slice (some ⟨b, o, none⟩) n cap) n cs b) (el : List Value) (hel : (cs.drop i).take el.length = el) (hl : i + el.length ≤ n * sz) (d : TypeDesc)
    (hu : P.underlying ty = some d) (hd : d.isRow = true) (hi : (P.info? ty).map (·.size) = some el.length)
    (k : wpList P ops Q rest (a.put op.dst (.agg el.toArray)) w) : wpList P ops Q (op :: rest) a w := by
  obtain ⟨o', cap', l, hv, hbl, h1', h2, h3, rfl⟩ := h
  injection hv with e1 _ e3; injection e1 with e1; injection e1 with _ e1 _; subst e1 e3
  refine wpList_load_blk hgd ty x ho b (o + i) hx hbl el ?_ d hu hd hi k
  rw [List.drop_take, List.take_take, List.drop_drop, Nat.min_eq_left (by omega)] at hel
  exact hel

theorem Rd.src {sz m : Nat} {x : Value} {news : List Value} {G : Nat → Prop} (h : Rd w sz x m news G) : (∃ A c, x = .slice A m c ∧ m = 0 ∧ news = []) ∨ ∃ b o c, x = .slice (some ⟨b, o, none⟩) m c ∧ 0 < m ∧ news.length = m * sz ∧ ∀ j u, news[j]? = some u → w.cell? ((⟨b, o, none⟩ : Addr).add j) = some u := by
  obtain ⟨hl, A, c, rfl, _, _, h3⟩ := h
  by_cases hm : m = 0
  · exact .inl ⟨A, c, rfl, hm, List.eq_nil_of_length_eq_zero (by rw [hl, hm]; simp)⟩
  · rcases h3 with h3 | ⟨b, o, rfl, _, h3⟩
    · exact absurd h3 hm
    · refine .inr ⟨b, o, c, rfl, by omega, hl, fun j u hu => ?_⟩
      rw [add_mid, h3 j (by have := (List.getElem?_eq_some_iff.1 hu).1; omega)]
      exact hu

/-- Where what was appended to lies. -/
def Lies (w : World) (v v' : Value) : Prop := ∀ b, wbk v' b → wbk v b ∨ b = w.heap.size

/-- append, whatever room there is. -/
theorem run_append_sl {t ty E sz bytes : Nat} {z : Value} (ei : EInfo P t E sz bytes z) {v : Value} {n : Nat} {cs : List Value} {F : Nat → Prop} (hv : Sl w E sz v n cs F)
    {x : Value} {m : Nat} {news : List Value} {G : Nat → Prop} (hx : Rd w sz x m news G) (h1 : ∀ u ∈ news, u.oneCell' = true) (hb : (n + m) * bytes ≤ 140737488355328) :
    ∃ v' w', (Builtin.append_ #[t, t] ty #[v, x]).run P w = .ok v' w' ∧ Sl w' E sz v' (n + m) (cs ++ news) (fun b => F b ∨ b = w.heap.size) ∧ Chg (wbk v) w w' ∧ Lies w v v' ∧ w'.heap.size ≤ w.heap.size + 1 := by
  obtain ⟨i, hi, hz, rfl, rfl⟩ := ei.parts
  have hnm : n + m ≤ 140737488355328 := Nat.le_trans (Nat.le_mul_of_pos_right _ ei.bpos) hb
  have hlen : (cs ++ news).length = (n + m) * i.size := by rw [List.length_append, hv.1, hx.1, Nat.add_mul]
  -- a new block
  have grown : ∀ (old : Nat), 0 < n + m →
      Sl (w.drew.alloc (.cells (cs.toArray ++ news.toArray ++ Builtin.zeroCells z.cells (grownCap w (n + m) old E - (n + m))) E)) E i.size
        (.slice (some ⟨w.heap.size, 0, none⟩) (n + m) (grownCap w (n + m) old E)) (n + m) (cs ++ news) (fun b => F b ∨ b = w.heap.size) ∧
      Chg (wbk v) w (w.drew.alloc (.cells (cs.toArray ++ news.toArray ++ Builtin.zeroCells z.cells (grownCap w (n + m) old E - (n + m))) E)) := by
    intro old _
    have hge := grownCap_ge w (n + m) old E
    have hcm : grownCap w (n + m) old E ≤ maxLen := grownCap_le_maxLen w (n + m) old E (by unfold maxLen; omega)
    refine ⟨⟨hlen, .inr ⟨w.heap.size, .inr rfl, 0, _, cs ++ news ++ (Builtin.zeroCells z.cells (grownCap w (n + m) old E - (n + m))).toList, rfl, ?_, hge, hcm, ?_, ?_⟩⟩, ((Chg.refl _ w).drew).alloc _⟩
    · have := heap_alloc_new w.drew (.cells (cs.toArray ++ news.toArray ++ Builtin.zeroCells z.cells (grownCap w (n + m) old E - (n + m))) E)
      unfold Blk
      rw [show w.drew.heap.size = w.heap.size from rfl] at this
      rw [this]; congr 2; simp
    · have hzc : (Builtin.zeroCells z.cells (grownCap w (n + m) old E - (n + m))).size = (grownCap w (n + m) old E - (n + m)) * i.size := by rw [size_zeroCells, ei.zs]
      have e1 : (cs ++ news ++ (Builtin.zeroCells z.cells (grownCap w (n + m) old E - (n + m))).toList).length = grownCap w (n + m) old E * i.size := by
        have hzl : (Builtin.zeroCells z.cells (grownCap w (n + m) old E - (n + m))).toList.length = (grownCap w (n + m) old E - (n + m)) * i.size := by rw [Array.length_toList, hzc]
        rw [List.length_append, hzl, hlen, ← Nat.add_mul, Nat.add_sub_cancel' hge]
      rw [e1]; omega
    · rw [List.drop_zero, ← hlen, List.take_left]
  rcases hx.src with ⟨A, c, rfl, rfl, rfl⟩ | ⟨xb, xo, xc, rfl, hm, hl, hnews⟩
  · -- nothing is appended
    obtain ⟨A', c', rfl, hc1, hc2⟩ := hv.shape
    refine ⟨.slice A' n c', w, ?_, by simpa using hv.mono (fun _ _ h => .inl h), Chg.refl _ _, fun b h => .inl h, by omega⟩
    have hstep : ∀ (q : Option Addr), (Builtin.firstCells i.size 0 (.slice q 0 c)).run P w = .ok #[] w := by
      intro q; cases q <;> simp [Builtin.firstCells, loadCells, loadCellsFrom]
    simp [Builtin.append_, run_underlying ei.und, sizeOf, typeInfo, hi, Builtin.lenOf, hc1, hstep A]
    cases A' <;> simp [storeCells]
  · rcases hv.2 with ⟨A, rfl, rfl⟩ | ⟨b, hFb, o, cap, l, rfl, hbl, hnc, hcm, hol, hcs⟩
    · -- it was empty
      have hcs0 : cs = [] := List.eq_nil_of_length_eq_zero (by simpa using hv.1)
      subst hcs0
      obtain ⟨hg1, hg2⟩ := grown 0 (by omega)
      simp only [Nat.zero_add, List.nil_append, Array.empty_append] at hg1 hg2 hb ⊢
      refine ⟨_, _, ?_, hg1, hg2, fun b hb => ?_, by simp⟩
      · have h48 : m * i.bytes ≤ 281474976710656 := by omega
        have hn' : m ≠ 0 := by omega
        have h63' : ¬ (9223372036854775807 < (m : Int)) := by omega
        have h48' : ¬ (281474976710656 < Builtin.nextslicecap m 0 * i.bytes) := by rw [nextslicecap_zero hm]; omega
        have hf := run_firstCells_some (P := P) w.drew i.size m ⟨xb, xo, none⟩ m xc news hl (by simpa using hnews)
        have hold : ∀ (w : World), (Builtin.firstCells i.size 0 (.slice A 0 0)).run P w = .ok #[] w := by
          intro w; cases A <;> simp [Builtin.firstCells, loadCells, loadCellsFrom]
        simp [Builtin.append_, run_underlying ei.und, sizeOf, typeInfo, zeroValue, hi, hz, Builtin.lenOf, hn', h63', h48', Question.forced, hold, hf, newRow, grownCap]
      · obtain ⟨A', n', c', hv', _, hb'⟩ := hb
        injection hv' with e1 _ _; injection e1 with e1; subst e1; exact .inr hb'.symm
    · by_cases hroom : n + m ≤ cap
      · -- there is room
        have hnm2 := Nat.mul_le_mul_right i.size hroom
        rw [Nat.add_mul] at hnm2
        have hfit : o + n * i.size + news.length ≤ l.length := by rw [hl]; omega
        refine ⟨.slice (some ⟨b, o, none⟩) (n + m) cap, w.setCells b (o + n * i.size) news, ?_, ⟨hlen, .inr ⟨b, .inl hFb, o, cap, _, rfl, hbl.setCells news _ hfit, hroom, hcm, by rw [length_splice _ _ _ hfit]; exact hol, ?_⟩⟩, ?_, fun b' hb' => .inl ?_, ?_⟩
        · have hf := run_firstCells_some (P := P) w i.size m ⟨xb, xo, none⟩ m xc news hl hnews
          have hst := run_storeCells_cells (P := P) b (o + n * i.size) news 0 w (fun j hj => by rw [hbl.cell, List.getElem?_eq_getElem (by omega)]; rfl) (fun j hj => hbl.frozen _) h1
          simp only [Nat.add_zero] at hst
          simp [Builtin.append_, run_underlying ei.und, sizeOf, typeInfo, hi, Builtin.lenOf, hroom, hf, add_mid, hst]
        · have hcl : cs.length = n * i.size := hv.1
          have htl : (l.take (o + n * i.size)).length = o + n * i.size := by simp; omega
          rw [splice, List.append_assoc, List.drop_append_of_le_length (by omega), List.drop_take, show o + n * i.size - o = n * i.size by omega, hcs, ← List.append_assoc, ← hlen, List.take_left]
        · exact Chg.setCells b (.inl ⟨_, _, _, rfl, by omega, rfl⟩) news _ (Chg.refl _ _)
        · obtain ⟨A', n', c', hv', hc', hb'⟩ := hb'
          injection hv' with e1 _ e3; subst e3; injection e1 with e1; subst e1
          exact ⟨_, _, _, rfl, hc', hb'⟩
        · rw [size_setCells]; omega
      · -- it grows
        have hat : SlAt w E i.size (.slice (some ⟨b, o, none⟩) n cap) n cs b := ⟨o, cap, l, rfl, hbl, hnc, hcm, hol, hcs⟩
        have holds : ∀ j u, cs[j]? = some u → w.cell? ((⟨b, o, none⟩ : Addr).add j) = some u := fun j u hu => by
          have hj := (List.getElem?_eq_some_iff.1 hu).1
          rw [add_mid, hbl.cell, ← List.getElem?_drop]
          subst hcs
          rw [List.getElem?_take] at hu
          split at hu
          · exact hu
          · cases hu
        have hr := run_append_grow (P := P) w t ty E i z ei.und hi hz ⟨b, o, none⟩ n cap cs hv.1 holds ⟨xb, xo, none⟩ m xc news hl hnews (by omega) (by omega) (growslice_fits (by omega) hb)
        obtain ⟨hg1, hg2⟩ := grown cap (by omega)
        refine ⟨_, _, hr, hg1, hg2, fun b' hb' => ?_, by simp⟩
        obtain ⟨A', n', c', hv', _, hb'⟩ := hb'
        injection hv' with e1 _ _; injection e1 with e1; subst e1; exact .inr hb'.symm

theorem wp_append_sl {o : Oper} {a : Act} {K : Act → World → Prop} {Q : Exit → Act → World → Prop} (s x : Operand) (t : TypeId)
    (ho : o.op = .call { callee := .builtin .append, args := #[s, x], argTypes := #[t, t] })
    {E sz bytes : Nat} {z : Value} (ei : EInfo P t E sz bytes z) {v : Value} {n : Nat} {cs : List Value} {F : Nat → Prop} (hs : a.eval s = v) (hv : Sl w E sz v n cs F)
    {xv : Value} {m : Nat} {news : List Value} {G : Nat → Prop} (hx : a.eval x = xv) (hr : Rd w sz xv m news G) (h1 : ∀ u ∈ news, u.oneCell' = true) (hb : (n + m) * bytes ≤ 140737488355328)
    (h : ∀ A' c' w', Sl w' E sz (.slice A' (n + m) c') (n + m) (cs ++ news) (fun b => F b ∨ b = w.heap.size) → Chg (wbk v) w w' → Lies w v (.slice A' (n + m) c') → w'.heap.size ≤ w.heap.size + 1 → K (a.put o.dst (.slice A' (n + m) c')) w') : o.wp P a w K Q := by
  obtain ⟨v', w', hr, h2, h3, h4, h5⟩ := run_append_sl (P := P) (ty := o.type) ei hv hr h1 hb
  obtain ⟨A', c', rfl, _, _⟩ := h2.shape
  unfold Oper.wp execOp
  simp only [ho, resolve, invoke, builtin, Sem.run_bind, Sem.run_pure, Result.andThen_ok, List.map_toArray, List.map_cons, List.map_nil, hs, hx, hr]
  exact h A' c' w' h2 h3 h4 h5
theorem wpList_append_sl {ops : Array Oper} {rest : List Oper} {o : Oper} {a : Act} {Q : Exit → Act → World → Prop} (hgd : o.guard = none) (s x : Operand) (t : TypeId)
    (ho : o.op = .call { callee := .builtin .append, args := #[s, x], argTypes := #[t, t] })
    {E sz bytes : Nat} {z : Value} (ei : EInfo P t E sz bytes z) {v : Value} {n : Nat} {cs : List Value} {F : Nat → Prop} (hs : a.eval s = v) (hv : Sl w E sz v n cs F)
    {xv : Value} {m : Nat} {news : List Value} {G : Nat → Prop} (hx : a.eval x = xv) (hr : Rd w sz xv m news G) (h1 : ∀ u ∈ news, u.oneCell' = true) (hb : (n + m) * bytes ≤ 140737488355328)
    (h : ∀ A' c' w', Sl w' E sz (.slice A' (n + m) c') (n + m) (cs ++ news) (fun b => F b ∨ b = w.heap.size) → Chg (wbk v) w w' → Lies w v (.slice A' (n + m) c') → w'.heap.size ≤ w.heap.size + 1 → wpList P ops Q rest (a.put o.dst (.slice A' (n + m) c')) w') : wpList P ops Q (o :: rest) a w :=
  wpList_plain hgd fun _ hK => wp_append_sl s x t ho ei hs hv hx hr h1 hb (fun A' c' w' h2 h3 h4 h5 => hK _ _ (h A' c' w' h2 h3 h4 h5))

end
section
variable {P : Program} {w : World}
theorem cell_far {b p i j : Nat} {u v : Value} (h : w.cell? ⟨p, j, none⟩ = some v) (hn : b ≠ p) : (w.setCell ⟨b, i, none⟩ u).cell? ⟨p, j, none⟩ = some v := by
  rw [World.cell?_setCell_other (w := w) (a := ⟨b, i, none⟩) (b := ⟨p, j, none⟩) (v := u) (fun e => hn (congrArg Addr.block e))]; exact h
theorem cell_alloc_some {a : Addr} {v : Value} (h : w.cell? a = some v) (o : Obj) : (w.alloc o).cell? a = some v := by
  rw [World.cell?_alloc_lt w o a (World.block_lt_of_cell? w a h)]; exact h
/-- copy into a block that is known whole. -/
theorem run_copy_blk {dT sT ty E sz : Nat} {i : TypeInfo} (hu : P.underlying dT = some (.slice E)) (hi : P.info? E = some i) (hsz : i.size = sz) {b o dn dc : Nat} {l : List Value} {E' : TypeId} (hb : Blk w b l E')
    {sp : Option Addr} {sn sc : Nat} {cs : List Value} (hl : cs.length = Nat.min sn dn * sz) (hsrc : 0 < Nat.min sn dn → ∃ sb so, sp = some ⟨sb, so, none⟩ ∧ ∀ j u, cs[j]? = some u → w.cell? ⟨sb, so + j, none⟩ = some u) (h1 : ∀ u ∈ cs, u.oneCell' = true) (hfit : o + cs.length ≤ l.length) :
    (Builtin.copy_ #[dT, sT] ty #[.slice (some ⟨b, o, none⟩) dn dc, .slice sp sn sc]).run P w = .ok (goInt (Nat.min sn dn)) (w.setCells b o cs) := by
  subst hsz
  have hst := run_storeCells_cells (P := P) b o cs 0 w (fun j hj => by rw [hb.cell, List.getElem?_eq_getElem (by omega)]; rfl) (fun j hj => hb.frozen _) h1
  simp only [Nat.add_zero] at hst
  by_cases h0 : Nat.min sn dn = 0
  · have hcs : cs = [] := List.eq_nil_of_length_eq_zero (by rw [hl, h0, Nat.zero_mul])
    subst hcs
    have hload : ∀ (x : Addr), (loadCells x 0).run P w = .ok #[] w := fun x => by simpa using run_loadCells_list (P := P) w x [] (by simp)
    cases sp <;> simp [Builtin.copy_, run_underlying hu, Builtin.lenOf, Builtin.firstCells, sizeOf, typeInfo, hi, h0, hload, storeCells, World.setCells]
  · obtain ⟨sb, so, rfl, hs⟩ := hsrc (by omega)
    have hload := run_loadCells_list (P := P) w ⟨sb, so, none⟩ cs (fun j v hj => by rw [add_mid]; exact hs j v hj)
    rw [hl] at hload
    simp [Builtin.copy_, run_underlying hu, Builtin.lenOf, Builtin.firstCells, sizeOf, typeInfo, hi, hload, hst]

theorem wp_copy_blk {op : Oper} {a : Act} {K : Act → World → Prop} {Q : Exit → Act → World → Prop} (d s : Operand) (dT sT : TypeId)
    (ho : op.op = .call { callee := .builtin .copy, args := #[d, s], argTypes := #[dT, sT] }) {E sz : Nat} (hu : P.underlying dT = some (.slice E)) (hi : (P.info? E).map (·.size) = some sz)
    {b o dn dc : Nat} {sp : Option Addr} {sn sc : Nat} (hd : a.eval d = .slice (some ⟨b, o, none⟩) dn dc) (hs : a.eval s = .slice sp sn sc) {l : List Value} {E' : TypeId} (hb : Blk w b l E')
    (cs : List Value) (hl : cs.length = Nat.min sn dn * sz) (hsrc : 0 < Nat.min sn dn → ∃ sb so, sp = some ⟨sb, so, none⟩ ∧ ∀ j u, cs[j]? = some u → w.cell? ⟨sb, so + j, none⟩ = some u) (h1 : ∀ u ∈ cs, u.oneCell' = true) (hfit : o + cs.length ≤ l.length)
    (k : ∀ w', Blk w' b (splice l o cs) E' → Chg (fun k => k = b) w w' → w'.heap.size = w.heap.size → K (a.put op.dst (goInt (Nat.min sn dn))) w') : op.wp P a w K Q := by
  cases hq : P.info? E with
  | none => simp [hq] at hi
  | some i =>
    have hz : i.size = sz := by simpa [hq] using hi
    have hr := run_copy_blk (P := P) (ty := op.type) (sT := sT) (dc := dc) (sc := sc) hu hq hz hb hl hsrc h1 hfit
    unfold Oper.wp execOp
    simp only [ho, resolve, invoke, builtin, Sem.run_bind, Sem.run_pure, Result.andThen_ok, List.map_toArray, List.map_cons, List.map_nil, hd, hs, hr]
    exact k _ (hb.setCells cs o hfit) (Chg.setCells (F := fun k => k = b) b (.inl rfl) cs o (Chg.refl _ _)) (size_setCells _ _ _ _)
theorem wpList_copy_blk {ops : Array Oper} {rest : List Oper} {op : Oper} {a : Act} {Q : Exit → Act → World → Prop} (hgd : op.guard = none) (d s : Operand) (dT sT : TypeId)
    (ho : op.op = .call { callee := .builtin .copy, args := #[d, s], argTypes := #[dT, sT] }) {E sz : Nat} (hu : P.underlying dT = some (.slice E)) (hi : (P.info? E).map (·.size) = some sz)
    {b o dn dc : Nat} {sp : Option Addr} {sn sc : Nat} (hd : a.eval d = .slice (some ⟨b, o, none⟩) dn dc) (hs : a.eval s = .slice sp sn sc) {l : List Value} {E' : TypeId} (hb : Blk w b l E')
    (cs : List Value) (hl : cs.length = Nat.min sn dn * sz) (hsrc : 0 < Nat.min sn dn → ∃ sb so, sp = some ⟨sb, so, none⟩ ∧ ∀ j u, cs[j]? = some u → w.cell? ⟨sb, so + j, none⟩ = some u) (h1 : ∀ u ∈ cs, u.oneCell' = true) (hfit : o + cs.length ≤ l.length)
    (k : ∀ w', Blk w' b (splice l o cs) E' → Chg (fun k => k = b) w w' → w'.heap.size = w.heap.size → wpList P ops Q rest (a.put op.dst (goInt (Nat.min sn dn))) w') : wpList P ops Q (op :: rest) a w :=
  wpList_plain hgd fun _ hK => wp_copy_blk d s dT sT ho hu hi hd hs hb cs hl hsrc h1 hfit (fun w' h2 h3 h4 => hK _ _ (k w' h2 h3 h4))
theorem step_copy_blk {E0 : Prop} {ops : Array Oper} {op : Oper} {a : Act} {K : Act → World → Prop} {Q : Exit → Act → World → Prop} (hgd : op.guard = none) (d s : Operand) (dT sT : TypeId)
    (ho : op.op = .call { callee := .builtin .copy, args := #[d, s], argTypes := #[dT, sT] }) {E sz : Nat} (hu : P.underlying dT = some (.slice E)) (hi : (P.info? E).map (·.size) = some sz)
    {b o dn dc : Nat} {sp : Option Addr} {sn sc : Nat} (hd : a.eval d = .slice (some ⟨b, o, none⟩) dn dc) (hs : a.eval s = .slice sp sn sc) {l : List Value} {E' : TypeId} (hb : Blk w b l E')
    (cs : List Value) (hl : cs.length = Nat.min sn dn * sz) (hsrc : 0 < Nat.min sn dn → ∃ sb so, sp = some ⟨sb, so, none⟩ ∧ ∀ j u, cs[j]? = some u → w.cell? ⟨sb, so + j, none⟩ = some u) (h1 : ∀ u ∈ cs, u.oneCell' = true) (hfit : o + cs.length ≤ l.length)
    (k : ∀ w', Blk w' b (splice l o cs) E' → Chg (fun k => k = b) w w' → w'.heap.size = w.heap.size → K (a.put op.dst (goInt (Nat.min sn dn))) w') :
    if Region.wanted op (yielded ops a.tmps) = true then Oper.wp P op a w K Q else E0 := by
  have hw : Region.wanted op (yielded ops a.tmps) = true := by simp [Region.wanted, hgd]
  rw [if_pos hw]
  exact wp_copy_blk d s dT sT ho hu hi hd hs hb cs hl hsrc h1 hfit k
theorem step_append_sl {E0 : Prop} {ops : Array Oper} {o : Oper} {a : Act} {K : Act → World → Prop} {Q : Exit → Act → World → Prop} (hgd : o.guard = none) (s x : Operand) (t : TypeId)
    (ho : o.op = .call { callee := .builtin .append, args := #[s, x], argTypes := #[t, t] })
    {E sz bytes : Nat} {z : Value} (ei : EInfo P t E sz bytes z) {v : Value} {n : Nat} {cs : List Value} {F : Nat → Prop} (hs : a.eval s = v) (hv : Sl w E sz v n cs F)
    {xv : Value} {m : Nat} {news : List Value} {G : Nat → Prop} (hx : a.eval x = xv) (hr : Rd w sz xv m news G) (h1 : ∀ u ∈ news, u.oneCell' = true) (hb : (n + m) * bytes ≤ 140737488355328)
    (h : ∀ A' c' w', Sl w' E sz (.slice A' (n + m) c') (n + m) (cs ++ news) (fun b => F b ∨ b = w.heap.size) → Chg (wbk v) w w' → Lies w v (.slice A' (n + m) c') → w'.heap.size ≤ w.heap.size + 1 → K (a.put o.dst (.slice A' (n + m) c')) w') :
    if Region.wanted o (yielded ops a.tmps) = true then Oper.wp P o a w K Q else E0 := by
  have hw : Region.wanted o (yielded ops a.tmps) = true := by simp [Region.wanted, hgd]
  rw [if_pos hw]
  exact wp_append_sl s x t ho ei hs hv hx hr h1 hb h
/-- make, with a length that is a number. -/
theorem run_make_blk {t E sz bytes : Nat} {z : Value} (ei : EInfo P t E sz bytes z) (w : World) (n : Nat) (hb : n * bytes ≤ 281474976710656) :
    (Instr.makeSlice t (.int .i64 n) (.int .i64 n)).run P w = .ok (.slice (some ⟨w.heap.size, 0, none⟩) n n) (w.alloc (.cells (madeCells z.cells (n * sz)) E)) := by
  obtain ⟨i, hi, hz, rfl, rfl⟩ := ei.parts
  have hn : n ≤ 281474976710656 := Nat.le_trans (Nat.le_mul_of_pos_right _ ei.bpos) hb
  have hb' : (i.bytes : Int) * (n : Int) ≤ 281474976710656 := by
    have h : ((i.bytes * n : Nat) : Int) ≤ 281474976710656 := by rw [Nat.mul_comm]; omega
    rwa [Int.natCast_mul] at h
  have h := run_make (P := P) w t E i z ei.und hi hz .i64 .i64 n n (by omega) (Int.le_refl _) hb' (by omega)
  simp only [Int.toNat_natCast] at h
  exact h
end
theorem Sl.wbT {w : World} {E E' sz n : Nat} {v : Value} {cs l : List Value} {F : Nat → Prop} (h : Sl w E sz v n cs F) {k : Nat} (hk : wbk v k) (hb : Blk w k l E') : E = E' := by
  obtain ⟨A, n', c, rfl, hc, rfl⟩ := hk
  rcases h.2 with ⟨A', hv, _⟩ | ⟨b, _, o, cap, l', hv, hl, _⟩
  · injection hv with _ _ e; omega
  · injection hv with e1 _ _; injection e1 with e1; subst e1
    unfold Blk at hl hb; rw [hl] at hb; injection hb with hb; injection hb with _ hb
theorem Sl.wbF' {w : World} {E sz n : Nat} {v : Value} {cs : List Value} {F : Nat → Prop} (h : Sl w E sz v n cs F) {k : Nat} (hk : wbk v k) : F k := by
  obtain ⟨A, n', c, rfl, hc, rfl⟩ := hk
  rcases h.2 with ⟨A', hv, _⟩ | ⟨b, hb, o, cap, l', hv, hl, _⟩
  · injection hv with _ _ e; omega
  · injection hv with e1 _ _; injection e1 with e1; subst e1; exact hb
/-- New memory is read. -/
theorem Rd.new (w : World) (l : List Value) (E sz : Nat) {n : Nat} (hl : l.length = n * sz) (hn : n ≤ 1000000000) : Rd (w.alloc (.cells l.toArray E)) sz (.slice (some ⟨w.heap.size, 0, none⟩) n n) n l (fun _ => True) :=
  ⟨hl, _, _, rfl, Nat.le_refl _, by unfold maxLen; omega, .inr ⟨_, 0, rfl, trivial, fun j _ => by rw [(Blk.new w l E).cell]; simp⟩⟩
#print axioms wpList_append_sl
end Go.Proofs.YtoegjmeoeefllaaGreatDoor
