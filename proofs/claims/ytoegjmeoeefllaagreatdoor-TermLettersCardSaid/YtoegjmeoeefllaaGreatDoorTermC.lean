/- Walks: slices.Clone; blank; copied. -/
import Derived.Test.YtoegjmeoeefllaaGreatDoorTermB
import Derived.WalkSpells
namespace Go.Proofs.YtoegjmeoeefllaaGreatDoor
open Go Go.RowKit
namespace T

theorem eiCell : EInfo Tryz.prog 29 32 3 32 (.agg #[.string ByteArray.empty, .int .i64 0, .bool false]) :=
  ⟨Tryz.underlying29, by kernel_rfl, rfl, by omega, by omega⟩

theorem eiByte : EInfo Tryz.prog 34 5 1 1 (.int .u8 0) := ⟨Tryz.underlying34, by kernel_rfl, rfl, by omega, by omega⟩
theorem eiRow : EInfo Tryz.prog 55 29 1 24 (.slice none 0 0) := ⟨Tryz.underlying55, by kernel_rfl, rfl, by omega, by omega⟩

theorem Sl.none' {w : World} {E sz : Nat} {F : Nat → Prop} (A : Option Addr) : Sl w E sz (.slice A 0 0) 0 [] F := ⟨by simp, .inl ⟨A, rfl, rfl⟩⟩

/-- slices.Clone, of a slice of cells: new memory. -/
theorem CloneCells_calls (w : World) (v : Value) (n : Nat) (cs : List Value) (G : Nat → Prop) (hr : Rd w 3 v n cs G) (h1 : ∀ u ∈ cs, u.oneCell' = true) (hn : n ≤ 1000000) :
    Calls Tryz.prog 26 #[v] w fun e w' => ∃ A' c', e = .returned (.slice A' n c') ∧ Sl w' 32 3 (.slice A' n c') n cs (fun b => w.heap.size ≤ b) ∧ Chg Non w w' := by
  obtain ⟨A, c, rfl, h2, h3⟩ := hr.shape
  have hnil := fun w => Lib.run_eql_slice_nil (P := Tryz.prog) w
  cases A with
  | none =>
    have h0 : n = 0 := hr.none_
    subst h0
    have hcs : cs = [] := List.eq_nil_of_length_eq_zero (by have := hr.1; omega)
    subst hcs
    go_enter Tryz.func26, Tryz.ntmps26
    go_wp2
    go_ret
    exact ⟨_, _, rfl, Sl.nil _ _ _ _, Chg.refl _ _⟩
  | some a =>
    have hr2 := hr.chg (Chg.alloc (Chg.refl Non w) (.cells #[] 32)) (fun _ _ _ h => h)
    go_enter Tryz.func26, Tryz.ntmps26
    go_wp2_with (refine wpList_append_sl (by rfl) _ _ 29 (by rfl) eiCell (F := fun b => w.heap.size ≤ b) (by rfl) (Sl.none' _) (by rfl) hr2 h1 (by omega) ?_; intro A' c' w1 hs1 hc1 hl1 hz1)
    go_ret
    simp only [Nat.zero_add, List.nil_append] at hs1
    refine ⟨_, _, rfl, ?_, ((Chg.refl Non w).alloc _).trans hc1 ?_⟩
    · exact hs1.mono (fun k _ hk => by rcases hk with hk | hk; exact hk; simp at hk; omega)
    · rintro b ⟨A', n', c', hv, hc0, _⟩
      injection hv with _ _ e; omega
/-- slices.Clone, of bytes: new memory. -/
theorem CloneBytes_calls (w : World) (v : Value) (n : Nat) (cs : List Value) (G : Nat → Prop) (hr : Rd w 1 v n cs G) (h1 : ∀ u ∈ cs, u.oneCell' = true) (hn : n ≤ 1000000) :
    Calls Tryz.prog 31 #[v] w fun e w' => ∃ A' c', e = .returned (.slice A' n c') ∧ Sl w' 5 1 (.slice A' n c') n cs (fun b => w.heap.size ≤ b) ∧ Chg Non w w' := by
  obtain ⟨A, c, rfl, h2, h3⟩ := hr.shape
  have hnil := fun w => Lib.run_eql_slice_nil (P := Tryz.prog) w
  cases A with
  | none =>
    have h0 : n = 0 := hr.none_
    subst h0
    have hcs : cs = [] := List.eq_nil_of_length_eq_zero (by have := hr.1; omega)
    subst hcs
    go_enter Tryz.func31, Tryz.ntmps31
    go_wp2
    go_ret
    exact ⟨_, _, rfl, Sl.nil _ _ _ _, Chg.refl _ _⟩
  | some a =>
    have hr2 := hr.chg (Chg.alloc (Chg.refl Non w) (.cells #[] 5)) (fun _ _ _ h => h)
    go_enter Tryz.func31, Tryz.ntmps31
    go_wp2_with (refine wpList_append_sl (by rfl) _ _ 34 (by rfl) eiByte (F := fun b => w.heap.size ≤ b) (by rfl) (Sl.none' _) (by rfl) hr2 h1 (by omega) ?_; intro A' c' w1 hs1 hc1 hl1 hz1)
    go_ret
    simp only [Nat.zero_add, List.nil_append] at hs1
    refine ⟨_, _, rfl, ?_, ((Chg.refl Non w).alloc _).trans hc1 ?_⟩
    · exact hs1.mono (fun k _ hk => by rcases hk with hk | hk; exact hk; simp at hk; omega)
    · rintro b ⟨A', n', c', hv, hc0, _⟩
      injection hv with _ _ e; omega
/-- slices.Clone, of rows: new memory. -/
theorem CloneRows_calls (w : World) (v : Value) (n : Nat) (cs : List Value) (G : Nat → Prop) (hr : Rd w 1 v n cs G) (h1 : ∀ u ∈ cs, u.oneCell' = true) (hn : n ≤ 1000000) :
    Calls Tryz.prog 63 #[v] w fun e w' => ∃ A' c', e = .returned (.slice A' n c') ∧ Sl w' 29 1 (.slice A' n c') n cs (fun b => w.heap.size ≤ b) ∧ Chg Non w w' := by
  obtain ⟨A, c, rfl, h2, h3⟩ := hr.shape
  have hnil := fun w => Lib.run_eql_slice_nil (P := Tryz.prog) w
  cases A with
  | none =>
    have h0 : n = 0 := hr.none_
    subst h0
    have hcs : cs = [] := List.eq_nil_of_length_eq_zero (by have := hr.1; omega)
    subst hcs
    go_enter Tryz.func63, Tryz.ntmps63
    go_wp2
    go_ret
    exact ⟨_, _, rfl, Sl.nil _ _ _ _, Chg.refl _ _⟩
  | some a =>
    have hr2 := hr.chg (Chg.alloc (Chg.refl Non w) (.cells #[] 29)) (fun _ _ _ h => h)
    go_enter Tryz.func63, Tryz.ntmps63
    go_wp2_with (refine wpList_append_sl (by rfl) _ _ 55 (by rfl) eiRow (F := fun b => w.heap.size ≤ b) (by rfl) (Sl.none' _) (by rfl) hr2 h1 (by omega) ?_; intro A' c' w1 hs1 hc1 hl1 hz1)
    go_ret
    simp only [Nat.zero_add, List.nil_append] at hs1
    refine ⟨_, _, rfl, ?_, ((Chg.refl Non w).alloc _).trans hc1 ?_⟩
    · exact hs1.mono (fun k _ hk => by rcases hk with hk | hk; exact hk; simp at hk; omega)
    · rintro b ⟨A', n', c', hv, hc0, _⟩
      injection hv with _ _ e; omega

theorem RowsIn.nil (w : World) (F : Nat → Prop) : RowsIn w [] [] [] F := ⟨rfl, rfl, fun k hk => by simp at hk⟩
theorem RowsIn.snoc {w : World} {rows : List (List Cell)} {vs : List Value} {bs : List Nat} {F : Nat → Prop} (h : RowsIn w rows vs bs F) {r : List Cell} {u : Value} {b : Nat} (hat : SlAt w 32 3 u r.length (flat r) b) (hF : F b) :
    RowsIn w (rows ++ [r]) (vs ++ [u]) (bs ++ [b]) F := by
  obtain ⟨h1, h2, h3⟩ := h
  refine ⟨by simp [h1], by simp [h2], fun k hk => ?_⟩
  rw [List.length_append, List.length_singleton] at hk
  by_cases e : k < rows.length
  · obtain ⟨u', b', e1, e2, e3, e4⟩ := h3 k e
    refine ⟨u', b', by rw [List.getElem?_append_left (by omega)]; exact e1, by rw [List.getElem?_append_left (by omega)]; exact e2, ?_, e4⟩
    have : rowAt (rows ++ [r]) k = rowAt rows k := by simp [rowAt, List.getD, List.getElem?_append_left e]
    rw [this]; exact e3
  · have e : k = rows.length := by omega
    subst e
    refine ⟨u, b, by rw [List.getElem?_append_right (by omega), h1]; simp, by rw [List.getElem?_append_right (by omega), h2]; simp, ?_, hF⟩
    have : rowAt (rows ++ [r]) rows.length = r := by simp [rowAt]
    rw [this]; exact hat
theorem RowsIn.chgT {w w' : World} {rows : List (List Cell)} {vs : List Value} {bs : List Nat} {F G : Nat → Prop} (h : RowsIn w rows vs bs F) (hc : Chg G w w') (hn : ∀ b l, F b → Blk w b l 32 → ¬ G b) : RowsIn w' rows vs bs F :=
  h.chg hc (fun b hb => by obtain ⟨l, hl⟩ := h.blk hb; exact hn b l (h.F hb) hl)
theorem RowsIn.lt {w : World} {rows : List (List Cell)} {vs : List Value} {bs : List Nat} {F : Nat → Prop} (h : RowsIn w rows vs bs F) {b : Nat} (hb : b ∈ bs) : b < w.heap.size := by obtain ⟨l, hl⟩ := h.blk hb; exact hl.lt
theorem rowAt_take {rows : List (List Cell)} {k : Nat} (hk : k < rows.length) : rows.take (k + 1) = rows.take k ++ [rowAt rows k] := by
  rw [List.take_succ_eq_append_getElem hk]; simp [rowAt, hk]

/-- What a row more does to what was gathered. -/
theorem gather {w wr w1 w2 : World} {v v' u : Value} {k : Nat} {rows : List (List Cell)} {vs : List Value} {bs : List Nat} (hk : k < rows.length)
    (hs : Sl wr 29 1 v k vs (fun b => w.heap.size ≤ b)) (hr : RowsIn wr (rows.take k) vs bs (fun b => w.heap.size ≤ b)) (hnd : bs.Nodup) (hc : Chg Non w wr)
    (hu : Sl w1 32 3 u (rowAt rows k).length (flat (rowAt rows k)) (fun b => wr.heap.size ≤ b)) (hpos : 0 < (rowAt rows k).length) (hc1 : Chg Non wr w1)
    (hs2 : Sl w2 29 1 v' (k + 1) (vs ++ [u]) (fun b => w.heap.size ≤ b ∨ b = w1.heap.size + 1)) (hc2 : Chg (wbk v) (w1.alloc (.cells #[u] 29)) w2) :
    ∃ bs', Sl w2 29 1 v' (k + 1) (vs ++ [u]) (fun b => w.heap.size ≤ b) ∧ RowsIn w2 (rows.take (k + 1)) (vs ++ [u]) bs' (fun b => w.heap.size ≤ b) ∧ bs'.Nodup ∧ Chg Non w w2 := by
  obtain ⟨b, hb, hat⟩ := hu.pos hpos
  have hsz := hc.size
  have hsz1 := hc1.size
  have h1 := (hs.chg hc1 (fun _ _ h => h)).chg (Chg.alloc (Chg.refl Non w1) (.cells #[u] 29)) (fun _ _ h => h)
  have hr1 := ((hr.chg hc1 (fun _ _ h => h)).chg (Chg.alloc (Chg.refl Non w1) (.cells #[u] 29)) (fun _ _ h => h))
  have hat1 := hat.chg (Chg.alloc (Chg.refl Non w1) (.cells #[u] 29)) (fun h => h)
  have hat2 := hat1.chg hc2 (fun hw => by obtain ⟨_, _, l, _, hl, _⟩ := hat1; have := h1.wbT hw hl; revert this; decide)
  have hr2 := hr1.chgT hc2 (fun b l _ hl hw => by have := h1.wbT hw hl; revert this; decide)
  refine ⟨bs ++ [b], hs2.mono (fun x _ hx => by rcases hx with hx | hx <;> omega), ?_, ?_, ?_⟩
  · rw [rowAt_take hk]; exact hr2.snoc hat2 (by omega)
  · rw [List.nodup_append]
    refine ⟨hnd, by simp, fun x hx y hy e => ?_⟩
    have := hr.lt hx
    simp at hy; omega
  · exact ((hc.thenN hc1).alloc _).trans hc2 (fun x hx => .inr (h1.wbF' hx))

set_option maxHeartbeats 400000 in
/-- copied: rows of their own. -/
theorem copied_calls (w : World) (v : Value) (rows : List (List Cell)) (vs : List Value) (bs : List Nat) (F G : Nat → Prop) (hs : Rd w 1 v rows.length vs G) (hrows : RowsIn w rows vs bs F) (hn : rows.length ≤ 1000000)
    (hlen : ∀ k, k < rows.length → 0 < (rowAt rows k).length ∧ (rowAt rows k).length ≤ 1000000) :
    Calls Tryz.prog 30 #[v] w fun e w' => ∃ A' c' vs' bs', e = .returned (.slice A' rows.length c') ∧ Sl w' 29 1 (.slice A' rows.length c') rows.length vs' (fun b => w.heap.size ≤ b) ∧ RowsIn w' rows vs' bs' (fun b => w.heap.size ≤ b) ∧ bs'.Nodup ∧ Chg Non w w' := by
  obtain ⟨A, c, rfl, h2, h3⟩ := hs.shape
  unfold maxLen at h3
  have Hs := Lib.hid hs
  have Hr := Lib.hid hrows
  have Hl := Lib.hid hlen
  clear hs hrows hlen
  go_enter Tryz.func30, Tryz.ntmps30
  go_wp2
  go_loopw [3, 8] (fun u i wr => ∃ k : Nat, i = .int .i64 k ∧ k ≤ rows.length ∧ ∃ vs' bs', Sl wr 29 1 u k vs' (fun b => w.heap.size ≤ b) ∧ RowsIn wr (rows.take k) vs' bs' (fun b => w.heap.size ≤ b) ∧ bs'.Nodup ∧ Chg Non w wr) (fun _ i _ => rows.length - (intOf i).toNat)
  case atStart => exact ⟨0, rfl, Nat.zero_le _, [], [], Sl.nil _ _ _ _, RowsIn.nil _ _, List.nodup_nil, Chg.refl _ _⟩
  case round =>
    obtain ⟨k, rfl, hk, vs', bs', hs1, hr1, hnd, hc⟩ := hrel
    by_cases hlt : k < rows.length
    · obtain ⟨lb, lo, rfl, hG, hcell⟩ := Hs.out.pos (by omega)
      obtain ⟨u, b, e1, e2, hat, hF⟩ := Hr.out.2.2 k hlt
      have c1 : wr.cell? ⟨lb, lo + k, none⟩ = some u := hc.cell (by rw [hcell k (by omega), e1]) (fun h => h)
      have hat2 := (hat.chg hc (fun h => h)).rd (G := fun _ => True) trivial
      have hlk := Hl.out k hlt
      have Hcell := Lib.hid hcell
      have He := Lib.hid e1
      clear hcell e1 e2 hat
      go_wp2_with fail
      refine (CloneCells_calls _ _ _ _ _ hat2 (flat_one _) hlk.2).mono ?_; rintro e w1 ⟨Au, cu, rfl, hu, hc1⟩
      have hs2 := (hs1.chg hc1 (fun _ _ h => h)).chg (Chg.alloc (Chg.refl Non w1) (.cells #[.slice Au (rowAt rows k).length cu] 29)) (fun _ _ h => h)
      have hnew : Rd (w1.alloc (.cells #[.slice Au (rowAt rows k).length cu] 29)) 1 (.slice (some ⟨w1.heap.size, 0, none⟩) 1 1) 1 [.slice Au (rowAt rows k).length cu] (fun _ => True) := Rd.new _ [_] _ _ (by simp) (by omega)
      go_wp2_with (refine wpList_append_sl (by rfl) _ _ 55 (by rfl) eiRow (by rfl) hs2 (by rfl) hnew (by simp [Value.oneCell']) (by omega) ?_; intro A3 c3 w2 hs3 hc2 hl2 hz2)
      obtain ⟨bs2, g1, g2, g3, g4⟩ := gather hlt hs1 hr1 hnd hc hu hlk.1 hc1 (by simpa using hs3) hc2
      go_wp2
      go_roundw
      case rel => exact ⟨k + 1, by go_num, by omega, _, _, g1, g2, g3, g4⟩
      case measure => simp [intOf]; omega
    · have e : k = rows.length := by omega
      subst e
      obtain ⟨A', c', rfl, _, _⟩ := hs1.shape
      go_wp2
      go_ret
      exact ⟨_, _, _, _, rfl, hs1, by simpa using hr1, hnd, hc⟩
end T
end Go.Proofs.YtoegjmeoeefllaaGreatDoor
