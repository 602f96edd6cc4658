/- Walks: alive. -/
import Derived.Test.YtoegjmeoeefllaaGreatDoorTermZ
import Derived.Lib.SlBytesConst
namespace Go.Proofs.YtoegjmeoeefllaaGreatDoor
open Go Go.RowKit
namespace T
attribute [local go_sem high] run_max_2 run_min_2
attribute [local go_sem ↓] Go.wp_at_zero Go.wp_at_succ

def aT1 : Term := feedR (New 2 3) [97, 98, 27, 91, 50, 109, 99]
def aT2 : Term := feedR aT1 [100]
def aT3 : Term := feedR aT2 [10, 13, 27, 91, 65, 27, 91, 75]
def aT4 : Term := resizeR aT3 1 1
def cellOf (s : List UInt8) (wide : Int) (dim : Bool) : Cell := ⟨⟨s.toArray⟩, wide, dim⟩
theorem f1' : (feedR (New 2 3) [97, 98, 27, 91, 50, 109, 99]).full = true := by kernel_rfl
theorem f2 : aT2.row = 1 ∧ aT2.col = 1 ∧ aT2.off = 0 := by refine ⟨?_, ?_, ?_⟩ <;> kernel_rfl
theorem f3 : rowOf aT2.l 0 = [cellOf [97] 1 false, cellOf [98] 1 false, cellOf [99] 1 true] := by kernel_rfl
theorem f4 : aT3.l.length = 2 ∧ aT3.cols = 3 := by refine ⟨?_, ?_⟩ <;> kernel_rfl
theorem f5 : rowOf aT3.gone (0 - (aT3.off - aT3.gone.length)) = [cellOf [97] 1 false, cellOf [98] 1 false, cellOf [99] 1 true] := by kernel_rfl
theorem f6 : aT4.off = 1 ∧ (rowOf aT4.l 0).length = 1 := by refine ⟨?_, ?_⟩ <;> kernel_rfl

/-- New memory is read: its block. -/
theorem rd_new (w : World) (l : List Value) (E sz : Nat) {n : Nat} (hl : l.length = n * sz) (hn : n ≤ 1000000000) : Rd (w.alloc (.cells l.toArray E)) sz (.slice (some ⟨w.heap.size, 0, none⟩) n n) n l (fun b => b = w.heap.size) :=
  ⟨hl, _, _, rfl, Nat.le_refl _, by unfold maxLen; omega, .inr ⟨_, 0, rfl, rfl, fun j _ => by rw [(Blk.new w l E).cell]; simp⟩⟩
theorem rd_marked (w : World) (l : List Value) (E sz : Nat) (f : Nat × Nat) {n : Nat} (hl : l.length = n * sz) (hn : n ≤ 1000000000) : Rd (w.alloc (.cells l.toArray E f)) sz (.slice (some ⟨w.heap.size, 0, none⟩) n n) n l (fun b => b = w.heap.size) :=
  ⟨hl, _, _, rfl, Nat.le_refl _, by unfold maxLen; omega, .inr ⟨_, 0, rfl, rfl, fun j _ => by
    have e : (w.alloc (.cells l.toArray E f)).heap[w.heap.size]? = some (.cells l.toArray E f) := heap_alloc_new w _
    rw [cell_of_row _ _ _ _ _ _ e]; simp⟩⟩
/-- Feed, of bytes that have just been laid. -/
theorem feed_new {W w : World} {p : Nat} {t : Term} {F : Nat → Prop} {o n : Nat} (h : Live W w p t F) (hk : Fed o n t) (l : List Int) {m : Nat} (hm : l.length = m) (ho : o + 8 * m ≤ 1000000) (hn : n + 16 * m ≤ 10000000) (hl : ∀ x ∈ l, 0 ≤ x ∧ x < 256) :
    Calls Tryz.prog 17 #[.pointer (some ⟨p, 0, none⟩), .slice (some ⟨w.heap.size, 0, none⟩) m m] (w.alloc (.cells (l.map (Value.int .u8)).toArray 5 (m, m + 1))) fun e w' => e = .returned (.tuple #[]) ∧
      ∃ F', Live W w' p (feedR t l) F' ∧ Chg F w w' ∧ ∀ b, F' b → F b ∨ w.heap.size ≤ b := by
  have h1 := h.non ((Chg.refl Non w).alloc (.cells (l.map (Value.int .u8)).toArray 5 (m, m + 1)))
  refine (feed_live h1 hk ho hn hl (rd_marked w (l.map (Value.int .u8)) 5 1 (m, m + 1) (n := m) (by simp [hm]) (by omega)) (fun b hb hf => by have := h.1.lt b hf; omega)).mono ?_
  rintro e w' ⟨rfl, F', h2, h3, h4⟩
  exact ⟨rfl, F', h2, ((Chg.refl F w).alloc _).then h3, fun b hb => by rcases h4 b hb with h5 | h5; exact .inl h5; (rw [World.size_alloc] at h5; exact .inr (by omega))⟩
theorem Ok.rowLen {o n : Nat} {t : Term} (h : Ok o n t) {j : Nat} (hj : j < t.l.length) : (rowAt t.l j).length = t.cols := (h.rowOk hj).2.1
theorem Ok.goneLen {o n : Nat} {t : Term} (h : Ok o n t) {j : Nat} (hj : j < t.gone.length) : 1 ≤ (rowAt t.gone j).length ∧ (rowAt t.gone j).length ≤ 120 := h.gone _ (rowAt_mem hj)
theorem row_live {W w : World} {p : Nat} {t : Term} {F : Nat → Prop} {o n : Nat} (h : Live W w p t F) (hk : Ok o n t) (k : Int) :
    Calls Tryz.prog 14 #[.pointer (some ⟨p, 0, none⟩), .int .i64 k] w fun e w' => ∃ A' c', e = .returned (.slice A' (rowOf t.l k).length c') ∧
      Sl w' 32 3 (.slice A' (rowOf t.l k).length c') (rowOf t.l k).length (flat (rowOf t.l k)) (fun b => w.heap.size ≤ b ∧ b < w'.heap.size) ∧ Chg Non w w' := by
  refine (Row_calls h.1 k (fun j hj => by rw [hk.rowLen hj]; have := hk.c1; omega)).mono ?_
  rintro e w' ⟨A', c', rfl, h1, h2⟩
  exact ⟨A', c', rfl, h1.mono (fun b h3 h4 => ⟨h4, h3⟩), h2⟩
theorem gone_live {W w : World} {p : Nat} {t : Term} {F : Nat → Prop} {o n : Nat} (h : Live W w p t F) (hk : Ok o n t) (ho : o ≤ 1000000000) (k : Int) (hk2 : -1000000000 ≤ k ∧ k ≤ 1000000000) :
    Calls Tryz.prog 22 #[.pointer (some ⟨p, 0, none⟩), .int .i64 k] w fun e w' => ∃ A' c', e = .returned (.slice A' (rowOf t.gone (k - (t.off - t.gone.length))).length c') ∧
      Sl w' 32 3 (.slice A' (rowOf t.gone (k - (t.off - t.gone.length))).length c') (rowOf t.gone (k - (t.off - t.gone.length))).length (flat (rowOf t.gone (k - (t.off - t.gone.length)))) (fun b => w.heap.size ≤ b ∧ b < w'.heap.size) ∧ Chg Non w w' := by
  refine (Gone_calls h.1 k (fun j hj => by have := hk.goneLen hj; omega) ⟨hk.off.1, by have := hk.off.2; omega⟩ (by have := hk.g; omega) hk2).mono ?_
  rintro e w' ⟨A', c', rfl, h1, h2⟩
  exact ⟨A', c', rfl, h1.mono (fun b h3 h4 => ⟨h4, h3⟩), h2⟩
theorem copy_live {W w : World} {p : Nat} {t : Term} {F : Nat → Prop} {o n : Nat} (h : Live W w p t F) (hk : Ok o n t) :
    Calls Tryz.prog 18 #[.pointer (some ⟨p, 0, none⟩)] w fun e w' => ∃ q, e = .returned (.pointer (some ⟨q, 0, none⟩)) ∧ Live W w' q t (fun b => w.heap.size ≤ b ∧ b < w'.heap.size) ∧ Chg Non w w' := by
  refine (Copy_calls h.1 (by have := hk.l1; omega) (by have := hk.g; omega) (by have := hk.b; omega) (fun j hj => by rw [hk.rowLen hj]; have := hk.c0; have := hk.c1; omega) (fun j hj => by have := hk.goneLen hj; omega)).mono ?_
  rintro e w' ⟨q, rfl, h1, h2⟩
  have hs := h.2.2.1.size
  exact ⟨q, rfl, ⟨h1, fun b hb => by omega, h.2.2.1.thenN h2, h.2.2.2⟩, h2⟩
theorem new_live (W w : World) (hW : Chg Non W w) (hG : Glob W) (r c : Int) :
    Calls Tryz.prog 16 #[.int .i64 r, .int .i64 c] w fun e w' => ∃ p, e = .returned (.pointer (some ⟨p, 0, none⟩)) ∧ Live W w' p (New r c) (fun b => w.heap.size ≤ b ∧ b < w'.heap.size) ∧ Chg Non w w' := by
  refine (New_calls r c w).mono ?_
  rintro e w' ⟨p, rfl, h1, h2⟩
  have hs := hW.size
  exact ⟨p, rfl, ⟨h1, fun b hb => by omega, hW.thenN h2, hG⟩, h2⟩
/-- One cell of a row that is read. -/
theorem sl_cell3 {w : World} {A : Option Addr} {n c : Nat} {r : List Cell} {F : Nat → Prop} (h : Sl w 32 3 (.slice A n c) n (flat r) F) (hr : r.length = n) {k : Nat} (hk : k < n) : ∃ b o, A = some ⟨b, o, none⟩ ∧ F b ∧
    w.cell? ⟨b, o + k * 3, none⟩ = some (.string (cellAt r k).s) ∧ w.cell? ⟨b, o + k * 3 + 1, none⟩ = some (.int .i64 (cellAt r k).wide) ∧ w.cell? ⟨b, o + k * 3 + 2, none⟩ = some (.bool (cellAt r k).dim) := by
  obtain ⟨b, hF, hat⟩ := h.pos (by omega)
  obtain ⟨o, cap, hv, _, _, hcell⟩ := hat.cells
  injection hv with e1 _ e3
  subst e1
  exact ⟨b, o, rfl, hF, Rd.cellC hcell hk hr 0 _ rfl, Rd.cellC hcell hk hr 1 _ rfl, Rd.cellC hcell hk hr 2 _ rfl⟩

set_option maxRecDepth 100000 in
set_option maxHeartbeats 2000000 in
theorem alive_calls (w : World) (hG : Glob w) : Calls Tryz.prog 11 #[] w fun e w' => e = .returned (.bool true) ∧ Chg Non w w' := by
  have hN := new_live w w (Chg.refl _ _) hG 2 3
  have K0 := Fed.new 2 3
  have kc := fun (w : World) (C : Array Value) (n c : Nat) => Lib.run_convert_bytes_const (P := Tryz.prog) w 34 5 C n c Tryz.underlying34 Tryz.underlying5
  have K1 : Fed 56 112 aT1 := (Fed.feed [97, 98, 27, 91, 50, 109, 99] K0).mono (by decide) (by decide)
  have K2 : Fed 64 128 aT2 := (Fed.feed [100] K1).mono (by decide) (by decide)
  have K3 : Fed 128 256 aT3 := (Fed.feed [10, 13, 27, 91, 65, 27, 91, 75] K2).mono (by decide) (by decide)
  have K4 : Fed 188 256 aT4 := (Fed.resize K3 1 1).mono (by decide) (by decide)
  go_enter Tryz.func11, Tryz.ntmps11
  go_wp2_with fail
  refine hN.mono ?_
  rintro e w1 ⟨p, rfl, L1, hc1⟩
  clear hN
  have hF1 := feed_new L1 K0 [97, 98, 27, 91, 50, 109, 99] (m := 7) rfl (by decide) (by decide) (by decide)
  clear L1
  go_wp2_with fail
  refine hF1.mono ?_
  rintro e w2 ⟨rfl, F2, L2, hc2, hN2⟩
  have hFull := Full_calls L2.1
  rw [f1'] at hFull
  go_wp2_with fail
  refine hFull.mono ?_
  rintro e w3 ⟨rfl, hc3⟩
  have L3 := L2.non hc3
  have hF2 := feed_new L3 K1 [100] (m := 1) rfl (by decide) (by decide) (by decide)
  clear L2 hFull hF1 L3
  go_wp2_with fail
  refine hF2.mono ?_
  rintro e w4 ⟨rfl, F4, L4, hc4, hN4⟩
  have hCur := Cursor_calls L4.1
  have hF4lt := L4.1.lt
  rw [show feedR (feedR (New 2 3) [97, 98, 27, 91, 50, 109, 99]) [100] = aT2 from rfl] at L4 hCur
  rw [f2.1, f2.2.1] at hCur
  clear hF2
  go_wp2_with fail
  refine hCur.mono ?_
  rintro e w5 ⟨rfl, hc5⟩
  have L5 := L4.non hc5
  have hRow := row_live L5 K2.ok 0
  rw [f3] at hRow
  clear L4 hCur
  go_wp2_with fail
  refine hRow.mono ?_
  rintro e w6 ⟨A6, c6, rfl, hs6, hc6⟩
  have L6 := L5.non hc6
  have hCopy := copy_live L6 K2.ok
  clear hRow
  go_wp2_with fail
  refine hCopy.mono ?_
  rintro e w7 ⟨q, rfl, Q7, hc7⟩
  have L7 := L6.non hc7
  have hF3 := feed_new L7 K2 [10, 13, 27, 91, 65, 27, 91, 75] (m := 8) rfl (by decide) (by decide) (by decide)
  clear hCopy
  go_wp2_with fail
  refine hF3.mono ?_
  rintro e w8 ⟨rfl, F8, L8, hc8, hN8⟩
  rw [show feedR aT2 [10, 13, 27, 91, 65, 27, 91, 75] = aT3 from rfl] at L8
  have hF8lt := L8.1.lt
  have Q8 := Q7.chg hc8 (fun b hb hf => by have := hF4lt b hf; have := hc5.size; have := hc6.size; omega) (fun b hb => L7.2.1 b hb)
  have hSize := Size_calls L8.1
  rw [f4.1, f4.2] at hSize
  clear hF3
  go_wp2_with fail
  refine hSize.mono ?_
  rintro e w9 ⟨rfl, hc9⟩
  have L9 := L8.non hc9
  have Q9 := Q8.non hc9
  have hGone := gone_live L9 K3.ok (by omega) 0 (by omega)
  rw [f5] at hGone
  clear hSize L8 Q8
  go_wp2_with fail
  refine hGone.mono ?_
  rintro e w10 ⟨A10, c10, rfl, hs10, hc10⟩
  have L10 := L9.non hc10
  have Q10 := Q9.non hc10
  have hRs := resize_live L10 K3 (by omega) 1 1
  clear hGone L9 Q9
  go_wp2_with fail
  refine hRs.mono ?_
  rintro e w11 ⟨rfl, F11, L11, hc11, hN11⟩
  rw [show resizeR aT3 1 1 = aT4 from rfl] at L11
  have s5 := hc5.size
  have s4 := L5.1.lt
  have s6 := hc6.size
  have s7 := hc7.size
  have s8 := hc8.size
  have s9 := hc9.size
  have s10 := hc10.size
  have Q11 := Q10.chg hc11 (fun b hb hf => by
    rcases hN8 b hf with h1 | h1
    · have := hF4lt b h1; omega
    · omega) L10.2.1
  have r6 := ((((hs6.chg hc7 (fun _ _ h => h)).chg hc8 (fun b hb hf => by have := hF4lt b hf; omega)).chg hc9 (fun _ _ h => h)).chg hc10 (fun _ _ h => h)).chg hc11 (fun b hb hf => by
    rcases hN8 b hf with h1 | h1
    · have := hF4lt b h1; omega
    · omega)
  have r10 := hs10.chg hc11 (fun b hb hf => by have := hF8lt b hf; omega)
  obtain ⟨b6, o6, rfl, _, x0, x1, x2⟩ := sl_cell3 r6 rfl (k := 1) (by decide)
  obtain ⟨b6', o6', e6, _, y0, y1, y2⟩ := sl_cell3 r6 rfl (k := 2) (by decide)
  injection e6 with e6; injection e6 with e6 e6' _; subst e6 e6'
  obtain ⟨b10, o10, rfl, _, z0, _, _⟩ := sl_cell3 r10 rfl (k := 0) (by decide)
  have x0' : w11.cell? ⟨b6, o6 + 3, none⟩ = some (.string ⟨#[98]⟩) := x0
  have x1' : w11.cell? ⟨b6, o6 + 3 + 1, none⟩ = some (.int .i64 1) := x1
  have x2' : w11.cell? ⟨b6, o6 + 3 + 2, none⟩ = some (.bool false) := x2
  have y0' : w11.cell? ⟨b6, o6 + 6, none⟩ = some (.string ⟨#[99]⟩) := y0
  have y1' : w11.cell? ⟨b6, o6 + 6 + 1, none⟩ = some (.int .i64 1) := y1
  have y2' : w11.cell? ⟨b6, o6 + 6 + 2, none⟩ = some (.bool true) := y2
  have z0' : w11.cell? ⟨b10, o10, none⟩ = some (.string ⟨#[97]⟩) := z0
  have hOff := Off_calls L11.1
  rw [f6.1] at hOff
  clear r6 r10 x0 x1 x2 y0 y1 y2 z0 hs6 hs10 hRs L10 Q10 hF4lt hF8lt s5 s6 s7 s8 s9 s10 hN8 hN11 hN2 hN4
  go_wp2_with fail
  refine hOff.mono ?_
  rintro e w12 ⟨rfl, hc12⟩
  have L12 := L11.non hc12
  have Q12 := Q11.non hc12
  have z0'' := hc12.cell z0' (fun h => h)
  have hOffQ := Off_calls Q12.1
  rw [f2.2.2] at hOffQ
  clear hOff x0' x1' x2' y0' y1' y2' z0'
  go_wp2_with fail
  refine hOffQ.mono ?_
  rintro e w13 ⟨rfl, hc13⟩
  have L13 := L12.non hc13
  have hbl : ∀ w, (binOp .eql 32 (.agg (flatC Blank).toArray) (.agg #[.string ⟨#[32]⟩, .int .i64 1, .bool false])).run Tryz.prog w = .ok (.bool true) w := fun w => (eqlCell Blank Blank w).trans (by rw [decide_eq_true rfl])
  clear hOffQ
  go_wp2_with fail
  refine (Blank_calls w13).mono ?_
  rintro e w14 ⟨rfl, hc14⟩
  have L14 := L13.non hc14
  have hRow4 := row_live L14 K4.ok 0
  rw [f6.2] at hRow4
  go_wp2_with fail
  refine hRow4.mono ?_
  rintro e w15 ⟨A15, c15, rfl, _, hc15⟩
  go_wp2_with fail
  go_ret
  exact ⟨rfl, (L14.non hc15).2.2.1⟩
end T
end Go.Proofs.YtoegjmeoeefllaaGreatDoor
