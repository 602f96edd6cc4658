/- Walks: what the laws share: Old, Same, few. -/
import Derived.Test.YtoegjmeoeefllaaGreatDoorTermX
import Derived.Laws.StructEq
import Derived.Deep.MidRow
namespace Go.Proofs.YtoegjmeoeefllaaGreatDoor
open Go Go.RowKit
namespace T
attribute [local go_sem high] run_max_2 run_min_2
attribute [local go_sem ↓] Go.wp_at_zero Go.wp_at_succ

theorem cell_eq (c d : Cell) : decide (c = d) = (decide (c.s.toList = d.s.toList) && decide (c.wide = d.wide) && decide (c.dim = d.dim)) := by
  have e : c = d ↔ c.s.toList = d.s.toList ∧ c.wide = d.wide ∧ c.dim = d.dim := by
    constructor
    · rintro rfl; exact ⟨rfl, rfl, rfl⟩
    · rintro ⟨h1, h2, h3⟩
      obtain ⟨a, b, x⟩ := c
      obtain ⟨a', b', x'⟩ := d
      simp only at h1 h2 h3
      rw [ByteArray.toList_eq, ByteArray.toList_eq] at h1
      have : a = a' := by
        apply ByteArray.ext
        exact Array.toList_inj.1 h1
      subst this; subst h2; subst h3; rfl
  rw [Bool.eq_iff_iff]
  simp [e, and_assoc]

theorem part0 (c : Cell) (w : World) : (part 9 (flatC c).toArray 0).run Tryz.prog w = .ok (.string c.s) w := by kernel_rfl
theorem part1 (c : Cell) (w : World) : (part 3 (flatC c).toArray 1).run Tryz.prog w = .ok (.int .i64 c.wide) w := by kernel_rfl
theorem part2 (c : Cell) (w : World) : (part 4 (flatC c).toArray 2).run Tryz.prog w = .ok (.bool c.dim) w := by kernel_rfl
theorem eqF (c d : Cell) (w : World) : (Op.eqFields 9999 (flatC c).toArray (flatC d).toArray
        [{ name := "S", type := 9, offset := 0, embedded := false, tag := "", pkgPath := "", byteOffset := 0 },
          { name := "Wide", type := 3, offset := 1, embedded := false, tag := "", pkgPath := "", byteOffset := 16 },
          { name := "Dim", type := 4, offset := 2, embedded := false, tag := "", pkgPath := "", byteOffset := 24 }]).run Tryz.prog w = .ok (decide (c = d)) w := by
  rw [cell_eq]
  have b1 : (c.s.toList == d.s.toList) = decide (c.s.toList = d.s.toList) := by rw [Bool.eq_iff_iff]; simp
  have b2 : (c.wide == d.wide) = decide (c.wide = d.wide) := by rw [Bool.eq_iff_iff]; simp
  have b3 : (c.dim == d.dim) = decide (c.dim = d.dim) := by rw [Bool.eq_iff_iff]; simp
  simp only [Op.eqFields, Sem.run_bind, part0, part1, part2, Result.andThen_ok, run_equalIn_string w 9998 9 _ _ Tryz.underlying9, run_equalIn_int w 9998 3 .i64 .i64 _ _ Tryz.underlying3, run_equalIn_bool' w 9998 4 _ _ Tryz.underlying4, b1, b2, b3, Sem.run_ite, Sem.run_pure]
  by_cases h1 : c.s.toList = d.s.toList <;> by_cases h2 : c.wide = d.wide <;> by_cases h3 : c.dim = d.dim <;> simp [h1, h2, h3]
theorem eqlC (t : TypeId) (ht : t = 32 ∨ t = 63) (c d : Cell) (w : World) : (Op.equalIn 10000 t (.agg (flatC c).toArray) (.agg (flatC d).toArray)).run Tryz.prog w = .ok (decide (c = d)) w := by
  rcases ht with rfl | rfl
  · rw [run_equalIn_struct w 9999 32 _ _ (by simp only [Program.fieldsOf, Tryz.underlying32]) (by kernel_rfl)]
    simp only [Program.fieldsOf, Tryz.underlying32]
    exact eqF c d w
  · rw [run_equalIn_struct w 9999 63 _ _ (by simp only [Program.fieldsOf, Tryz.underlying63]) (by kernel_rfl)]
    simp only [Program.fieldsOf, Tryz.underlying63]
    exact eqF c d w
theorem eqlCell (c d : Cell) (w : World) : (binOp .eql 32 (.agg (flatC c).toArray) (.agg (flatC d).toArray)).run Tryz.prog w = .ok (.bool (decide (c = d))) w := by
  rw [run_eql_struct, eqlC _ (.inl rfl)]; rfl
theorem neqCell (c d : Cell) (w : World) : (binOp .neq 32 (.agg (flatC c).toArray) (.agg (flatC d).toArray)).run Tryz.prog w = .ok (.bool (!decide (c = d))) w := by
  rw [run_neq_struct, eqlC _ (.inl rfl)]; rfl
theorem neqRef (c d : Cell) (w : World) : (binOp .neq 63 (.agg (flatC c).toArray) (.agg (flatC d).toArray)).run Tryz.prog w = .ok (.bool (!decide (c = d))) w := by
  rw [run_neq_struct, eqlC _ (.inr rfl)]; rfl
theorem szRef : (Tryz.prog.info? 63).map (·.size) = some 3 := by kernel_rfl
theorem eiRef : EInfo Tryz.prog 39 63 3 32 (.agg #[.string ByteArray.empty, .int .i64 0, .bool false]) :=
  ⟨Tryz.underlying39, by kernel_rfl, rfl, by omega, by omega⟩

/-- A cell of a slice that is read, for a walk. -/
theorem Rd.cellC {w : World} {b o n : Nat} {r : List Cell} (h : ∀ j, j < n * 3 → w.cell? ⟨b, o + j, none⟩ = (flat r)[j]?) {k : Nat} (hk : k < n) (hr : r.length = n) : w.rangeAt b (o + k * 3) (flatC (cellAt r k)) := fun j v hj => by
  have hj3 : j < 3 := by
    have := (List.getElem?_eq_some_iff.1 hj).1
    exact this
  rw [Nat.add_assoc, h _ (by omega)]
  obtain ⟨e1, e2, e3⟩ := flat_at r k (by omega)
  match j, hj3 with
  | 0, _ => rw [Nat.add_zero, e1]; exact hj
  | 1, _ => rw [e2]; exact hj
  | 2, _ => rw [e3]; exact hj

/-- Old: cells, as the document has them. -/
theorem Old_calls (w : World) (v : Value) (r : List Cell) (G : Nat → Prop) (hr : Rd w 3 v r.length (flat r) G) (hn : r.length ≤ 1000000) :
    Calls Tryz.prog 20 #[v] w fun e w' => ∃ A' c', e = .returned (.slice A' r.length c') ∧ Sl w' 63 3 (.slice A' r.length c') r.length (flat r) (fun b => w.heap.size ≤ b) ∧ Chg Non w w' := by
  obtain ⟨A, c, rfl, h2, h3⟩ := hr.shape
  unfold maxLen at h3
  have HR := Lib.hid hr
  clear hr
  go_enter Tryz.func20, Tryz.ntmps20
  go_wp2_with fail
  go_loopw [3, 8] (fun u i wr => ∃ k : Nat, i = .int .i64 k ∧ k ≤ r.length ∧ Sl wr 63 3 u k (flat (r.take k)) (fun b => w.heap.size ≤ b) ∧ Chg Non w wr) (fun _ i _ => r.length - (intOf i).toNat)
  case atStart => exact ⟨0, rfl, Nat.zero_le _, Sl.nil _ _ _ _, Chg.refl _ _⟩
  case round =>
    obtain ⟨k, rfl, hk, hs, hc⟩ := hrel
    by_cases hlt : k < r.length
    · have hlt' : (k : Int) < (r.length : Int) := by omega
      obtain ⟨lb, lo, rfl, hG, hcell⟩ := HR.out.pos (by omega)
      have hrg : wr.rangeAt lb (lo + k * 3) (flatC (cellAt r k)) := fun j v hj => by
        have := Rd.cellC hcell hlt rfl j v hj
        exact hc.cell this (fun h => h)
      have HS := Lib.hid hs
      have Hcell := Lib.hid hcell
      have Hlt := Lib.hid hlt
      clear hs hcell
      obtain ⟨cc, hcc⟩ : ∃ cc, cc = cellAt r k := ⟨_, rfl⟩
      rw [← hcc] at hrg
      have Hcc := Lib.hid hcc
      clear hcc
      have hfl : (flatC cc).length = 3 := rfl
      have hB0 := Blk.new wr [.string ⟨#[]⟩, .int .i64 0, .bool false] 32
      have hsA := (HS.out.mono (G := fun b => w.heap.size ≤ b ∧ b < wr.heap.size) (fun b h1 h2 => ⟨h2, h1⟩)).chg ((Chg.refl Non wr).alloc (.cells #[.string ⟨#[]⟩, .int .i64 0, .bool false] 32)) (fun _ _ h => h)
      go_wp2_with (first
        | ((with_reducible refine wpList_load_mid (op := ⟨some 11, .load 32 (.tmp 10), _, _, _, _⟩) ?_ 32 (.tmp 10) ?_ lb (lo + k * 3) ?_ (flatC cc) _ hrg Tryz.underlying32 ?_ ?_ ?_); rfl; rfl; rfl; rfl; (exact szCell); skip)
        | ((with_reducible refine wpList_store_blk (op := ⟨none, .store 32 (.tmp 5) (.tmp 11), _, _, _, _⟩) ?_ 32 (.tmp 5) (.tmp 11) ?_ wr.heap.size 0 (flatC cc) ?_ ?_ hB0 ?_ ?_ flatC_one ?_); rfl; rfl; rfl; rfl; (exact Nat.le_refl _); (exact szCell); intro w1 hb1 hc1)
        | (have hgd := hb1; (with_reducible refine wpList_load_blk (op := ⟨some 13, .load 32 (.tmp 5), _, _, _, _⟩) ?_ 32 (.tmp 5) ?_ wr.heap.size 0 ?_ hb1 (flatC cc) ?_ _ Tryz.underlying32 ?_ ?_ ?_); rfl; rfl; rfl; rfl; rfl; (exact szCell); skip)
        | (have hs2 := (hsA.chg hc1 (fun b hb e => by omega)).chg ((Chg.refl Non w1).alloc (.cells (flatC cc).toArray 63)) (fun _ _ h => h); refine wpList_append_sl (o := ⟨some 15, _, _, _, _, _⟩) (by rfl) _ _ 39 (by rfl) eiRef (by rfl) hs2 (by rfl) (Rd.new w1 (flatC cc) 63 3 (n := 1) (by rfl) (by omega)) flatC_one (by omega) ?_; intro A3 c3 w2 hs3 hc2 hl2 hz2))
      have hsw : wr.heap.size + 1 ≤ w1.heap.size := by have := hc1.size; rw [World.size_alloc] at this; exact this
      have hcs := hc.size
      go_roundw
      case rel =>
        refine ⟨k + 1, by go_num, by omega, ?_, ?_⟩
        · have e : r.take (k + 1) = r.take k ++ [cc] := by rw [List.take_succ_eq_append_getElem Hlt.out, Hcc.out]; simp [cellAt, Hlt.out]
          have e2 : flat [cc] = flatC cc := by simp [flat]
          rw [e, flat_append, e2]
          exact hs3.mono (fun b _ hb => by
            rcases hb with hb | hb
            · exact hb.1
            · rw [World.size_alloc] at hb; omega)
        · have hcA : Chg Non w w1 := (hc.alloc (.cells #[.string ⟨#[]⟩, .int .i64 0, .bool false] 32)).trans hc1 (fun b e => .inr (by omega))
          exact (hcA.alloc _).trans hc2 (fun b hb => .inr (by
            have := Sl.wbF' (hsA.chg hc1 (fun b hb e => by omega)) hb
            exact this.1))
      case measure => simp [intOf]; omega
    · have hge : ¬ (k : Int) < (r.length : Int) := by omega
      obtain ⟨A', c', rfl, _, _⟩ := hs.shape
      have e : k = r.length := by omega
      have E := Lib.hid e
      clear e
      have HS := Lib.hid hs
      clear hs
      go_wp2_with fail
      go_ret
      have hs := HS.out
      rw [List.take_of_length_le (by have := E.out; omega)] at hs
      have e := E.out
      subst e
      exact ⟨_, _, rfl, hs, hc⟩

/-- Same: are two rows of cells the same? -/
theorem Same_calls (w : World) (va vb : Value) (a b : List Cell) (G H : Nat → Prop) (ha : Rd w 3 va a.length (flat a) G) (hb : Rd w 3 vb b.length (flat b) H) (hn : a.length ≤ 1000000) (hm : b.length ≤ 1000000) :
    Calls Tryz.prog 19 #[va, vb] w fun e w' => e = .returned (.bool (decide (a = b))) ∧ Chg Non w w' := by
  obtain ⟨A, c, rfl, h2, h3⟩ := ha.shape
  obtain ⟨B, d, rfl, g2, g3⟩ := hb.shape
  unfold maxLen at h3 g3
  have HA := Lib.hid ha
  have HB := Lib.hid hb
  obtain ⟨R, hR⟩ : ∃ R, R = decide (a = b) := ⟨_, rfl⟩
  rw [← hR]
  have HR := Lib.hid hR
  clear ha hb hR
  by_cases hl : a.length = b.length
  · have Hl := Lib.hid hl
    have hl' : ((a.length : Int) == (b.length : Int)) = true := by simp [hl]
    go_enter Tryz.func19, Tryz.ntmps19
    go_wp2_with fail
    go_loopw [5] (fun i wr => ∃ k : Nat, i = .int .i64 k ∧ k ≤ a.length ∧ Hid (a.take k = b.take k) ∧ Chg Non w wr) (fun i _ => a.length - (intOf i).toNat)
    case atStart => exact ⟨0, rfl, Nat.zero_le _, Lib.hid (by simp), Chg.refl _ _⟩
    case round =>
      obtain ⟨k, rfl, hk, htk, hc⟩ := hrel
      by_cases hlt : k < a.length
      · have hltI : (k : Int) < (a.length : Int) := by omega
        have hltJ : (k : Int) < (b.length : Int) := by omega
        obtain ⟨ab, ao, rfl, _, hcA⟩ := HA.out.pos (by omega)
        obtain ⟨bb, bo, rfl, _, hcB⟩ := HB.out.pos (by omega)
        obtain ⟨x, hx⟩ : ∃ x, x = cellAt a k := ⟨_, rfl⟩
        obtain ⟨y, hy⟩ : ∃ y, y = cellAt b k := ⟨_, rfl⟩
        have a0 : wr.cell? ⟨ab, ao + k * 3, none⟩ = some (.string x.s) := hc.cell (Rd.cellC hcA hlt rfl 0 _ (by rw [← hx]; rfl)) (fun h => h)
        have a1 : wr.cell? ⟨ab, ao + k * 3 + 1, none⟩ = some (.int .i64 x.wide) := hc.cell (Rd.cellC hcA hlt rfl 1 _ (by rw [← hx]; rfl)) (fun h => h)
        have a2 : wr.cell? ⟨ab, ao + k * 3 + 2, none⟩ = some (.bool x.dim) := hc.cell (Rd.cellC hcA hlt rfl 2 _ (by rw [← hx]; rfl)) (fun h => h)
        have b0 : wr.cell? ⟨bb, bo + k * 3, none⟩ = some (.string y.s) := hc.cell (Rd.cellC hcB (by omega) rfl 0 _ (by rw [← hy]; rfl)) (fun h => h)
        have b1 : wr.cell? ⟨bb, bo + k * 3 + 1, none⟩ = some (.int .i64 y.wide) := hc.cell (Rd.cellC hcB (by omega) rfl 1 _ (by rw [← hy]; rfl)) (fun h => h)
        have b2 : wr.cell? ⟨bb, bo + k * 3 + 2, none⟩ = some (.bool y.dim) := hc.cell (Rd.cellC hcB (by omega) rfl 2 _ (by rw [← hy]; rfl)) (fun h => h)
        have l3 : ∀ w, (binOp .neq 63 (.agg #[.string x.s, .int .i64 x.wide, .bool x.dim]) (.agg #[.string y.s, .int .i64 y.wide, .bool y.dim])).run Tryz.prog w = .ok (.bool (!decide (x = y))) w := neqRef x y
        have HX := Lib.hid hx
        have HY := Lib.hid hy
        have Hlt := Lib.hid hlt
        clear hcA hcB hx hy hlt hl hl'
        cases hxy : decide (x = y) with
        | true =>
          have hxy' := of_decide_eq_true hxy
          rw [hxy] at l3
          clear hxy
          go_upto_region 6 with (fail)
          go_quiet (fail)
          go_wp2_with fail
          go_roundw
          case rel =>
            refine ⟨k + 1, by go_num, by have := Hlt.out; omega, Lib.hid ?_, hc.drewN _⟩
            have h1 := Hlt.out
            have h2 := Hl.out
            rw [List.take_succ_eq_append_getElem h1, List.take_succ_eq_append_getElem (by omega : k < b.length), htk.out]
            have e : a[k] = b[k] := by
              have e1 : x = a[k] := by rw [HX.out]; simp [cellAt, h1]
              have e2 : y = b[k] := by rw [HY.out]; simp [cellAt, show k < b.length by omega]
              rw [← e1, ← e2]; exact hxy'
            rw [e]
          case measure => have := Hlt.out; simp [intOf]; omega
        | false =>
          have hRf : R = false := by
            rw [HR.out]
            refine decide_eq_false (fun e => ?_)
            have e1 := HX.out
            have e2 := HY.out
            rw [e] at e1
            exact of_decide_eq_false hxy (e1.trans e2.symm)
          rw [hxy] at l3
          have HRf := Lib.hid hRf
          clear hxy hRf
          go_upto_region 6 with (fail)
          go_quiet (fail)
          go_wp2_with fail
          go_ret
          rw [HRf.out]
          exact ⟨rfl, hc.drewN _⟩
      · have hge : ¬ (k : Int) < (a.length : Int) := by omega
        have hge2 : ¬ (k : Int) < (b.length : Int) := by omega
        have e : k = a.length := by omega
        have hRt : R = true := by
          rw [HR.out]
          refine decide_eq_true ?_
          have h1 := htk.out
          rw [List.take_of_length_le (by omega), List.take_of_length_le (by omega)] at h1
          exact h1
        have HRt := Lib.hid hRt
        clear hRt hl hl' e
        go_wp2_with fail
        go_ret
        rw [HRt.out]
        exact ⟨rfl, hc⟩
  · have hl' : ((a.length : Int) == (b.length : Int)) = false := by simp; omega
    have hRf : R = false := by rw [HR.out]; exact decide_eq_false (fun e => hl (by rw [e]))
    clear hl
    go_enter Tryz.func19, Tryz.ntmps19
    go_wp2_with fail
    go_ret
    rw [hRf]
    exact ⟨rfl, Chg.refl _ _⟩
end T
end Go.Proofs.YtoegjmeoeefllaaGreatDoor
