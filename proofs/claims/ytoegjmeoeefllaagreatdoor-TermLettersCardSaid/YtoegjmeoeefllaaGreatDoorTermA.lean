/- Walks: Blank; put. -/
import Derived.Test.YtoegjmeoeefllaaGreatDoorTermM
import Derived.Test.YtoegjmeoeefllaaGreatDoorOps
import Derived.Test.YtoegjmeoeefllaaGreatDoorProg
import Derived.KernelRfl
import Derived.RegionTactic
import Derived.Deep.QuietTactic
import Derived.BigQuiet
import Derived.Deep.DeepCutAuto
import Derived.Outline
namespace Go.Proofs.YtoegjmeoeefllaaGreatDoor
open Go Go.RowKit
namespace T

theorem flatC_one {c : Cell} : ∀ u ∈ flatC c, u.oneCell' = true := by
  intro u hu; simp [flatC] at hu; rcases hu with rfl | rfl | rfl <;> rfl

theorem decide_and_true {p q : Prop} [Decidable p] [Decidable q] (h : p) : decide (p ∧ q) = decide q := by simp [h]

theorem szCell : (Tryz.prog.info? 32).map (·.size) = some 3 := by kernel_rfl

theorem Blank_calls (w : World) : Calls Tryz.prog 25 #[] w fun e w' => e = .returned (.agg (flatC Blank).toArray) ∧ Chg Non w w' := by
  go_enter Tryz.func25, Tryz.ntmps25
  go_wp2
  exact bodyPost_ret (v := .agg (flatC Blank).toArray) (by simp [results, Tryz.results25, go_sem]; rfl) rfl ⟨rfl, (Chg.refl _ _).alloc _⟩

set_option maxHeartbeats 400000 in
theorem put_walk (p : Nat) (w : World) (row col : Nat) (c : Cell) (lb lo n cap rb ro rn rc : Nat) (R : List Cell)
    (h1 : w.cell? ⟨p, 1, none⟩ = some (.slice (some ⟨lb, lo, none⟩) n cap)) (h2 : w.cell? ⟨lb, lo + row, none⟩ = some (.slice (some ⟨rb, ro, none⟩) rn rc))
    (hat : SlAt w 32 3 (.slice (some ⟨rb, ro, none⟩) rn rc) rn (flat R) rb) (hR : R.length = rn)
    (hn1 : row < n) (hc1 : col < rn) (hc : rn ≤ 9223372036854775807)
    (hz : (cellAt R col).wide = 0 → 0 < col) (ht : (cellAt (if (cellAt R col).wide = 0 ∧ (cellAt R (col - 1)).wide = 2 then R.set (col - 1) Blank else R) col).wide = 2 → col + 1 < rn) :
    Calls Tryz.prog 47 #[.pointer (some ⟨p, 0, none⟩), .int .i64 row, .int .i64 col, .agg (flatC c).toArray] w fun e w' => e = .returned (.tuple #[]) ∧
      SlAt w' 32 3 (.slice (some ⟨rb, ro, none⟩) rn rc) rn (flat (putRow R col c)) rb ∧ Chg (fun k => k = rb) w w' := by
  have hp := World.block_lt_of_cell? w _ h1
  have hlb := World.block_lt_of_cell? w _ h2
  have hrb := hat.lt
  simp only at hp hlb hrb
  obtain ⟨e1, e2, e3⟩ := flat_at R col (by omega)
  obtain ⟨o', cap', hv, hl1, hl2, hcell⟩ := hat.cells
  injection hv with e4 e5 e6; injection e4 with e4; injection e4 with _ e4 _; subst e4 e6
  have c1 : w.cell? ⟨rb, ro + col * 3 + 1, none⟩ = some (.int .i64 (cellAt R col).wide) := by rw [Nat.add_assoc, hcell _ (by omega), e2]
  have hfl := flat_length R
  have Hcell := Lib.hid hcell
  have He := Lib.hid e1
  have hBlk0 : Blk (w.alloc (.cells (flatC c).toArray 32)) w.heap.size (flatC c) 32 := Blk.new _ _ _
  have hat0 := hat.chg (Chg.alloc (Chg.refl Non w) (.cells (flatC c).toArray 32)) (fun h => h)
  have Hz := Lib.hid hz
  have Ht := Lib.hid ht
  have HR := Lib.hid hR
  clear hcell e1 e2 e3 hz ht hR
  generalize hR1 : (if (cellAt R col).wide = 0 ∧ (cellAt R (col - 1)).wide = 2 then R.set (col - 1) Blank else R) = R1 at *
  have HR1 := Lib.hid hR1
  clear hR1
  go_enter Tryz.func47, Tryz.ntmps47
  go_upto_region 2 with (fail)
  go_cut [30] (fun v wc => v = .bool (decide ((cellAt R col).wide = 0 ∧ (cellAt R (col - 1)).wide = 2)) ∧ w.alloc (.cells (flatC c).toArray 32) = wc)
  case first =>
    by_cases hw : (cellAt R col).wide = 0
    · have hcp : 0 < col := Hz.out hw
      have c2 : w.cell? ⟨rb, ro + (col - 1) * 3 + 1, none⟩ = some (.int .i64 (cellAt R (col - 1)).wide) := by
        rw [Nat.add_assoc, Hcell.out _ (by omega), (flat_at R (col - 1) (by have := HR.out; omega)).2.1]
      have hcp' : (1 : Int) ≤ col := by omega
      go_wp2_with fail
      all_goals (go_meet; exact ⟨by rw [decide_and_true hw]; rfl, rfl⟩)
    · go_wp2_with fail
      all_goals (go_meet; exact ⟨by simp [hw], rfl⟩)
  case rest =>
    obtain ⟨rfl, rfl⟩ := hcut
    go_upto_if 30 with (fail)
    go_cut [] (fun wc => Blk wc w.heap.size (flatC c) 32 ∧ SlAt wc 32 3 (.slice (some ⟨rb, ro, none⟩) rn rc) rn (flat R1) rb ∧ Chg (fun k => k = rb) w wc)
    case first =>
      by_cases hw : (cellAt R col).wide = 0 ∧ (cellAt R (col - 1)).wide = 2
      · have hcp : 0 < col := Hz.out hw.1
        have hcp' : (1 : Int) ≤ col := by omega
        go_wp2_with fail
        refine (Blank_calls _).mono ?_; rintro e w1 ⟨rfl, hw1⟩
        have hat1 := hat0.chg hw1 (fun h => h)
        go_wp2_with (refine wpList_store_elem (by rfl) 32 _ _ (by rfl) rb ro ((col - 1) * 3) (flatC Blank) (by rfl) (by rfl) hat1 (by simp [flatC]; omega) szCell flatC_one ?_; intro w2 h2 hw2 hs2)
        go_meet
        refine ⟨(hBlk0.chg hw1 (fun h => h)).chg hw2 (by omega), ?_, ?_⟩
        · rw [← HR1.out, if_pos hw, flat_set _ _ _ (by have := HR.out; omega)]; exact h2
        · exact (((Chg.refl _ w).alloc _).thenN hw1).then hw2
      · go_wp2_with fail
        go_meet
        exact ⟨hBlk0, by rw [← HR1.out, if_neg hw]; exact hat0, (Chg.refl _ w).alloc _⟩
    case rest =>
      obtain ⟨hB1, hat1, hw1⟩ := hcut
      have hR1l : R1.length = rn := by rw [← HR1.out, ← HR.out]; split <;> simp
      have c2 : wc.cell? ⟨rb, ro + col * 3 + 1, none⟩ = some (.int .i64 (cellAt R1 col).wide) := by
        obtain ⟨o', cap', hv, _, _, hcell⟩ := hat1.cells
        injection hv with e1 _ e3; injection e1 with e1; injection e1 with _ e1 _; subst e1
        rw [Nat.add_assoc, hcell _ (by omega), (flat_at R1 col (by omega)).2.1]
      have HR1l := Lib.hid hR1l
      clear hR1l
      generalize hR2 : (if (cellAt R1 col).wide = 2 then R1.set (col + 1) Blank else R1) = R2
      have HR2 := Lib.hid hR2
      clear hR2
      go_upto_if 41 with (fail)
      go_cut [] (fun wd => Blk wd w.heap.size (flatC c) 32 ∧ SlAt wd 32 3 (.slice (some ⟨rb, ro, none⟩) rn rc) rn (flat R2) rb ∧ Chg (fun k => k = rb) w wd)
      case first =>
        by_cases hw : (cellAt R1 col).wide = 2
        · have hcp : col + 1 < rn := Ht.out hw
          go_wp2_with fail
          refine (Blank_calls _).mono ?_; rintro e w1 ⟨rfl, hw2⟩
          have hat2 := hat1.chg hw2 (fun h => h)
          go_wp2_with (refine wpList_store_elem (by rfl) 32 _ _ (by rfl) rb ro ((col + 1) * 3) (flatC Blank) (by rfl) (by rfl) hat2 (by simp [flatC]; omega) szCell flatC_one ?_; intro w2 h2 hw3 hs2)
          go_meet
          refine ⟨(hB1.chg hw2 (fun h => h)).chg hw3 (by omega), ?_, (hw1.thenN hw2).then hw3⟩
          rw [← HR2.out, if_pos hw, flat_set _ _ _ (by have := HR1l.out; omega)]; exact h2
        · go_wp2_with fail
          go_meet
          exact ⟨hB1, by rw [← HR2.out, if_neg hw]; exact hat1, hw1⟩
      case rest =>
        obtain ⟨hB2, hat2, hw2⟩ := hcut
        go_wp2_with (first | (refine wpList_load_blk (by rfl) 32 _ (by rfl) w.heap.size 0 (by rfl) hB2 (flatC c) (by simp [flatC]) _ Tryz.underlying32 (by rfl) szCell ?_) | (refine wpList_store_elem (by rfl) 32 _ _ (by rfl) rb ro (col * 3) (flatC c) (by rfl) (by rfl) hat2 (by simp [flatC]; omega) szCell flatC_one ?_; intro w3 h3 hw3 hs3))
        go_end0
        refine ⟨rfl, ?_, hw2.then hw3⟩
        have hR2l : R2.length = rn := by rw [← HR2.out, ← HR1l.out]; split <;> simp
        have e : putRow R col c = R2.set col c := by rw [← HR2.out, ← HR1.out]; rfl
        rw [e, flat_set _ _ _ (by omega)]; exact h3

/-- put: the row is another one; what it was half of becomes blank. -/
theorem put_calls {p : Nat} {w : World} {t : Term} {F : Nat → Prop} (h : IsTerm w p t F) (row col : Nat) (c : Cell) (hr : row < t.l.length) (hc : col < (rowAt t.l row).length)
    (hz : (cellAt (rowAt t.l row) col).wide = 0 → 0 < col)
    (ht : (cellAt (if (cellAt (rowAt t.l row) col).wide = 0 ∧ (cellAt (rowAt t.l row) (col - 1)).wide = 2 then (rowAt t.l row).set (col - 1) Blank else rowAt t.l row) col).wide = 2 → col + 1 < (rowAt t.l row).length) :
    Calls Tryz.prog 47 #[.pointer (some ⟨p, 0, none⟩), .int .i64 row, .int .i64 col, .agg (flatC c).toArray] w fun e w' => e = .returned (.tuple #[]) ∧ IsTerm w' p (put t row col c) F ∧ Chg F w w' := by
  obtain ⟨lv, gv, bv, vs, gs, bs, gb, h⟩ := h
  obtain ⟨lb, lo, cap, rb, ro, rc, rfl, h1, h2, h3, h4, h5, h6, h7, h8⟩ := h.row hr
  refine (put_walk p w row col c lb lo _ cap rb ro _ rc _ h.cells.2.1 h3 h8 rfl hr hc (by unfold maxLen at h7; omega) hz ht).mono ?_
  rintro e w' ⟨rfl, h9, h10⟩
  have e1 : (putRow (rowAt t.l row) col c).length = (rowAt t.l row).length := by unfold putRow; simp only [List.length_set]; (repeat' split) <;> simp
  have hF := h.rows.F (List.mem_of_getElem? h5)
  exact ⟨rfl, ⟨_, _, _, _, _, _, _, h.setRow hr h5 h4 h10 (by rw [e1]; exact h9)⟩, h10.mono (fun k _ e => e ▸ hF)⟩

end T
end Go.Proofs.YtoegjmeoeefllaaGreatDoor
