/- Walks: Copy. -/
import Derived.Test.YtoegjmeoeefllaaGreatDoorTermF
namespace Go.Proofs.YtoegjmeoeefllaaGreatDoor
open Go Go.RowKit
namespace T
attribute [local go_sem ↓] Go.wp_at_zero Go.wp_at_succ
attribute [local go_sem high] run_max_2 run_min_2

theorem szTerm : (Tryz.prog.info? 57).map (·.size) = some 11 := by kernel_rfl
def headC (t : Term) (lv gv bv : Value) : List Value := [.int .i64 t.cols, lv, gv, .int .i64 t.off, .int .i64 t.row, .int .i64 t.col, .bool t.full, .bool t.dim, .int .i64 t.ins, .string t.seq, bv]

set_option maxHeartbeats 1000000 in
theorem Copy_calls {p : Nat} {w : World} {t : Term} {F : Nat → Prop} (h : IsTerm w p t F) (hl : t.l.length ≤ 1000000) (hg : t.gone.length ≤ 1000000) (hb : t.b.length ≤ 1000000) (hw : ∀ j, j < t.l.length → 0 < (rowAt t.l j).length ∧ (rowAt t.l j).length ≤ 1000000) (hw2 : ∀ j, j < t.gone.length → 0 < (rowAt t.gone j).length ∧ (rowAt t.gone j).length ≤ 1000000) :
    Calls Tryz.prog 18 #[.pointer (some ⟨p, 0, none⟩)] w fun e w' => ∃ q, e = .returned (.pointer (some ⟨q, 0, none⟩)) ∧ IsTerm w' q t (fun b => w.heap.size ≤ b ∧ b < w'.heap.size) ∧ Chg Non w w' := by
  obtain ⟨lv, gv, bv, vs, gs, bs, gb, h⟩ := h
  obtain ⟨Al, cl, rfl, hl1, hl2⟩ := h.l.shape
  obtain ⟨Ag, cg, rfl, hg1, hg2⟩ := h.g.shape
  obtain ⟨Ab, cb, rfl, hb1, hb2⟩ := h.b.shape
  obtain ⟨c0, c1, c2, c3, c4, c5, c6, c7, c8, c9, c10⟩ := h.cells
  have hlrd := h.l.rd (G := fun _ => True) (fun _ _ => trivial)
  have hgrd := h.g.rd (G := fun _ => True) (fun _ _ => trivial)
  have hbrd := h.b.rd (G := fun _ => True) (fun _ _ => trivial)
  have hone : ∀ u ∈ headC t (.slice Al t.l.length cl) (.slice Ag t.gone.length cg) (.slice Ab t.b.length cb), u.oneCell' = true := by
    intro u hu; simp [headC] at hu; rcases hu with rfl | rfl | rfl | rfl | rfl | rfl | rfl | rfl | rfl | rfl | rfl <;> rfl
  have hblk := h.blk
  have hrows := h.rows
  have hgrows := h.grows
  have hp := h.blk.lt
  clear h c0 c3 c4 c5 c6 c7 c8 c9 hl1 hl2 hg1 hg2 hb1 hb2
  go_enter Tryz.func18, Tryz.ntmps18
  obtain ⟨H, hH⟩ : ∃ H, H = headC t (.slice Al t.l.length cl) (.slice Ag t.gone.length cg) (.slice Ab t.b.length cb) := ⟨_, rfl⟩
  have hHl : H.length = 11 := by rw [hH]; rfl
  rw [show [Value.int .i64 t.cols, .slice Al t.l.length cl, .slice Ag t.gone.length cg, .int .i64 t.off, .int .i64 t.row, .int .i64 t.col, .bool t.full, .bool t.dim, .int .i64 t.ins, .string t.seq, .slice Ab t.b.length cb] = H from hH.symm] at hblk
  rw [← hH] at hone
  have HH := Lib.hid hH
  clear hH
  go_upto_region 2 with (first | ((with_reducible refine wpList_load_blk (op := ⟨some 6, _, _, _, _, _⟩) ?_ 57 (.tmp 5) ?_ p 0 ?_ hblk H ?_ _ Tryz.underlying57 ?_ ?_ ?_); rfl; rfl; rfl; (rw [List.drop_zero, List.take_length]); rfl; (rw [hHl]; exact szTerm)) | ((with_reducible refine wpList_store_blk (op := ⟨none, .store 57 (.tmp 3) (.tmp 6), _, _, _, _⟩) ?_ 57 (.tmp 3) (.tmp 6) ?_ w.heap.size 0 H ?_ ?_ (Blk.new _ _ _) ?_ ?_ hone ?_); rfl; rfl; rfl; rfl; (rw [hHl]; exact Nat.le_refl _); (rw [hHl]; exact szTerm); intro w1 h1 hc1))
  have hc : Chg Non w w1 := ((Chg.refl Non w).alloc _).trans hc1 (fun b e => .inr (by omega))
  have hQ : Blk w1 w.heap.size H 57 := by
    have e : ∀ Z : List Value, Z.length = 11 → splice Z 0 H = H := fun Z hZ => by simp [splice, hHl]; omega
    rw [e _ rfl] at h1; exact h1
  rw [HH.out] at hQ; unfold headC at hQ
  have hp1 : p < w1.heap.size := Nat.lt_of_lt_of_le hp hc.size
  have hne : w.heap.size ≠ p := by omega
  have hq1 := hQ.lt
  have hd1 := hc.cell c1 (fun h => h)
  have hd2 := hc.cell c2 (fun h => h)
  have hd10 := hc.cell c10 (fun h => h)
  have Hc := Lib.hid hc
  clear hc1 h1 c1 c2 c10 hc hblk hHl
  have hlr1 := (hlrd.chg Hc.out (fun _ _ _ h => h)).chg ((Chg.refl Non w1).drew) (fun _ _ _ h => h)
  have hrw1 := (hrows.chg Hc.out (fun _ _ h => h)).chg ((Chg.refl Non w1).drew) (fun _ _ h => h)
  have hgr1 := (hgrd.chg Hc.out (fun _ _ _ h => h)).chg ((Chg.refl Non w1).drew) (fun _ _ _ h => h)
  have hgw1 := (hgrows.chg Hc.out (fun _ _ h => h)).chg ((Chg.refl Non w1).drew) (fun _ _ h => h)
  go_region_held3 (fun w' => w'.cell? ⟨p, 1, none⟩ = some (.slice Al t.l.length cl) ∧ w'.cell? ⟨p, 2, none⟩ = some (.slice Ag t.gone.length cg)) (first | exact ⟨hd1, hd2⟩ | exact ⟨by assumption, by assumption⟩ | exact ⟨cell_far (by assumption) hne, cell_far (by assumption) hne⟩ | exact ⟨cell_far (cell_far (by assumption) hne) hne, cell_far (cell_far (by assumption) hne) hne⟩) (first | (have hgd := hcB; fail) | (have hgd := hcA; go_at_call 30; refine (copied_calls _ _ t.gone gs gb F (fun _ => True) (hgr1.chg hcA (fun _ _ _ h => h)) (hgw1.chg hcA (fun _ _ h => h)) hg hw2).mono ?_; rintro e w3 ⟨Ag3, cg3, gs3, gb3, rfl, hgB, hgrB, hndB, hcB⟩; have hf1 := hcB.cell he1 (fun h => h); have hf2 := hcB.cell he2 (fun h => h); have hQ3 := ((hQ.drew.chg hcA (fun h => h)).chg hcB (fun h => h)); have q1 : w3.cell? ⟨w.heap.size, 1, none⟩ = some (.slice Al t.l.length cl) := hQ3.cell 1; have q2 : w3.cell? ⟨w.heap.size, 2, none⟩ = some (.slice Ag t.gone.length cg) := hQ3.cell 2; have q3 := hQ3.frozen 1; have q4 := hQ3.frozen 2) | (go_at_call 30; refine (copied_calls _ _ t.l vs bs F (fun _ => True) hlr1 hrw1 hl hw).mono ?_; rintro e w2 ⟨Al2, cl2, vs2, bs2, rfl, hlA, hrA, hndA, hcA⟩; have he1 := hcA.cell hd1 (fun h => h); have he2 := hcA.cell hd2 (fun h => h)))
  have hf10 := hcB.cell (hcA.cell hd10 (fun h => h)) (fun h => h)
  have hQ4 := (hQ3.set 1 (.slice Al2 t.l.length cl2)).set 2 (.slice Ag3 t.gone.length cg3)
  have hc4 : Chg (fun b => b = w.heap.size) w3 ((w3.setCell ⟨w.heap.size, 1, none⟩ (.slice Al2 t.l.length cl2)).setCell ⟨w.heap.size, 2, none⟩ (.slice Ag3 t.gone.length cg3)) := ((Chg.at0 _ w3).at_ _ _).at_ _ _
  have hc5 : Chg (fun b => b = w.heap.size) w ((w3.setCell ⟨w.heap.size, 1, none⟩ (.slice Al2 t.l.length cl2)).setCell ⟨w.heap.size, 2, none⟩ (.slice Ag3 t.gone.length cg3)) :=
    (((Hc.out.mono (fun _ _ h => h.elim)).drew.thenN hcA).thenN hcB).then hc4
  have hf11 := hc4.cell hf10 (fun e => hne e.symm)
  have hbr := hbrd.chg (G := fun _ => True) (hc5) (fun k hk _ e => by omega)
  clear hgd
  generalize hW : ((w3.setCell ⟨w.heap.size, 1, none⟩ (.slice Al2 t.l.length cl2)).setCell ⟨w.heap.size, 2, none⟩ (.slice Ag3 t.gone.length cg3)) = w4 at *
  clear hW
  go_wp2_with fail
  refine (CloneBytes_calls _ _ _ _ _ hbr (by simp [Value.oneCell']) hb).mono ?_; rintro e w5 ⟨A5, c5, rfl, hb5, hc6⟩
  have hQ5 := hQ4.chg hc6 (fun h => h)
  have q10 : w5.cell? ⟨w.heap.size, 10, none⟩ = some (.slice Ab t.b.length cb) := hQ5.cell 10
  have q11 := hQ5.frozen 10
  go_wp2_with fail
  go_ret
  have hQ6 := hQ5.set 10 (.slice A5 t.b.length c5)
  have hc7 : Chg (fun b => b = w.heap.size) w5 (w5.setCell ⟨w.heap.size, 10, none⟩ (.slice A5 t.b.length c5)) := (Chg.at0 _ w5).at_ _ _
  have hsz := Hc.out.size
  have hsA := hcA.size
  have hsB := hcB.size
  have hcy : Chg (fun b => b = w.heap.size) w3 (w5.setCell ⟨w.heap.size, 10, none⟩ (.slice A5 t.b.length c5)) := (hc4.thenN hc6).then hc7
  have hcx : Chg (fun b => b = w.heap.size) w2 (w5.setCell ⟨w.heap.size, 10, none⟩ (.slice A5 t.b.length c5)) := (hcB.mono (fun _ _ h => h.elim)).then hcy
  have hfin := hcx.size
  have hfin5 := hc7.size
  have hlo : ∀ b, w1.drew.heap.size ≤ b → w.heap.size ≤ b := fun b hb => by have : w1.heap.size ≤ b := hb; omega
  refine ⟨_, rfl, ⟨.slice Al2 t.l.length cl2, .slice Ag3 t.gone.length cg3, .slice A5 t.b.length c5, vs2, gs3, bs2, gb3, ?_⟩, ((hc5.thenN hc6).then hc7).mono (fun k hk e => by omega)⟩
  have hl6 := hlA.chg hcx (fun b hb e => by have : w1.heap.size ≤ b := hb; omega)
  have hr6 := hrA.chg hcx (fun b hb e => by have := hrA.F hb; have : w1.heap.size ≤ b := this; omega)
  have hg6 := hgB.chg hcy (fun b hb e => by have : w2.heap.size ≤ b := hb; have : w1.heap.size ≤ w2.heap.size := hsA; omega)
  have hgr6 := hgrB.chg hcy (fun b hb e => by have := hgrB.F hb; have : w1.heap.size ≤ w2.heap.size := hsA; omega)
  have hb6 := hb5.chg hc7 (fun b hb e => by have := hQ4.lt; omega)
  have hsA' : w1.heap.size ≤ w2.heap.size := hsA
  exact { blk := hQ6, l := (hl6.mono (fun b h1 h2 => ⟨hlo b h2, h1⟩)), rows := (hr6.mono (fun b h1 h2 => ⟨hlo b h2, h1⟩)), nodup := hndA, g := (hg6.mono (fun b h1 h2 => ⟨by omega, h1⟩)), grows := (hgr6.mono (fun b h1 h2 => ⟨by omega, h1⟩)),
          apart := (fun b hb hb' => by have := hrA.lt hb; have := hgrB.F hb'; omega),
          lg := (fun b hb hb' => by obtain ⟨_, l1, hl1⟩ := Sl.wbF hlA hb; obtain ⟨hge, _⟩ := Sl.wbF hgB hb'; have := hl1.lt; omega),
          b := (hb6.mono (fun b h1 h2 => ⟨by have := hQ4.lt; omega, h1⟩)), own := ⟨Nat.le_refl _, hQ6.lt⟩, lt := fun b hb => hb.2 }
end T
end Go.Proofs.YtoegjmeoeefllaaGreatDoor
