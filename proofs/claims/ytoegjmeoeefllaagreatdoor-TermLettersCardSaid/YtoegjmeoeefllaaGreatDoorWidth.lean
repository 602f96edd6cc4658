/- Walks: the widths of signs. -/
import Derived.Test.YtoegjmeoeefllaaGreatDoorOps
import Derived.Test.YtoegjmeoeefllaaGreatDoorProg
import Derived.Test.YtoegjmeoeefllaaGreatDoorShelf
import Derived.Shelf.SlicesQ.IndexFunc
import Derived.KernelRfl
import Derived.RegionTactic
import Derived.Deep.QuietTactic
import Derived.BigQuiet
import Derived.Outline
import Derived.Deep.Cut
namespace Go.Proofs.YtoegjmeoeefllaaGreatDoor
open Go Go.RowKit
namespace Wd

def isControl (r : Int) : Bool := decide (r < 32 ∨ (127 ≤ r ∧ r ≤ 159))
def noneL : List (Int × Int) := [(768, 879), (6832, 6911), (7616, 7679), (8203, 8205), (8400, 8447), (65024, 65039), (65056, 65071)]
def wideL : List (Int × Int) := [(4352, 4447), (11904, 12350), (12353, 42191), (44032, 55203), (63744, 64255), (65072, 65135), (65281, 65376), (65504, 65510), (127744, 129791), (131072, 262141)]
def inR (l : List (Int × Int)) (r : Int) : Bool := l.any fun x => decide (x.1 ≤ r ∧ r ≤ x.2)
def ofR (r : Int) : Int := if inR noneL r then 0 else if inR wideL r then 2 else 1
def flatP (l : List (Int × Int)) : List Value := l.flatMap fun x => [.int .i32 x.1, .int .i32 x.2]

theorem Control_calls (r : Int) (w : World) : Calls Tryz.prog 44 #[.int .i32 r] w fun e w' => e = .returned (.bool (isControl r)) ∧ w = w' := by
  by_cases h1 : r < 32
  · go_enter Tryz.func44, Tryz.ntmps44
    go_wp2
    go_ret
    have h : isControl r = true := decide_eq_true (by omega)
    exact ⟨by rw [h]; rfl, rfl⟩
  · by_cases h2 : 127 ≤ r
    · go_enter Tryz.func44, Tryz.ntmps44
      go_wp2
      go_ret
      have h : isControl r = decide (r ≤ 159) := decide_eq_decide.2 (by omega)
      exact ⟨by rw [h]; rfl, rfl⟩
    · go_enter Tryz.func44, Tryz.ntmps44
      go_wp2
      go_ret
      have h : isControl r = false := decide_eq_false (by omega)
      exact ⟨by rw [h]; rfl, rfl⟩

theorem in1_calls (a b r : Int) (rb : Nat) (w : World) (hc : w.cell? ⟨rb, 0, none⟩ = some (.int .i32 r)) :
    Calls Tryz.prog 62 #[.agg #[.int .i32 a, .int .i32 b], .pointer (some ⟨rb, 0, none⟩)] w fun e w' => e = .returned (.bool (decide (a ≤ r ∧ r ≤ b))) ∧ Chg Non w w' := by
  have hlt := World.block_lt_of_cell? w _ hc
  simp only at hlt
  by_cases h1 : a ≤ r
  · go_enter Tryz.func62, Tryz.ntmps62
    go_wp2
    go_ret
    refine ⟨?_, (Chg.refl _ _).alloc _⟩
    show Ending.returned (Value.bool (decide (r ≤ b))) = _
    simp [h1]
  · go_enter Tryz.func62, Tryz.ntmps62
    go_wp2
    go_ret
    refine ⟨?_, (Chg.refl _ _).alloc _⟩
    show Ending.returned (Value.bool false) = _
    rw [decide_eq_false (show ¬ a ≤ r by omega)]
    rfl

theorem flatP_one (l : List (Int × Int)) : ∀ u ∈ flatP l, u.oneCell' = true := by
  intro u hu
  simp only [flatP, List.mem_flatMap] at hu
  obtain ⟨x, _, hx⟩ := hu
  simp at hx
  rcases hx with rfl | rfl <;> rfl
theorem loadVar_blk {P : Program} {w : World} {b : Nat} {l : List Value} {E t : TypeId} {d : TypeDesc} (h : Blk w b l E) (hu : P.underlying t = some d) (hd : d.isRow = true) (hi : (P.info? t).map (·.size) = some l.length) :
    (loadVar t ⟨b, 0, none⟩).run P w = .ok (.agg l.toArray) w :=
  run_loadVar_mid w b 0 t l d (fun j v hj => by rw [Nat.zero_add, h.cell, hj]) hu hd hi
theorem results_cell {P : Program} {fn : Func} {tmps : Array Value} {w : World} {v : Value} {t : TypeId} {A : Addr} (hr : fn.results = #[.cell 0 t]) (ht : tmps.getD 0 undef = .pointer (some A)) (h : (loadVar t A).run P w = .ok v w) : (results fn tmps).run P w = .ok v w := by
  have ht' : tmps[0]?.getD undef = .pointer (some A) := by simpa using ht
  simp [results, hr, ht', asAddr, h]
theorem splice_all {l vs : List Value} (h : l.length = vs.length) : splice l 0 vs = vs := by simp [splice, h]
theorem sz7 : (Tryz.prog.info? 91).map (·.size) = some 14 := by kernel_rfl
theorem none_calls (w : World) : Calls Tryz.prog 54 #[] w fun e w' => e = .returned (.agg (flatP noneL).toArray) ∧ Chg Non w w' := by
  have hone : ∀ u ∈ flatP noneL, u.oneCell' = true := flatP_one _
  go_enter Tryz.func54, Tryz.ntmps54
  go_wp2_with ((with_reducible refine wpList_store_blk (op := ⟨none, .store 91 (.tmp 0) (.tmp 8), _, _, _, _⟩) ?_ 91 (.tmp 0) (.tmp 8) ?_ w.heap.size 0 (flatP noneL) ?_ ?_ (Blk.new _ _ _) ?_ ?_ hone ?_); rfl; rfl; rfl; rfl; (exact Nat.le_refl _); (exact sz7); intro w1 h1 hc1)
  rw [splice_all (by rfl)] at h1
  have h2 := loadVar_blk (P := Tryz.prog) (t := 91) h1 Tryz.underlying91 rfl sz7
  clear h1
  generalize flatP noneL = l at h2 ⊢
  refine bodyPost_ret (v := .agg l.toArray) ?_ rfl ⟨rfl, ?_⟩
  · exact results_cell Tryz.results54 rfl h2
  · exact ((Chg.refl _ w).alloc _).trans hc1 (fun b hb => .inr (by rw [hb]; exact Nat.le_refl _))
theorem sz10 : (Tryz.prog.info? 93).map (·.size) = some 20 := by kernel_rfl
theorem wide_calls (w : World) : Calls Tryz.prog 55 #[] w fun e w' => e = .returned (.agg (flatP wideL).toArray) ∧ Chg Non w w' := by
  have hone : ∀ u ∈ flatP wideL, u.oneCell' = true := flatP_one _
  go_enter Tryz.func55, Tryz.ntmps55
  go_wp2_with ((with_reducible refine wpList_store_blk (op := ⟨none, .store 93 (.tmp 0) (.tmp 11), _, _, _, _⟩) ?_ 93 (.tmp 0) (.tmp 11) ?_ w.heap.size 0 (flatP wideL) ?_ ?_ (Blk.new _ _ _) ?_ ?_ hone ?_); rfl; rfl; rfl; rfl; (exact Nat.le_refl _); (exact sz10); intro w1 h1 hc1)
  rw [splice_all (by rfl)] at h1
  have h2 := loadVar_blk (P := Tryz.prog) (t := 93) h1 Tryz.underlying93 rfl sz10
  clear h1
  generalize flatP wideL = l at h2 ⊢
  refine bodyPost_ret (v := .agg l.toArray) ?_ rfl ⟨rfl, ?_⟩
  · exact results_cell Tryz.results55 rfl h2
  · exact ((Chg.refl _ w).alloc _).trans hc1 (fun b hb => .inr (by rw [hb]; exact Nat.le_refl _))

def encP (x : Int × Int) : List Value := [.int .i32 x.1, .int .i32 x.2]
theorem flatP_get : ∀ (l : List (Int × Int)) (j i : Nat) (v : Value), j < l.length → (encP l[j]!)[i]? = some v → (flatP l)[j * 2 + i]? = some v
  | [], j, i, v, hj, h => absurd hj (Nat.not_lt_zero _)
  | x :: r, 0, i, v, hj, h => by
    simp only [List.getElem!_cons_zero] at h
    have h2 : i < 2 := by
      have := (List.getElem?_eq_some_iff.1 h).1
      simpa [encP] using this
    rw [show flatP (x :: r) = encP x ++ flatP r from rfl, Nat.zero_mul, Nat.zero_add, List.getElem?_append_left (by simpa [encP] using h2), h]
  | x :: r, j + 1, i, v, hj, h => by
    rw [show flatP (x :: r) = encP x ++ flatP r from rfl, List.getElem?_append_right (by simp [encP]; omega), show (j + 1) * 2 + i - (encP x).length = j * 2 + i by simp [encP]; omega]
    exact flatP_get r j i v (by simpa using hj) (by simpa using h)

theorem in_calls (l : List (Int × Int)) (b c : Nat) (E : TypeId) (r : Int) (w : World) (hl : l.length ≤ 1000) (hb : Blk w b (flatP l) E) :
    Calls Tryz.prog 56 #[.slice (some ⟨b, 0, none⟩) l.length c, .int .i32 r] w fun e w' => e = .returned (.bool (inR l r)) ∧ Chg Non w w' := by
  have eg : ∀ args w, (callFunc 62 args).run Tryz.prog w = .ok (.enter 62 args) w := enters_of Tryz.func62 (by kernel_rfl) rfl
  have hp : PredBelow Tryz.prog 62 #[.pointer (some ⟨w.heap.size, 0, none⟩)] (fun x => .agg (encP x).toArray) (fun x : Int × Int => decide (x.1 ≤ r ∧ r ≤ x.2)) (w.alloc (.cells #[.int .i32 r] 21)) := fun W x hW => by
    have hcell : (w.alloc (.cells #[.int .i32 r] 21)).cell? ⟨w.heap.size, 0, none⟩ = some (.int .i32 r) := (Blk.new w [.int .i32 r] 21).cell 0
    have hc : W.cell? ⟨w.heap.size, 0, none⟩ = some (.int .i32 r) := (hW.cell (p := ⟨w.heap.size, 0, none⟩) (by simp)).trans hcell
    refine (in1_calls x.1 x.2 r w.heap.size W hc).mono ?_
    rintro e w' ⟨he, hch⟩
    exact ⟨he, hW.trans (hch.below.mono hW.size)⟩
  have hcon := AnyQ.slices_ContainsFunc Tryz.lContainsFunc 2 Tryz.isAgg90 Tryz.sizeOf90 encP (fun _ => rfl) (fun x : Int × Int => decide (x.1 ≤ r ∧ r ≤ x.2)) 62 #[.pointer (some ⟨w.heap.size, 0, none⟩)] eg b 0 l.length c l _ hp (Nat.le_refl _) (by omega) (Nat.lt_succ_of_lt hb.lt |> (by simpa using ·)) (fun j hj i v hi => by
    rw [Nat.zero_add, (hb.alloc _).cell]; exact flatP_get l j i v hj hi)
  rw [List.take_length] at hcon
  change Calls Tryz.prog 61 _ _ _ at hcon
  change Calls _ _ _ _ (fun e w' => e = .returned (.bool (inR l r)) ∧ _) at hcon
  clear hp
  generalize inR l r = q at hcon ⊢
  go_enter Tryz.func56, Tryz.ntmps56
  go_wp2_with (go_at_call 61; refine hcon.mono ?_; rintro e w' ⟨rfl, hb'⟩)
  go_ret
  exact ⟨rfl, ((Chg.refl _ w).alloc _).then (Chg.of_below hb' _)⟩

theorem Blk.new2 (w : World) (o : Obj) (l : List Value) (E : TypeId) : Blk ((w.alloc o).alloc (.cells l.toArray E)) (w.heap.size + 1) l E := by
  have h := Blk.new (w.alloc o) l E
  rwa [World.size_alloc] at h
theorem Of_calls (r : Int) (w : World) : Calls Tryz.prog 43 #[.int .i32 r] w fun e w' => e = .returned (.int .i64 (ofR r)) ∧ Chg Non w w' := by
  go_enter Tryz.func43, Tryz.ntmps43
  go_wp2_with fail
  refine (none_calls _).mono ?_
  rintro e w1 ⟨rfl, hc1⟩
  go_wp2_with fail
  refine (wide_calls _).mono ?_
  rintro e w2 ⟨rfl, hc2⟩
  go_upto_region 2 with (first
    | ((with_reducible refine wpList_store_blk (op := ⟨none, .store 91 (.tmp 3) (.tmp 5), _, _, _, _⟩) ?_ 91 (.tmp 3) (.tmp 5) ?_ w2.heap.size 0 (flatP noneL) ?_ ?_ ((Blk.new _ _ _).alloc _) ?_ ?_ (flatP_one _) ?_); rfl; rfl; rfl; rfl; (exact Nat.le_refl _); (exact sz7); intro w3 h3 hc3)
    | (have g := hc3; (with_reducible refine wpList_store_blk (op := ⟨none, .store 93 (.tmp 4) (.tmp 6), _, _, _, _⟩) ?_ 93 (.tmp 4) (.tmp 6) ?_ (w2.heap.size + 1) 0 (flatP wideL) ?_ ?_ ((Blk.new2 _ _ _ _).chg hc3 (fun h => by omega)) ?_ ?_ (flatP_one _) ?_); rfl; rfl; rfl; rfl; (exact Nat.le_refl _); (exact sz10); intro w4 h4 hc4))
  rw [splice_all (by rfl)] at h3 h4
  have A3 := h3.chg hc4 (fun h => by omega)
  have hs1 := hc1.size
  have hs2 := hc2.size
  have hC3 : Chg Non w w3 := (((hc1.thenN hc2).alloc _).alloc _).trans hc3 (fun b hb => .inr (by omega))
  have hC : Chg Non w w4 := hC3.trans hc4 (fun b hb => .inr (by omega))
  go_wp2_with fail
  refine (in_calls noneL w2.heap.size 7 91 r w4 (by decide) A3).mono ?_
  rintro e w5 ⟨rfl, hc5⟩
  cases hq : inR noneL r with
  | true =>
    go_wp2_with fail
    go_ret
    exact ⟨by simp [ofR, hq], hC.thenN hc5⟩
  | false =>
    go_wp2_with fail
    refine (in_calls wideL (w2.heap.size + 1) 10 93 r w5 (by decide) (h4.chg hc5 (fun h => h))).mono ?_
    rintro e w6 ⟨rfl, hc6⟩
    cases hq2 : inR wideL r with
    | true =>
      go_wp2_with fail
      go_ret
      exact ⟨by simp [ofR, hq, hq2], (hC.thenN hc5).thenN hc6⟩
    | false =>
      go_wp2_with fail
      go_ret
      exact ⟨by simp [ofR, hq, hq2], (hC.thenN hc5).thenN hc6⟩
end Wd
end Go.Proofs.YtoegjmeoeefllaaGreatDoor
