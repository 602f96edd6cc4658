/- What the rows of the laws share. -/
import Derived.Test.YtoegjmeoeefllaaGreatDoorCards
import Derived.Test.YtoegjmeoeefllaaGreatDoorTie
import Derived.Test.YtoegjmeoeefllaaGreatDoorRead
import Derived.Lay
import Derived.LaidMore
import Derived.SevenTiedAt
import Derived.Stop.Joined
namespace Go.Proofs.YtoegjmeoeefllaaGreatDoor
open Go.ChangeShapes Go.WideShapes Go.ChangeAt Go.RowKit
namespace T

theorem own : ownKnob Tryz.prog.godebug = none := by kernel_rfl
theorem laidOut : laidOutB Tryz.prog = true := by kernel_rfl
theorem cE1 : Tryz.prog.cellsOf 144 = 1 := by kernel_rfl
theorem cE2 : Tryz.prog.cellsOf 9 = 1 := by kernel_rfl
theorem starE : "*errors.errorString" = "*" ++ "errors.errorString" := by decide
theorem rowE (u : TypeId) (h : Tryz.prog.typeName? 3 u = some "*errors.errorString") : u = 142 :=
  typeName_ptr_named (nm := "errors.errorString") (by rw [← starE]; kernel_rfl) (by kernel_rfl) (by decide) u (by rw [← starE]; exact h)
theorem gRange : Tryz.prog.globalNamed "strconv.ErrRange" = some 1 := by kernel_rfl
theorem gSyntax : Tryz.prog.globalNamed "strconv.ErrSyntax" = some 0 := by kernel_rfl
theorem tRange : (Tryz.prog.globals[1]?).map (·.type) = some 99 := by kernel_rfl
theorem tSyntax : (Tryz.prog.globals[0]?).map (·.type) = some 99 := by kernel_rfl

/-- What the list gives: Atoi's two error variables hold errors. -/
theorem glob_of_laid {W : World} (h0 : laidMetH Tryz.prog Rows.termCellsRow.laid W) : Glob W := by
  rw [MakeChecks.laidMetH_plain _ _ _ (by kernel_rfl)] at h0
  have h4 := laidMet.tail (laidMet.tail (laidMet.tail (laidMet.tail h0)))
  have h5 := laidMet.tail h4
  obtain ⟨a, _, hv, _⟩ := laid_sentinel h4 gRange tRange Tryz.underlying99 rowE Tryz.underlying142 Tryz.underlying144 rfl rfl Tryz.underlying9 cE1 cE2
  obtain ⟨b, _, hw, _⟩ := laid_sentinel h5 gSyntax tSyntax Tryz.underlying99 rowE Tryz.underlying142 Tryz.underlying144 rfl rfl Tryz.underlying9 cE1 cE2
  exact ⟨⟨_, by rw [World.var?_cell gSyntax hw 0]; rfl, .inr ⟨_, _, rfl⟩⟩, ⟨_, by rw [World.var?_cell gRange hv 0]; rfl, .inr ⟨_, _, rfl⟩⟩⟩

section
variable {H : Type} {enc : TypeId × Value → H} {P : Program}
/-- The arguments read as they did. -/
theorem trodAll_below (hl : laidOutB P = true) {W W' : World} (hb : Below W.heap.size W W') : ∀ {ts : List TypeId} {vs : List Value} {ds : List (DataW H)} {ps : List MemPlace},
    (∀ t ∈ ts, P.readableRec t = true ∧ t < P.types.size) → DataW.TrodAll enc P W 0 (fun _ => true) true ts vs ds ps → (∀ x ∈ ps, x.block < W.heap.size) → DataW.TrodAll enc P W' 0 (fun b => decide (b < W.heap.size)) true ts vs ds ps
  | [], [], [], _, _, h, _ => h
  | t :: ts, v :: vs, d :: ds, _, hr, ⟨p, q, h, hs, e⟩, hlt => ⟨p, q, Below.trod hl (hr t (by simp)).1 (hr t (by simp)).2 h hb (fun x hx => hlt x (by rw [e]; simp [hx])), trodAll_below hl hb (fun t ht => hr t (by simp [ht])) hs (fun x hx => hlt x (by rw [e]; simp [hx])), e⟩
  | [], _ :: _, _, _, _, h, _ => h.elim
  | [], [], _ :: _, _, _, h, _ => h.elim
  | _ :: _, [], _, _, _, h, _ => h.elim
  | _ :: _, _ :: _, [], _, _, h, _ => h.elim
theorem reach_le {ts : List TypeId} {ds : List (DataW H)} (h : (DataW.weightsEach P ts ds).all (· ≤ reachBytes) = true) {j : Nat} {t : TypeId} {d : DataW H} (ht : ts[j]? = some t) (hd : ds[j]? = some d) : ∀ m ∈ d.weights P t, m ≤ 140737488355328 := fun m hm => by
  have h1 := of_decide_eq_true (List.all_eq_true.1 h _ (DataW.weights_mem_each ht hd m hm))
  have h2 := reachBytes_lt
  omega
end
end T
end Go.Proofs.YtoegjmeoeefllaaGreatDoor
