/- TermMoves, for every input: the law returns true, and its arguments read as they did. No condition of our own: the listed variables are tied by the card to the program's text. -/
import Derived.Test.YtoegjmeoeefllaaGreatDoorLMoves
import Derived.Test.YtoegjmeoeefllaaGreatDoorFrame2
import Derived.Test.YtoegjmeoeefllaaGreatDoorRead2
namespace Go.Proofs.YtoegjmeoeefllaaGreatDoor
open Go.ChangeShapes Go.WideShapes Go.ChangeAt Go.RowKit
open T

theorem moves_types (t : TypeId) (ht : t ∈ [22, 23, 51]) : Tryz.prog.readableRec t = true ∧ t < Tryz.prog.types.size := by
  have hall : ([22, 23, 51].all fun u => Tryz.prog.readableRec u && decide (u < Tryz.prog.types.size)) = true := by kernel_rfl
  have h := List.all_eq_true.1 hall t ht
  simp only [Bool.and_eq_true, decide_eq_true_eq] at h
  exact h

set_option maxRecDepth 100000 in
theorem moves_lifted (os : Os) (started : os.Started) (H : Type) (enc : TypeId × Value → H) :
    ReturnsInHanded {} Tryz.checked os 8 .any (fun w args => (Rows.termMovesSpec.pre enc Tryz.prog Tryz.f8 [] false w args ∧ laidMetH Tryz.prog Rows.termMovesRow.laid w) ∧ sizedMet enc Tryz.prog Tryz.f8 (OpenSpec.ofChange Rows.termMovesSpec) false w args)
      (Rows.termMovesSpec.post enc Tryz.prog Tryz.f8 false true false false) := by
  refine returnsInHanded_of_change_and (C := Tryz.checked) (X := fun w _ => laidMetH Tryz.prog Rows.termMovesRow.laid w) (fun _ _ _ hh h => h.of_heap hh) own started (by kernel_rfl) Tryz.func8
    (ChangeSpec.witness_shaped (enc := enc) (C := Tryz.checked) (os := os) (X := fun w _ => laidMetH Tryz.prog Rows.termMovesRow.laid w) false (World.laidAll Tryz.prog os Rows.termMovesRow.laid) #[.agg #[.int .i64 0, .int .i64 0], .slice none 0 0, .slice none 0 0] 8 (World.laidAll_os _ _ _)
      (World.shaped_of_ZipB (by kernel_rfl) (by kernel_rfl)) (by kernel_rfl) (by kernel_rfl) (by kernel_rfl)
      (by rw [MakeChecks.laidMetH_plain _ _ _ (by kernel_rfl)]; exact laidMet_laidAll _ (by kernel_rfl) (by kernel_rfl))) ?_
  intro W base args ds gs before hval0 hW _ hsz0 hL _
  have hsz : (DataW.weightsEach Tryz.prog (Tryz.f8.params.toList ++ Rows.termMovesSpec.plain.varTypes Tryz.prog) (ds ++ gs)).all (· ≤ reachBytes) = true := hsz0
  have hval : ∀ (j : Nat) t v, Tryz.f8.params[j]? = some t → args[j]? = some v → Value.okWide Tryz.prog W .any base t v := hval0
  have hW' := hW
  obtain ⟨p, q, hA0, hV, rfl, _, _⟩ := hW
  have hA : DataW.TrodAll enc Tryz.prog W 0 (fun _ => true) true Tryz.f8.params.toList args.toList ds p := hA0
  rw [Tryz.params8] at hA hval hsz
  have hAll := hA
  obtain ⟨v0, v1, v2, d0, d1, d2, p0, p1, p2, rfl, rfl, rfl, h0, h1, h2⟩ := trodAll_three hA
  obtain ⟨rfl, rfl⟩ := trodVars_none hV

  have hlt : ∀ x ∈ p0 ++ p1 ++ p2, x.block < W.heap.size := fun x hx => hW'.lt x (List.mem_append_left _ hx)
  obtain ⟨r0, c0, rfl⟩ := open_two (hval 0 22 v0 rfl rfl) h0
  obtain ⟨s1, len1, cap1, rfl⟩ := okWide_slice Tryz.underlying23 (hval 1 23 v1 rfl rfl)
  obtain ⟨fu1, hf1⟩ := h1
  obtain ⟨es1, h1e⟩ := events_of (v := .slice s1 len1 cap1) (x := (d1, p1)) (by simpa [Value.cells] using hf1) (fun q hq => hlt q (by simp at hq ⊢; simp [hq])) (reach_le hsz (j := 1) rfl rfl)
  obtain ⟨s2, len2, cap2, rfl⟩ := okWide_slice Tryz.underlying51 (hval 2 51 v2 rfl rfl)
  obtain ⟨fu2, hf2⟩ := h2
  obtain ⟨ms2, h2m⟩ := moves_of (v := .slice s2 len2 cap2) (x := (d2, p2)) (by simpa [Value.cells] using hf2) (fun q hq => hlt q (by simp at hq ⊢; simp [hq]))
  refine (moves_walk W (glob_of_laid hL) r0 c0 _ es1 h1e _ ms2 h2m).mono fun e W' ⟨he, hn⟩ => ?_
  subst he
  have hb : Below W.heap.size W W' := hn.below
  exact ⟨_, rfl, _, _, _, [], _, [], hW', trodAll_mk1 (shut_bool Tryz.underlying4 _), trodAll_below laidOut hb (fun t ht => (moves_types t ht)) hAll hlt, rfl, hb.frame _, fun h => by cases h⟩

theorem moves_said : Rows.TermMovesSaid :=
  OpenClaim.holds_of_wide 8 Tryz.f8 rfl rfl rfl rfl rfl rfl rfl ⟨rfl, rfl, rfl, rfl, rfl⟩ rfl rfl rfl rfl rfl (by kernel_rfl) Tryz.func8 (by kernel_rfl)
    (of_decide_eq_true (by kernel_rfl)) (by unfold Func.isWrapper; first | (rw [if_pos (by decide +kernel)]; kernel_rfl) | (rw [if_neg (by decide +kernel)]; exact ⟨rfl, rfl⟩))
    (fun os started H enc _ => moves_lifted os started H enc)

theorem moves_plain (f : FuncId) (fn : Func) (hf : Tryz.pinned.checked.prog.funcNamed "souffleur/souffleurlaw17.TermMoves" = some f) (hfn : Tryz.pinned.checked.prog.funcs[f]? = some fn) :
    true = Tryz.pinned.checked.prog.looks [] ∧ ∀ (j : Nat) t, fn.params[j]? = some t → Tryz.pinned.checked.prog.wantsStandIn t = false := by
  obtain rfl : f = 8 := Option.some.inj ((show Tryz.prog.funcNamed "souffleur/souffleurlaw17.TermMoves" = some 8 by kernel_rfl).symm.trans hf) |>.symm
  obtain rfl : fn = Tryz.f8 := (Option.some.inj (Tryz.func8.symm.trans hfn)).symm
  refine ⟨by kernel_rfl, fun j t ht => ?_⟩
  rw [Tryz.params8] at ht
  have hm : t ∈ [22, 23, 51] := by simpa using Array.mem_of_getElem? ht
  have hall : ([22, 23, 51].all fun u => !Tryz.prog.wantsStandIn u) = true := by kernel_rfl
  exact (show Tryz.prog.wantsStandIn t = false by simpa using List.all_eq_true.1 hall t hm)

theorem moves_card : Rows.TermMovesCardSaid :=
  Claim7.holds_tied_plain_at .later [] _ _ _ _ moves_said (fun _ h => by cases h) (by kernel_rfl) (fun _ h => by cases h) termMoves_row_tie rfl ⟨rfl, rfl⟩ (by kernel_rfl) rfl moves_plain (by kernel_rfl)
#print axioms moves_card
end Go.Proofs.YtoegjmeoeefllaaGreatDoor
