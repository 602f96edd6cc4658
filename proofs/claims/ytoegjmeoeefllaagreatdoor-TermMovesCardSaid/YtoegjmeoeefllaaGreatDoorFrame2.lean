/- What the rows of the laws share: two numbers by value. -/
import Derived.Test.YtoegjmeoeefllaaGreatDoorFrame
namespace Go.Proofs.YtoegjmeoeefllaaGreatDoor
open Go.ChangeShapes Go.WideShapes Go.ChangeAt Go.RowKit
namespace T
theorem c2 : Tryz.prog.cellsOf 22 = 2 := by kernel_rfl
theorem list2 {α : Type} : ∀ {l : List α}, l.length = 2 → ∃ a b, l = [a, b]
  | [a, b], _ => ⟨a, b, rfl⟩
set_option maxRecDepth 100000 in
/-- Two numbers, by value. -/
theorem open_two {H : Type} {enc : TypeId × Value → H} {W : World} {base : Nat} {v : Value} {d : DataW H} {p : List MemPlace} (hval : Value.okWide Tryz.prog W .any base 22 v) (h : DataW.Trod enc Tryz.prog W 0 (fun _ => true) true 22 v d p) :
    ∃ r c, v = .agg #[.int .i64 r, .int .i64 c] := by
  obtain ⟨cs, rfl, hsz⟩ : ∃ cs : Array Value, v = .agg cs ∧ cs.size = 2 := by
    simp only [Value.okWide, Tryz.underlying22] at hval
    obtain ⟨cs, h1, h2, _⟩ := hval
    exact ⟨cs, h1, h2.trans c2⟩
  obtain ⟨fuel, hf⟩ := h
  obtain ⟨xs, m, rfl, _, _, hl, hel⟩ := DataW.trod_array Tryz.underlying22 hf
  obtain ⟨l⟩ := cs
  obtain ⟨a, b, rfl⟩ := list2 (l := l) (by simpa using hsz)
  have h0 := hel 0 (by decide)
  have h1 := hel 1 (by decide)
  rw [List.getElem?_eq_getElem (by omega)] at h0 h1
  rw [cI] at h0 h1
  simp only [Value.cells, Nat.zero_mul, List.drop_zero, List.take_succ_cons, List.take_zero, Nat.one_mul, List.drop_succ_cons] at h0 h1
  obtain ⟨r, e0, _, _⟩ := DataW.trod_int Tryz.underlying3 h0
  obtain ⟨c, e1, _, _⟩ := DataW.trod_int Tryz.underlying3 h1
  injection e0 with e0
  injection e1 with e1
  subst e0; subst e1
  exact ⟨r, c, rfl⟩
end T
end Go.Proofs.YtoegjmeoeefllaaGreatDoor
