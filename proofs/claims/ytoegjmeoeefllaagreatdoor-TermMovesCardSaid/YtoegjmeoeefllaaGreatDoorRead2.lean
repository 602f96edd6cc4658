/- What the arguments of a law hold: moves. -/
import Derived.Test.YtoegjmeoeefllaaGreatDoorRead
namespace Go.Proofs.YtoegjmeoeefllaaGreatDoor
open Go Go.RowKit Go.ChangeShapes Go.WideShapes Go.ChangeAt
namespace T

structure Mv where
  way : Int
  n : Int
def mvAt (ms : List Mv) (k : Nat) : Mv := ms.getD k ⟨0, 0⟩
/-- The moves ms are what the slice v holds, in blocks of G. -/
def MvIn (w : World) (v : Value) (ms : List Mv) (G : Nat → Prop) : Prop :=
  ∃ A c, v = .slice A ms.length c ∧ ms.length ≤ c ∧ c ≤ maxLen ∧ ∀ k, k < ms.length → ∃ b o, A = some ⟨b, o, none⟩ ∧ G b ∧
    w.cell? ⟨b, o + k * 2, none⟩ = some (.int .i64 (mvAt ms k).way) ∧ w.cell? ⟨b, o + k * 2 + 1, none⟩ = some (.int .i64 (mvAt ms k).n)
theorem MvIn.chg {w w' : World} {v : Value} {ms : List Mv} {G F : Nat → Prop} (h : MvIn w v ms G) (hc : Chg F w w') (hn : ∀ b, G b → ¬ F b) : MvIn w' v ms G := by
  obtain ⟨A, c, rfl, h2, h3, h4⟩ := h
  refine ⟨A, c, rfl, h2, h3, fun k hk => ?_⟩
  obtain ⟨b, o, e0, hG, e1, e2⟩ := h4 k hk
  exact ⟨b, o, e0, hG, hc.cell e1 (hn b hG), hc.cell e2 (hn b hG)⟩

section
variable {H : Type} {enc : TypeId × Value → H} {W : World}
theorem cM : Tryz.prog.cellsOf 53 = 2 := by kernel_rfl
theorem list2' {α : Type} : ∀ {l : List α}, l.length = 2 → ∃ a b, l = [a, b]
  | [a, b], _ => ⟨a, b, rfl⟩
set_option maxRecDepth 100000 in
theorem move_of {fuel : Nat} {cs : List Value} {x : DataW H × List MemPlace} (h : DataW.trod enc Tryz.prog W 0 (fun _ => true) true fuel 53 cs = some x) :
    ∃ e : Mv, cs = [.int .i64 e.way, .int .i64 e.n] := by
  obtain ⟨y0, y1, n, rfl, hl, h0, h1⟩ := trod_struct2 Tryz.underlying53 h
  rw [cM] at hl
  obtain ⟨c0, c1, rfl⟩ := list2' hl
  simp only [cI, List.drop_zero, List.drop_succ_cons, List.take_succ_cons, List.take_zero] at h0 h1
  obtain ⟨r, e1, _, _⟩ := DataW.trod_int Tryz.underlying3 h0
  obtain ⟨c, e2, _, _⟩ := DataW.trod_int Tryz.underlying3 h1
  injection e1 with e1
  injection e2 with e2
  subst e1; subst e2
  exact ⟨⟨r, c⟩, rfl⟩
set_option maxRecDepth 100000 in
/-- Moves. -/
theorem moves_of {fuel : Nat} {v : Value} {x : DataW H × List MemPlace} (h : DataW.trod enc Tryz.prog W 0 (fun _ => true) true fuel 51 [v] = some x) (_hlt : ∀ q ∈ x.2, q.block < W.heap.size) :
    ∃ ms : List Mv, MvIn W v ms (fun k => k < W.heap.size) := by
  rcases Deep.open_slice Tryz.underlying51 h with ⟨hcs, hx⟩ | ⟨a, len, cap, m, n, D, Pl, hcs, _, hl, hm, hmm, hx, hel⟩
  · injection hcs with hv
    subst hv
    exact ⟨[], none, 0, rfl, Nat.le_refl _, Nat.zero_le _, fun k hk => absurd hk (Nat.not_lt_zero _)⟩
  · injection hcs with hv
    subst hv
    simp only [if_true] at hmm
    subst hmm
    have each : ∀ i, ∃ e : Mv, i < len → ∃ b o, a = ⟨b, o, none⟩ ∧ b < W.heap.size ∧ W.cell? ⟨b, o + i * 2, none⟩ = some (.int .i64 e.way) ∧ W.cell? ⟨b, o + i * 2 + 1, none⟩ = some (.int .i64 e.n) := fun i => by
      by_cases hi : i < len
      · obtain ⟨cs', g1, g2⟩ := hel i (by omega)
        rw [cM] at g1
        obtain ⟨_, g3, g4⟩ := World.cells?_some g1
        obtain ⟨e, rfl⟩ := move_of g2
        obtain ⟨b, o, spot⟩ := a
        have hspot : spot = none := by
          obtain ⟨cs0, u1, u2⟩ := hel 0 (by omega)
          rw [cM] at u1
          obtain ⟨_, u3, u4⟩ := World.cells?_some u1
          obtain ⟨e0, rfl⟩ := move_of u2
          have k0 := u4 0 (by decide)
          simpa [Addr.add] using World.cell?_spot k0
        subst hspot
        have k0 := g4 0 (by decide)
        have k1 := g4 1 (by decide)
        rw [add_plain, add_plain] at k0 k1
        exact ⟨e, fun _ => ⟨b, o, rfl, World.block_lt_of_cell? W _ k0, k0, k1⟩⟩
      · exact ⟨⟨0, 0⟩, fun h => absurd h hi⟩
    obtain ⟨f, hf⟩ := Classical.axiomOfChoice each
    have hlen : ((List.range len).map f).length = len := by simp
    refine ⟨(List.range len).map f, some a, m, by rw [hlen], by rw [hlen]; exact hl, hm, fun k hk => ?_⟩
    rw [hlen] at hk
    have e : mvAt ((List.range len).map f) k = f k := by simp [mvAt, List.getD, hk]
    obtain ⟨b, o, rfl, q⟩ := hf k hk
    rw [e]
    exact ⟨b, o, rfl, q⟩
end
end T
end Go.Proofs.YtoegjmeoeefllaaGreatDoor
