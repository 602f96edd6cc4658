/- What the arguments of a law hold, out of their readings: bytes; events. -/
import Derived.Test.YtoegjmeoeefllaaGreatDoorTermZ
import Derived.ProofKit
import Derived.OpenShut
import Derived.Deep.Slices
import Derived.Lib.SmallJoins
import Derived.SizedLaws
import Derived.Stop.LaidErr
namespace Go.Proofs.YtoegjmeoeefllaaGreatDoor
open Go Go.RowKit Go.ChangeShapes Go.WideShapes Go.ChangeAt
namespace T

theorem byte_wf {x : Int} (h : (Lit.int .u8 x).wf = true) : 0 ≤ x ∧ x < 256 := by
  have := bounds_u8 h
  omega

section
variable {H : Type} {enc : TypeId × Value → H} {W : World}

/-- Bytes. -/
theorem bytes_of {fuel : Nat} {v : Value} {x : DataW H × List MemPlace} (h : DataW.trod enc Tryz.prog W 0 (fun _ => true) true fuel 34 [v] = some x) (hlt : ∀ q ∈ x.2, q.block < W.heap.size)
    (hsz : ∀ m ∈ x.1.weights Tryz.prog 34, m ≤ 140737488355328) :
    ∃ b : List Int, Rd W 1 v b.length (b.map (Value.int .u8)) (fun k => k < W.heap.size) ∧ (∀ x ∈ b, 0 ≤ x ∧ x < 256) ∧ b.length ≤ 140737488355328 ∧ (v = .slice none 0 0 ∨ ∃ a c, v = .slice (some a) b.length c) := by
  rcases open_ints Tryz.underlying34 Tryz.underlying5 (by kernel_rfl) h with ⟨hcs, hx⟩ | ⟨a, len, cap, zs, hcs, _, hl, hm, hz, hx, hcell, hwz⟩
  · injection hcs with hv
    subst hv
    exact ⟨[], ⟨rfl, none, 0, rfl, Nat.le_refl _, Nat.zero_le _, .inl rfl⟩, fun x hx => by simp at hx, Nat.zero_le _, .inl rfl⟩
  · injection hcs with hv
    subst hv
    simp only [if_true] at hz
    have hlen : (zs.take len).length = len := by rw [List.length_take]; omega
    have hw : len ≤ 140737488355328 := by
      have e : x.1 = .slice (lits .u8 (zs.take len)) (lits .u8 (zs.drop len)) := by rw [hx]
      have h2 := hsz (((lits (H := H) .u8 (zs.take len)).length + (lits (H := H) .u8 (zs.drop len)).length) * Tryz.prog.bytesOf 5) (by rw [e]; simp [DataW.weights, Tryz.underlying34])
      have hb : Tryz.prog.bytesOf 5 = 1 := by kernel_rfl
      rw [hb] at h2
      simp [lits] at h2
      omega
    refine ⟨zs.take len, ⟨by simp, some a, cap, by rw [hlen], by rw [hlen]; exact hl, hm, ?_⟩, fun x hx => byte_wf (hwz x (List.mem_of_mem_take hx)), by rw [hlen]; exact hw, .inr ⟨a, cap, by rw [hlen]⟩⟩
    by_cases h0 : len = 0
    · exact .inl (by rw [hlen]; exact h0)
    · obtain ⟨b, off, rfl, hc⟩ := ints_at hcell (by omega)
      refine .inr ⟨b, off, rfl, ?_, fun j hj => ?_⟩
      · have := hlt (.cell b off) (by rw [hx]; exact List.mem_map.2 ⟨0, by simp; omega, by simp⟩)
        exact this
      · rw [hlen, Nat.mul_one] at hj
        rw [hc j (by omega), List.getElem?_map, List.getElem?_take, if_pos hj]
        have hj2 : j < zs.length := by omega
        simp [List.getD, hj2]
theorem weightsAll_mem {P : Program} {e : TypeId} : ∀ {l : List (DataW H)} {d : DataW H}, d ∈ l → ∀ n ∈ d.weights P e, n ∈ DataW.weightsAll P e l
  | d' :: r, d, hd, n, hn => by
    simp only [DataW.weightsAll, List.mem_append]
    rcases List.mem_cons.1 hd with rfl | h
    · exact .inl hn
    · exact .inr (weightsAll_mem h n hn)

theorem cB : Tryz.prog.cellsOf 4 = 1 := by kernel_rfl
theorem cI : Tryz.prog.cellsOf 3 = 1 := by kernel_rfl
theorem cS : Tryz.prog.cellsOf 34 = 1 := by kernel_rfl
theorem cE : Tryz.prog.cellsOf 46 = 4 := by kernel_rfl
theorem list4 {α : Type} : ∀ {l : List α}, l.length = 4 → ∃ a b c d, l = [a, b, c, d]
  | [a, b, c, d], _ => ⟨a, b, c, d, rfl⟩
set_option maxRecDepth 100000 in
/-- One event. -/
theorem event_of {fuel : Nat} {cs : List Value} {x : DataW H × List MemPlace} (h : DataW.trod enc Tryz.prog W 0 (fun _ => true) true fuel 46 cs = some x) (hlt : ∀ q ∈ x.2, q.block < W.heap.size)
    (hsz : ∀ m ∈ x.1.weights Tryz.prog 46, m ≤ 140737488355328) :
    ∃ (e : Ev) (bv : Value), cs = [.bool e.size, .int .i64 e.rows, .int .i64 e.cols, bv] ∧ Rd W 1 bv e.b.length (e.b.map (Value.int .u8)) (fun k => k < W.heap.size) ∧ (∀ x ∈ e.b, 0 ≤ x ∧ x < 256) ∧ e.b.length ≤ 140737488355328 := by
  obtain ⟨y0, y1, y2, y3, n, rfl, hl, h0, h1, h2, h3⟩ := Joins.trod_struct4 Tryz.underlying46 h
  rw [cE] at hl
  obtain ⟨c0, c1, c2, c3, rfl⟩ := list4 hl
  · simp only [cB, cI, cS, List.drop_zero, List.drop_succ_cons, List.take_succ_cons, List.take_zero] at h0 h1 h2 h3
    obtain ⟨b, e0, _⟩ := DataW.trod_bool Tryz.underlying4 h0
    obtain ⟨r, e1, _, _⟩ := DataW.trod_int Tryz.underlying3 h1
    obtain ⟨c, e2, _, _⟩ := DataW.trod_int Tryz.underlying3 h2
    injection e0 with e0
    injection e1 with e1
    injection e2 with e2
    subst e0; subst e1; subst e2
    obtain ⟨l, g1, g2, g3, _⟩ := bytes_of h3 (fun q hq => hlt q (by simp [hq])) (fun m hm => hsz m (by
      simp only [DataW.weights, Tryz.underlying46, List.map_cons, List.map_nil, DataW.weightsEach, List.mem_append]
      exact .inr (.inr (.inr (.inl hm)))))
    exact ⟨⟨b, r, c, l⟩, c3, rfl, g1, g2, g3⟩

set_option maxRecDepth 100000 in
/-- Events. -/
theorem events_of {fuel : Nat} {v : Value} {x : DataW H × List MemPlace} (h : DataW.trod enc Tryz.prog W 0 (fun _ => true) true fuel 23 [v] = some x) (hlt : ∀ q ∈ x.2, q.block < W.heap.size)
    (hsz : ∀ m ∈ x.1.weights Tryz.prog 23, m ≤ 140737488355328) : ∃ es : List Ev, EvIn W v es (fun k => k < W.heap.size) := by
  rcases Deep.open_slice Tryz.underlying23 h with ⟨hcs, hx⟩ | ⟨a, len, cap, m, n, D, Pl, hcs, _, hl, hm, hmm, hx, hel⟩
  · injection hcs with hv
    subst hv
    exact ⟨[], none, 0, rfl, Nat.le_refl _, Nat.zero_le _, fun k hk => absurd hk (Nat.not_lt_zero _)⟩
  · injection hcs with hv
    subst hv
    simp only [if_true] at hmm
    subst hmm
    have each : ∀ i, ∃ e : Ev, i < len → ∃ b o bv, a = ⟨b, o, none⟩ ∧ b < W.heap.size ∧
        W.cell? ⟨b, o + i * 4, none⟩ = some (.bool e.size) ∧ W.cell? ⟨b, o + i * 4 + 1, none⟩ = some (.int .i64 e.rows) ∧ W.cell? ⟨b, o + i * 4 + 2, none⟩ = some (.int .i64 e.cols) ∧
        W.cell? ⟨b, o + i * 4 + 3, none⟩ = some bv ∧ Rd W 1 bv e.b.length (e.b.map (Value.int .u8)) (fun k => k < W.heap.size) ∧ (∀ x ∈ e.b, 0 ≤ x ∧ x < 256) ∧ e.b.length ≤ 140737488355328 := fun i => by
      by_cases hi : i < len
      · obtain ⟨cs', g1, g2⟩ := hel i (by omega)
        rw [cE] at g1
        obtain ⟨_, g3, g4⟩ := World.cells?_some g1
        obtain ⟨e, bv, rfl, q1, q2, q3⟩ := event_of g2 (fun q hq => hlt q (by
          rw [hx]
          exact List.mem_append_right _ (List.mem_flatMap.2 ⟨i, List.mem_range.2 (by omega), hq⟩))) (fun mm hmm => hsz mm (by
          rw [hx]
          simp only [DataW.weights, Tryz.underlying23, List.mem_cons, List.mem_append]
          exact .inr (.inl (weightsAll_mem (List.mem_map.2 ⟨i, List.mem_range.2 hi, rfl⟩) mm hmm))))
        obtain ⟨b, o, spot⟩ := a
        have hspot : spot = none := by
          obtain ⟨cs0, u1, u2⟩ := hel 0 (by omega)
          rw [cE] at u1
          obtain ⟨_, u3, u4⟩ := World.cells?_some u1
          obtain ⟨e0, bv0, rfl, _⟩ := event_of u2 (fun q hq => hlt q (by
            rw [hx]
            exact List.mem_append_right _ (List.mem_flatMap.2 ⟨0, List.mem_range.2 (by omega), hq⟩))) (fun mm hmm => hsz mm (by
            rw [hx]
            simp only [DataW.weights, Tryz.underlying23, List.mem_cons, List.mem_append]
            exact .inr (.inl (weightsAll_mem (List.mem_map.2 ⟨0, List.mem_range.2 (by omega), rfl⟩) mm hmm))))
          have k0 := u4 0 (by decide)
          simpa [Addr.add] using World.cell?_spot k0
        subst hspot
        have k0 := g4 0 (by decide)
        have k1 := g4 1 (by decide)
        have k2 := g4 2 (by decide)
        have k3 := g4 3 (by decide)
        rw [add_plain, add_plain] at k0 k1 k2 k3
        exact ⟨e, fun _ => ⟨b, o, bv, rfl, World.block_lt_of_cell? W _ k0, k0, k1, k2, k3, q1, q2, q3⟩⟩
      · exact ⟨⟨false, 0, 0, []⟩, fun h => absurd h hi⟩
    obtain ⟨f, hf⟩ := Classical.axiomOfChoice each
    have hlen : ((List.range len).map f).length = len := by simp
    refine ⟨(List.range len).map f, some a, m, by rw [hlen], by rw [hlen]; exact hl, hm, fun k hk => ?_⟩
    rw [hlen] at hk
    have e : evAt ((List.range len).map f) k = f k := by simp [evAt, List.getD, hk]
    obtain ⟨b, o, bv, rfl, q⟩ := hf k hk
    rw [e]
    exact ⟨b, o, bv, rfl, q⟩
end
end T
end Go.Proofs.YtoegjmeoeefllaaGreatDoor
