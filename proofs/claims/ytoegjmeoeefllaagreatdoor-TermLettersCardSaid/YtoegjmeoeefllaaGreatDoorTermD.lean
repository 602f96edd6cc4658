/- Walks: slices.Repeat of one cell; blank. -/
import Derived.Test.YtoegjmeoeefllaaGreatDoorTermC
import Derived.Test.YtoegjmeoeefllaaGreatDoorShelf
import Derived.Deep.RegionLaw
namespace Go.Proofs.YtoegjmeoeefllaaGreatDoor
open Go Go.RowKit
namespace T
attribute [local go_sem ↓] Go.wp_at_zero Go.wp_at_succ

theorem mul1_calls (n : Nat) (hn : n ≤ 1000000) (w : World) : Calls Tryz.prog 41 #[.int .u64 1, .int .u64 n] w fun e w' => e = .returned (.tuple #[.int .u64 0, .int .u64 n]) ∧ w = w' := by
  refine (Tryz.bits_Mul 1 n (by omega) (by omega) w).mono ?_
  rintro e w' ⟨rfl, rfl⟩
  refine ⟨?_, rfl⟩
  rw [show (1 * n / 18446744073709551616 : Nat) = 0 by omega, show (1 * n % 18446744073709551616 : Nat) = n by omega]
  rfl

theorem flat_replicate_succ (k m : Nat) (c : Cell) : flat (List.replicate k c) ++ flat (List.replicate m c) = flat (List.replicate (k + m) c) := by
  rw [← flat_append, List.replicate_append_replicate]

/-- What a doubling does. -/
theorem doubled {l : List Value} {n k : Nat} {c : Cell} (hl : l.length = n * 3) (hk : k ≤ n) (h : l.take (k * 3) = flat (List.replicate k c)) :
    (splice l (k * 3) (l.take (min k (n - k) * 3))).take ((k + min k (n - k)) * 3) = flat (List.replicate (k + min k (n - k)) c) := by
  have e : l.take (min k (n - k) * 3) = flat (List.replicate (min k (n - k)) c) := by
    have : l.take (min k (n - k) * 3) = (l.take (k * 3)).take (min k (n - k) * 3) := by rw [List.take_take]; congr 1; omega
    rw [this, h, ← flat_take, List.take_replicate]; congr 2; omega
  have hlen : (l.take (min k (n - k) * 3)).length = min k (n - k) * 3 := by simp; omega
  have hlt : (l.take (k * 3)).length = k * 3 := by simp; omega
  rw [splice, ← flat_replicate_succ, ← e, ← h, List.take_left']
  simp [hlen, hlt]; omega

set_option maxHeartbeats 400000 in
theorem Repeat_calls (w : World) (A : Option Addr) (cx : Nat) (c : Cell) (G : Nat → Prop) (hr : Rd w 3 (.slice A 1 cx) 1 (flatC c) G) (n : Nat) (hn : n ≤ 1000000) :
    Calls Tryz.prog 33 #[.slice A 1 cx, .int .i64 n] w fun e w' => ∃ A' c', e = .returned (.slice A' n c') ∧ Sl w' 32 3 (.slice A' n c') n (flat (List.replicate n c)) (fun b => w.heap.size ≤ b) ∧ Chg Non w w' := by
  obtain ⟨xb, xo, rfl, hG, hcell⟩ := hr.pos (by omega)
  have hmk := fun w => run_make_blk eiCell w n (by omega)
  have hone : Tryz.prog.underlying 29 = some (.slice 32) := Tryz.underlying29
  obtain ⟨Z, hZ⟩ : ∃ Z : List Value, madeCells (Value.cells (.agg #[.string ByteArray.empty, .int .i64 0, .bool false])) (n * 3) = Z.toArray := ⟨_, rfl⟩
  have hZl : Z.length = n * 3 := by
    have := size_madeCells (Value.cells (.agg #[.string ByteArray.empty, .int .i64 0, .bool false])) (n * 3)
    rw [hZ] at this; simpa using this
  rw [hZ] at hmk
  clear hZ
  have hB := Blk.new w Z 32
  have HZl := Lib.hid hZl
  have Hcell := Lib.hid hcell
  clear hZl hcell hone
  have hcell2 : ∀ j u, (flatC c)[j]? = some u → (w.alloc (.cells Z.toArray 32)).cell? ⟨xb, xo + j, none⟩ = some u := fun j u hj => by
    refine (Chg.alloc (Chg.refl Non w) (.cells Z.toArray 32)).cell ?_ (fun h => h)
    rw [Hcell.out j (by have := (List.getElem?_eq_some_iff.1 hj).1; simpa [flatC] using this)]; exact hj
  have Hcell2 := Lib.hid hcell2
  clear hcell2
  obtain ⟨m1, hm1⟩ : ∃ m1, m1 = Nat.min 1 n := ⟨_, rfl⟩
  have hm2 : m1 ≤ n := by rw [hm1]; exact Nat.min_le_right _ _
  have hm3 : 0 < n → m1 = 1 := fun h => by rw [hm1]; exact Nat.min_eq_left h
  have hm4 : m1 ≤ 1 := by rw [hm1]; exact Nat.min_le_left _ _
  have hl1 : ((flatC c).take (m1 * 3)).length = Nat.min 1 n * 3 := by rw [← hm1, List.length_take]; simp [flatC]; omega
  have hsrc1 : 0 < Nat.min 1 n → ∃ sb so, (some ⟨xb, xo, none⟩ : Option Addr) = some ⟨sb, so, none⟩ ∧ ∀ j u, ((flatC c).take (m1 * 3))[j]? = some u → (w.alloc (.cells Z.toArray 32)).cell? ⟨sb, so + j, none⟩ = some u := fun _ => ⟨xb, xo, rfl, fun j u hj => Hcell2.out j u (by
    rw [List.getElem?_take] at hj; split at hj; exact hj; cases hj)⟩
  have hfit1 : 0 + ((flatC c).take (m1 * 3)).length ≤ Z.length := by rw [HZl.out, hl1, ← hm1]; omega
  have hone1 : ∀ u ∈ (flatC c).take (m1 * 3), u.oneCell' = true := fun u hu => flatC_one u (List.mem_of_mem_take hu)
  have H1 := Lib.hid (And.intro hl1 (And.intro hsrc1 (And.intro hfit1 hone1)))
  have Hm := Lib.hid (And.intro hm1 hm3)
  clear hl1 hsrc1 hfit1 hone1 hm1 hm3
  go_enter Tryz.func33, Tryz.ntmps33
  go_wp2_with fail
  refine (mul1_calls n hn _).mono ?_; rintro e w' ⟨rfl, rfl⟩
  go_wp2_with ((refine wpList_copy_blk (by rfl) _ _ 29 29 (by rfl) Tryz.underlying29 szCell (by rfl) (by rfl) hB ((flatC c).take (m1 * 3)) H1.out.1 H1.out.2.1 H1.out.2.2.2 H1.out.2.2.1 ?_; intro w2 h2 hc2 hz2))
  go_loopw [8] (fun i wr => ∃ k : Nat, i = .int .i64 k ∧ (0 < n → 1 ≤ k) ∧ k ≤ n ∧ ∃ l, Blk wr w.heap.size l 32 ∧ l.length = n * 3 ∧ l.take (k * 3) = flat (List.replicate k c) ∧ Chg Non w wr) (fun i _ => n - (intOf i).toNat)
  case atStart =>
    refine ⟨m1, ?_, fun h => by have := Hm.out.2 h; omega, hm2, _, h2, ?_, ?_, ((Chg.refl Non w).alloc _).trans hc2 (fun b hb => .inr (by omega))⟩
    · rw [Hm.out.1]
    · rw [length_splice _ _ _ H1.out.2.2.1, HZl.out]
    · have : m1 = 0 ∨ m1 = 1 := by omega
      rcases this with rfl | rfl <;> simp [splice, flat, flatC]
  case round =>
    obtain ⟨k, rfl, hk1, hkn, l, hb, hl, ht, hc⟩ := hrel
    by_cases hlt : k < n
    · have hk : 1 ≤ k := hk1 (by omega)
      have hne : ¬ n = k := by omega
      have hk0 : (0 : Int) ≤ k := by omega
      have hkn' : (k : Int) ≤ n := by omega
      have hmin : Nat.min k (n - k) = min k (n - k) := rfl
      have hl1 : (l.take (min k (n - k) * 3)).length = Nat.min k (n - k) * 3 := by rw [List.length_take, hl, hmin]; omega
      have hsrc1 : 0 < Nat.min k (n - k) → ∃ sb so, (some ⟨w.heap.size, 0, none⟩ : Option Addr) = some ⟨sb, so, none⟩ ∧ ∀ j u, (l.take (min k (n - k) * 3))[j]? = some u → wr.cell? ⟨sb, so + j, none⟩ = some u := fun _ => ⟨_, _, rfl, fun j u hj => by
        rw [List.getElem?_take] at hj; split at hj; rw [Nat.zero_add, hb.cell]; exact hj; cases hj⟩
      have hfit1 : k * 3 + (l.take (min k (n - k) * 3)).length ≤ l.length := by rw [hl1, hl, hmin]; omega
      have hone1 : ∀ u ∈ l.take (min k (n - k) * 3), u.oneCell' = true := fun u hu => by
        have : l.take (min k (n - k) * 3) = (l.take (k * 3)).take (min k (n - k) * 3) := by rw [List.take_take]; congr 1; omega
        rw [this, ht] at hu; exact flat_one _ u (List.mem_of_mem_take hu)
      have Hdb := Lib.hid (doubled hl hkn ht)
      have Hsl := Lib.hid (length_splice l (k * 3) _ hfit1)
      have H2 := Lib.hid (And.intro hl1 (And.intro hsrc1 (And.intro hfit1 hone1)))
      have Hl := Lib.hid hl
      clear hl1 hsrc1 hfit1 hone1 hmin hl ht
      go_wp2_with fail
      go_region_held3 (fun w' => w' = wr.drew ∨ True) (first | (exact .inr trivial)) ((refine step_copy_blk (by rfl) (.tmp 41) (.tmp 44) 29 29 (by rfl) Tryz.underlying29 szCell (by rfl) (by rfl) hb (l.take (min k (n - k) * 3)) H2.out.1 H2.out.2.1 H2.out.2.2.2 H2.out.2.2.1 ?_; intro w2 h2 hc2 hz2))
      go_wp2
      go_roundw
      case rel =>
        refine ⟨k + min k (n - k), ?_, fun _ => by omega, by omega, _, h2, ?_, Hdb.out, (hc.drew).trans hc2 (fun b hb => .inr (by omega))⟩
        · have e : Nat.min k (n - k) = min k (n - k) := rfl
          rw [IntWalk.i64_in _ (by rw [e]; omega), e]; go_num
        · rw [Hsl.out, Hl.out]
      case measure => rw [IntWalk.i64_in _ (by have e : Nat.min k (n - k) = min k (n - k) := rfl; rw [e]; omega)]; simp only [intOf]; have e : Nat.min k (n - k) = min k (n - k) := rfl; rw [e]; omega
    · go_wp2
      go_ret
      have e : k = n := by omega
      subst e
      exact ⟨_, _, rfl, ⟨flat_length _ |>.trans (by simp), .inr ⟨w.heap.size, Nat.le_refl _, 0, k, l, rfl, hb, Nat.le_refl _, by unfold maxLen; omega, by omega, by simpa using ht⟩⟩, hc⟩

/-- blank: a blank row. -/
theorem blank_calls (w : World) (n : Nat) (hn : n ≤ 1000000) :
    Calls Tryz.prog 28 #[.int .i64 n] w fun e w' => ∃ A' c', e = .returned (.slice A' n c') ∧ Sl w' 32 3 (.slice A' n c') n (flat (blankRow n)) (fun b => w.heap.size ≤ b) ∧ Chg Non w w' := by
  go_enter Tryz.func28, Tryz.ntmps28
  go_wp2_with fail
  refine (Blank_calls _).mono ?_; rintro e w1 ⟨rfl, hc1⟩
  have hr : Rd (w1.alloc (.cells (flatC Blank).toArray 32)) 3 (.slice (some ⟨w1.heap.size, 0, none⟩) 1 1) 1 (flatC Blank) (fun _ => True) := Rd.new _ _ _ _ rfl (by omega)
  go_wp2_with fail
  refine (Repeat_calls _ _ _ Blank _ hr n hn).mono ?_; rintro e w2 ⟨A', c', rfl, hs, hc2⟩
  go_wp2_with fail
  go_ret
  have hsz := hc1.size
  exact ⟨_, _, rfl, hs.mono (fun k _ hk => by simp at hk; omega), (hc1.alloc _).thenN hc2⟩
end T
end Go.Proofs.YtoegjmeoeefllaaGreatDoor
