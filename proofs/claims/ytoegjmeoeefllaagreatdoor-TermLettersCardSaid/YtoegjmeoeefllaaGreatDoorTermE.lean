/- Walks: cut; New. -/
import Derived.Test.YtoegjmeoeefllaaGreatDoorTermD
namespace Go.Proofs.YtoegjmeoeefllaaGreatDoor
open Go Go.RowKit
namespace T
attribute [local go_sem ↓] Go.wp_at_zero Go.wp_at_succ
attribute [local go_sem high] run_max_2 run_min_2

theorem cut_calls (r c : Int) (w : World) : Calls Tryz.prog 27 #[.int .i64 r, .int .i64 c] w fun e w' => e = .returned (.tuple #[.int .i64 (min (max r 1) 60), .int .i64 (min (max c 1) 120)]) ∧ w = w' := by
  go_enter Tryz.func27, Tryz.ntmps27
  go_wp2
  go_ret2
  exact ⟨rfl, rfl⟩

def cutR (r : Int) : Nat := (min (max r 1) 60).toNat
def cutC (c : Int) : Nat := (min (max c 1) 120).toNat
theorem cutR_eq (r : Int) : (min (max r 1) 60 : Int) = cutR r := by unfold cutR; omega
theorem cutC_eq (c : Int) : (min (max c 1) 120 : Int) = cutC c := by unfold cutC; omega
theorem cutR_in (r : Int) : 1 ≤ cutR r ∧ cutR r ≤ 60 := by unfold cutR; omega
theorem cutC_in (c : Int) : 1 ≤ cutC c ∧ cutC c ≤ 120 := by unfold cutC; omega
/-- New: blank cells. -/
def New (r c : Int) : Term := { cols := cutC c, l := List.replicate (cutR r) (blankRow (cutC c)), gone := [], off := 0, row := 0, col := 0, full := false, dim := false, ins := 0, seq := ByteArray.empty, b := [] }

theorem rowAt_replicate {k n : Nat} {r : List Cell} (h : k < n) : rowAt (List.replicate n r) k = r := by simp [rowAt, h]
theorem take_replicate' {k n : Nat} (r : List Cell) (h : k ≤ n) : (List.replicate n r).take k = List.replicate k r := by rw [List.take_replicate, Nat.min_eq_left h]

set_option maxHeartbeats 400000 in
theorem New_calls (r c : Int) (w : World) : Calls Tryz.prog 16 #[.int .i64 r, .int .i64 c] w fun e w' => ∃ p, e = .returned (.pointer (some ⟨p, 0, none⟩)) ∧ IsTerm w' p (New r c) (fun b => w.heap.size ≤ b ∧ b < w'.heap.size) ∧ Chg Non w w' := by
  have hR := cutR_in r
  have hC := cutC_in c
  unfold New
  obtain ⟨R, eR⟩ : ∃ R, R = cutR r := ⟨_, rfl⟩
  obtain ⟨C, eC⟩ : ∃ C, C = cutC c := ⟨_, rfl⟩
  rw [← eR, ← eC]; rw [← eR] at hR; rw [← eC] at hC
  have ER := Lib.hid (And.intro eR eC)
  clear eR eC
  go_enter Tryz.func16, Tryz.ntmps16
  go_wp2_with fail
  refine (cut_calls r c w).mono ?_; rintro e w' ⟨rfl, rfl⟩
  rw [cutR_eq, cutC_eq, ← ER.out.1, ← ER.out.2]
  go_wp2_with fail
  go_loopw [16] (fun i wr => ∃ k : Nat, i = .int .i64 k ∧ k ≤ R ∧ ∃ A cap vs bs, Blk wr w.heap.size [.int .i64 C, .slice A k cap, .slice none 0 0, .int .i64 0, .int .i64 0, .int .i64 0, .bool false, .bool false, .int .i64 0, .string ByteArray.empty, .slice none 0 0] 57 ∧
      Sl wr 29 1 (.slice A k cap) k vs (fun b => w.heap.size ≤ b) ∧ RowsIn wr ((List.replicate R (blankRow C)).take k) vs bs (fun b => w.heap.size ≤ b) ∧ bs.Nodup ∧ Chg Non w wr) (fun i _ => R - (intOf i).toNat)
  case atStart =>
    exact ⟨0, rfl, Nat.zero_le _, none, 0, [], [], Blk.new _ _ _, Sl.nil _ _ _ _, RowsIn.nil _ _, List.nodup_nil, (Chg.refl _ _).alloc _⟩
  case round =>
    obtain ⟨k, rfl, hk, A, cap, vs, bs, hb, hs, hr, hnd, hc⟩ := hrel
    have c1 : wr.cell? ⟨w.heap.size, 1, none⟩ = some (.slice A k cap) := by rw [hb.cell]; rfl
    have f1 := hb.frozen 1
    by_cases hlt : k < R
    · go_wp2_with fail
      have hlt0 := hb.lt
      go_region_law (first | (have hguard := hc1; refine step_append_sl (o := ⟨some 26, _, _, _, _, _⟩) (by rfl) _ _ 55 (by rfl) eiRow (by rfl) ((hs.chg ((Chg.refl Non wr).drew) (fun _ _ h => h)).chg (hc1.alloc _) (fun _ _ h => h)) (by rfl) (Rd.new _ [_] _ _ (by rfl) (by omega)) (by simp [Value.oneCell']) (by omega) ?_; intro A2 cap2 w2 hs2 hc2 hl2 hz2; have hb2 := ((hb.drew).chg (hc1.alloc _) (fun h => h)).chg hc2 (fun hw => absurd (hs.wbT hw hb) (by decide)); have c2' := hb2.cell 1; have f2' := hb2.frozen 1) | (go_simp; go_at_call 28; refine (blank_calls _ C (by omega)).mono ?_; rintro e w1 ⟨A1, cap1, rfl, hs1, hc1⟩; have c1' := hc1.cell c1 (fun h => h); have hlt1 := Nat.lt_of_lt_of_le hlt0 hc1.size))
      all_goals
        obtain ⟨bs2, g1, g2, g3, g4⟩ := gather (u := .slice A1 C cap1) (v := .slice A k cap) (rows := List.replicate R (blankRow C)) (by simpa using hlt) (hs.chg ((Chg.refl Non wr).drew) (fun _ _ h => h)) (hr.chg ((Chg.refl Non wr).drew) (fun _ _ h => h)) hnd hc.drew (by rw [rowAt_replicate hlt]; simpa [blankRow] using hs1) (by rw [rowAt_replicate hlt]; simp [blankRow]; omega) hc1 (by simpa using hs2) hc2
        have hb3 := hb2.set 1 (.slice A2 (k + 1) cap2)
        have hc3 := Chg.at_ (Chg.at0 w.heap.size w2) 1 (.slice A2 (k + 1) cap2)
        go_wp2
        go_roundw
        case rel =>
          exact ⟨k + 1, by go_num, by omega, _, _, _, _, hb3, g1.chgT hc3 (fun b l _ hl e => hl.ne hb2 (by decide) e), g2.chgT hc3 (fun b l _ hl e => hl.ne hb2 (by decide) e), g3, g4.trans hc3 (fun b e => .inr (by omega))⟩
        case measure => simp [intOf]; omega
    · go_wp2
      go_ret
      have e : k = R := by omega
      subst e
      refine ⟨_, rfl, ⟨.slice A k cap, .slice none 0 0, .slice none 0 0, vs, [], bs, [], ?_⟩, hc⟩
      rw [List.take_of_length_le (by simp)] at hr
      exact { blk := hb, l := (by simpa using hs.mono (fun b hl hb => And.intro hb hl)), rows := hr.mono (fun b hl hb => And.intro hb hl), nodup := hnd, g := Sl.nil _ _ _ _, grows := RowsIn.nil _ _, apart := (by simp), lg := (by rintro b _ ⟨A', n', c', hv, h0, _⟩; injection hv with _ _ e; omega), b := Sl.nil _ _ _ _, own := ⟨Nat.le_refl _, hb.lt⟩, lt := fun b hb => hb.2 }
end T
end Go.Proofs.YtoegjmeoeefllaaGreatDoor
