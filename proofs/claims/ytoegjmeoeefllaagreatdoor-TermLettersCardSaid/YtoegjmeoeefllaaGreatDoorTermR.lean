/- Walks: signs; plain. -/
import Derived.Test.YtoegjmeoeefllaaGreatDoorTermL
namespace Go.Proofs.YtoegjmeoeefllaaGreatDoor
open Go Go.RowKit
namespace T
attribute [local go_sem high] run_max_2 run_min_2
attribute [local go_sem ↓] Go.wp_at_zero Go.wp_at_succ

def signsR (t : Term) : List Int → Term
  | [] => t
  | r :: l => signsR (signR t r) l
theorem signsR_append (t : Term) (a b : List Int) : signsR t (a ++ b) = signsR (signsR t a) b := by
  induction a generalizing t with
  | nil => rfl
  | cons r a ih => exact ih _
theorem Ok.signs {o n : Nat} {t : Term} (h : Ok o n t) : ∀ l : List Int, Ok (o + 2 * l.length) (n + 4 * l.length) (signsR t l)
  | [] => h
  | r :: l => ((h.sign r).signs l).mono (by simp; omega) (by simp; omega)

theorem signs_calls {p : Nat} {w : World} {t : Term} {F : Nat → Prop} {o n : Nat} (h : IsTerm w p t F) (hk : Ok o n t) (ho : o ≤ 10000000) (hn : n ≤ 100000000) {v : Value} {m : Nat} {l : List Int} {G : Nat → Prop}
    (hm : m ≤ 1000) (hr : Rd w 1 v m (l.map (Value.int .i32)) G) (hG : ∀ b, G b → ¬ F b) :
    Calls Tryz.prog 37 #[.pointer (some ⟨p, 0, none⟩), v] w fun e w' => e = .returned (.tuple #[]) ∧ Turned w p F (signsR t l) w' := by
  have hlen := hr.length
  rw [List.length_map, Nat.mul_one] at hlen
  obtain ⟨A, c, rfl, h2, h3⟩ := hr.shape
  unfold maxLen at h3
  have HI := Lib.hid h
  have HK := Lib.hid hk
  have HR := Lib.hid hr
  have HL := Lib.hid hlen
  clear h hk hr hlen
  go_enter Tryz.func37, Tryz.ntmps37
  go_wp2
  go_loopw [8] (fun i wr => ∃ k : Nat, i = .int .i64 k ∧ k ≤ m ∧ Turned w p F (signsR t (l.take k)) wr) (fun i _ => m - (intOf i).toNat)
  case atStart => exact ⟨0, rfl, Nat.zero_le _, Turned.same HI.out (Chg.refl _ _)⟩
  case round =>
    obtain ⟨k, rfl, hk, hT⟩ := hrel
    by_cases hlt : k < m
    · have hlt' : (k : Int) < (m : Int) := by omega
      obtain ⟨lb, lo, rfl, hGb, hcell⟩ := HR.out.pos (by omega)
      obtain ⟨F1, hI1, hC1, hN1⟩ := hT
      obtain ⟨x, hx⟩ : ∃ x, l[k]? = some x := ⟨l[k]'(by have := HL.out; omega), List.getElem?_eq_getElem _⟩
      have c1 : wr.cell? ⟨lb, lo + k, none⟩ = some (.int .i32 x) := hC1.cell (by rw [hcell k (by omega), List.getElem?_map, hx]; rfl) (hG lb hGb)
      have hk1 : Ok (o + 2000) (n + 4000) (signsR t (l.take k)) := (HK.out.signs (l.take k)).mono (by rw [List.length_take]; omega) (by rw [List.length_take]; omega)
      have HI1 := Lib.hid hI1
      have HK1 := Lib.hid hk1
      have HX := Lib.hid hx
      clear hcell hI1 hk1 hx
      go_wp2_with fail
      refine (sign_calls HI1.out HK1.out (by omega) (by omega) x).mono ?_
      rintro e w1 ⟨rfl, hT1⟩
      go_wp2_with fail
      go_roundw
      case rel =>
        refine ⟨k + 1, by go_num, by omega, ?_⟩
        have e : l.take (k + 1) = l.take k ++ [x] := by rw [List.take_add_one, HX.out]; rfl
        rw [e, signsR_append]
        exact Turned.then hC1 hN1 hT1
      case measure => simp [intOf]; omega
    · have hge : ¬ (k : Int) < (m : Int) := by omega
      go_wp2_with fail
      go_end0
      have e : l.take k = l := List.take_of_length_le (by have := HL.out; omega)
      rw [e] at hT
      exact ⟨rfl, hT⟩

/-- A byte below 80 that is in no sequence, or begins one. -/
def plainR (t : Term) (x : Nat) : Term := if x = 27 then { t with ins := 1 } else if x < 32 ∨ x = 127 then control t x else signR t x
theorem Ok.plain {o n : Nat} {t : Term} (h : Ok o n t) (x : Nat) : Ok (o + 2) (n + 4) (plainR t x) := by
  unfold plainR
  split
  · exact { h.mono (Nat.le_add_right o 2) (Nat.le_add_right n 4) with }
  · split
    · exact (h.control x).mono (by omega) (by omega)
    · exact h.sign x
theorem plain_calls {p : Nat} {w : World} {t : Term} {F : Nat → Prop} {o n : Nat} (h : IsTerm w p t F) (hk : Ok o n t) (ho : o ≤ 10000000) (hn : n ≤ 100000000) (x : Nat) (hx : x < 256) :
    Calls Tryz.prog 39 #[.pointer (some ⟨p, 0, none⟩), .int .u8 x] w fun e w' => e = .returned (.tuple #[]) ∧ Turned w p F (plainR t x) w' := by
  have hI := h
  obtain ⟨lv, gv, bv, vs, gs, bs, gb, h⟩ := h
  have hF := h.own
  obtain ⟨c0, c1, c2, c3, c4, c5, c6, c7, c8, _⟩ := h.cells
  have f8 := h.frozen 8
  have HI := Lib.hid hI
  have HK := Lib.hid hk
  clear hI hk
  by_cases h1 : x = 27
  · subst h1
    have hc1 : Chg (fun b => b = p) w (w.setCell ⟨p, 8, none⟩ (.int .i64 1)) := (Chg.at0 p w).at_ _ _
    have hT := Turned.same (w := w) (F := F) ⟨_, _, _, _, _, _, _, h.head (t' := { t with ins := 1 }) hc1 (h.blk.set 8 (.int .i64 1)) rfl rfl rfl⟩ (chgP hF hc1)
    have HT := Lib.hid hT
    clear h hT
    go_enter Tryz.func39, Tryz.ntmps39
    go_wp2_with fail
    go_end0
    exact ⟨rfl, HT.out⟩
  · have h1' : ((x : Int) == 27) = false := by simp; omega
    clear h
    by_cases h2 : x < 32 ∨ x = 127
    · have e : plainR t x = control t x := by unfold plainR; rw [if_neg h1, if_pos h2]
      rw [e]
      clear e
      by_cases h3 : x < 32
      · have h3' : (x : Int) < 32 := by omega
        go_enter Tryz.func39, Tryz.ntmps39
        go_wp2_with fail
        refine (control_calls HI.out (HK.out.dim (by omega)) x hx).mono ?_
        rintro e w1 ⟨rfl, hT⟩
        go_wp2_with fail
        go_end0
        exact ⟨rfl, hT⟩
      · have h3' : ¬ (x : Int) < 32 := by omega
        have h4 : x = 127 := by omega
        subst h4
        go_enter Tryz.func39, Tryz.ntmps39
        go_wp2_with fail
        refine (control_calls HI.out (HK.out.dim (by omega)) 127 hx).mono ?_
        rintro e w1 ⟨rfl, hT⟩
        go_wp2_with fail
        go_end0
        exact ⟨rfl, hT⟩
    · have e : plainR t x = signR t x := by unfold plainR; rw [if_neg h1, if_neg h2]
      rw [e]
      clear e
      have h3' : ¬ (x : Int) < 32 := by omega
      have h4' : ((x : Int) == 127) = false := by simp; omega
      go_enter Tryz.func39, Tryz.ntmps39
      go_wp2_with fail
      refine (sign_calls HI.out HK.out (by omega) (by omega) x).mono ?_
      rintro e w1 ⟨rfl, hT⟩
      go_wp2_with fail
      go_end0
      exact ⟨rfl, hT⟩
end T
end Go.Proofs.YtoegjmeoeefllaaGreatDoor
