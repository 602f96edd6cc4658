/- Walks: home. -/
import Derived.Test.YtoegjmeoeefllaaGreatDoorTermN
import Derived.Test.YtoegjmeoeefllaaGreatDoorTermI
import Derived.BigQuiet
namespace Go.Proofs.YtoegjmeoeefllaaGreatDoor
open Go Go.RowKit
namespace T
attribute [local go_sem high] run_max_2 run_min_2

def cutAt (s : ByteArray) : ByteArray × ByteArray × Bool :=
  if 0 ≤ Lib.indexByte s.data.toList 59 then (s.extract 0 (Lib.indexByte s.data.toList 59).toNat, s.extract ((Lib.indexByte s.data.toList 59).toNat + 1) s.size, true) else (s, ByteArray.empty, false)
theorem indexByte_bounds (c : UInt8) : ∀ l : List UInt8, -1 ≤ Lib.indexByte l c ∧ Lib.indexByte l c < l.length
  | [] => by simp [Lib.indexByte]
  | b :: l => by
    have ih := indexByte_bounds c l
    unfold Lib.indexByte
    split
    · simp only [List.length_cons]; omega
    · split
      · simp only [List.length_cons]; omega
      · rw [List.length_cons]; omega

theorem slCut_calls (s : ByteArray) (w : World) (hs : s.size ≤ 1000000) :
    Calls Tryz.prog 73 #[.string s, .string ⟨#[59]⟩] w fun e w' => e = .returned (.tuple #[.string (cutAt s).1, .string (cutAt s).2.1, .bool (cutAt s).2.2]) ∧ Chg Non w w' := by
  have hix := fun w => Tryz.stringslite_Index_one s 59 w
  obtain ⟨⟨q1, q2, q3⟩, hq⟩ : ∃ q, q = cutAt s := ⟨_, rfl⟩
  rw [← hq]
  show Calls _ _ _ _ (fun e w' => e = .returned (.tuple #[.string q1, .string q2, .bool q3]) ∧ _)
  unfold cutAt at hq
  have hb := indexByte_bounds 59 s.data.toList
  rw [show s.data.toList.length = s.size from Array.length_toList] at hb
  generalize Lib.indexByte s.data.toList 59 = i at hix hq hb
  by_cases h0 : 0 ≤ i
  · rw [if_pos h0] at hq
    obtain ⟨k, rfl⟩ : ∃ k : Nat, i = (k : Int) := ⟨i.toNat, by omega⟩
    rw [Int.toNat_natCast] at hq
    obtain ⟨e1, hq⟩ := Prod.mk.inj hq
    obtain ⟨e2, e3⟩ := Prod.mk.inj hq
    subst e1 e2 e3
    have hk1 : (k : Int) < (s.size : Int) := hb.2
    have hk2 : (k : Int) + 1 ≤ (s.size : Int) := by omega
    have hk3 : (0 : Int) ≤ (k : Int) + 1 := by omega
    clear hb
    go_enter Tryz.func73, Tryz.ntmps73
    go_wp2_with fail
    refine (hix _).mono ?_
    rintro e w1 ⟨rfl, rfl⟩
    go_wp2_with fail
    go_quiet (fail)
    go_wp2_with fail
    go_ret3
    exact ⟨rfl, (Chg.refl _ _).drewN _⟩
  · rw [if_neg h0] at hq
    obtain ⟨e1, hq⟩ := Prod.mk.inj hq
    obtain ⟨e2, e3⟩ := Prod.mk.inj hq
    subst e2 e3
    rw [e1]
    clear hq hb e1
    go_enter Tryz.func73, Tryz.ntmps73
    go_wp2_with fail
    refine (hix _).mono ?_
    rintro e w1 ⟨rfl, rfl⟩
    go_wp2_with fail
    go_ret3
    exact ⟨rfl, Chg.refl _ _⟩
theorem Cut_calls (s : ByteArray) (w : World) (hs : s.size ≤ 1000000) :
    Calls Tryz.prog 60 #[.string s, .string ⟨#[59]⟩] w fun e w' => e = .returned (.tuple #[.string (cutAt s).1, .string (cutAt s).2.1, .bool (cutAt s).2.2]) ∧ Chg Non w w' := by
  have h := slCut_calls s w hs
  generalize cutAt s = q at h ⊢
  obtain ⟨q1, q2, q3⟩ := q
  go_enter Tryz.func60, Tryz.ntmps60
  go_wp2_with fail
  refine h.mono ?_
  rintro e w1 ⟨rfl, hc⟩
  go_wp2_with fail
  go_ret3
  exact ⟨rfl, hc⟩

/-- What H does. -/
def home (t : Term) (s : ByteArray) : Term :=
  if s.size ≠ 0 ∧ ((cutAt s).2.2 = false ∨ (numR (cutAt s).1).2 = false ∨ (numR (cutAt s).2.1).2 = false ∨ (cutAt s).1.size = 0 ∨ (cutAt s).2.1.size = 0) then t
  else moveTo t (max (numR (cutAt s).1).1 1 - 1) (max (numR (cutAt s).2.1).1 1 - 1)
theorem size_extract_le (s : ByteArray) (i j : Nat) : (s.extract i j).size ≤ s.size := by simp only [ByteArray.size_extract]; omega
theorem cutAt_size (s : ByteArray) : (cutAt s).1.size ≤ s.size ∧ (cutAt s).2.1.size ≤ s.size := by
  unfold cutAt
  split
  · exact ⟨size_extract_le _ _ _, size_extract_le _ _ _⟩
  · exact ⟨Nat.le_refl _, by simp⟩
theorem toList_emp (s : ByteArray) : s.toList.isEmpty = decide (s.size = 0) := by
  rw [ByteArray.toList_eq, show s.size = s.data.toList.length from Array.length_toList.symm]
  cases s.data.toList <;> simp

theorem atoiV_in (s : ByteArray) : -9223372036854775808 ≤ atoiV s ∧ atoiV s ≤ 9223372036854775807 := by
  unfold atoiV
  cases hq : Lib.atoiAll s.data.toList with
  | ok v =>
    show -9223372036854775808 ≤ v ∧ v ≤ 9223372036854775807
    unfold Lib.atoiAll at hq
    split at hq
    · cases hq
    · dsimp only at hq
      split at hq
      · cases hq
      · cases hq
      · split at hq
        · cases hq
        · split at hq
          · cases hq
          · injection hq with e
            subst e
            split <;> omega
  | range =>
    show -9223372036854775808 ≤ Lib.atoiSat _ ∧ Lib.atoiSat _ ≤ 9223372036854775807
    unfold Lib.atoiSat
    split <;> omega
  | _ => show -9223372036854775808 ≤ (0 : Int) ∧ (0 : Int) ≤ 9223372036854775807; omega
theorem numR_in (s : ByteArray) : -9223372036854775808 ≤ (numR s).1 ∧ (numR s).1 ≤ 9223372036854775807 := by
  unfold numR
  split
  · exact atoiV_in s
  · show -9223372036854775808 ≤ (0 : Int) ∧ (0 : Int) ≤ 9223372036854775807; omega

theorem home_calls {p : Nat} {w : World} {t : Term} {F : Nat → Prop} (h : IsTerm w p t F) (hd : Dim t) (s : ByteArray) (hs : s.size ≤ 1000000) (hG : Glob w) :
    Calls Tryz.prog 50 #[.pointer (some ⟨p, 0, none⟩), .string s] w fun e w' => e = .returned (.tuple #[]) ∧ IsTerm w' p (home t s) F ∧ Chg F w w' := by
  have hcs := cutAt_size s
  have hcut1 := Cut_calls s w hs
  obtain ⟨⟨a, b, is⟩, hq⟩ : ∃ q, q = cutAt s := ⟨_, rfl⟩
  have hhome : Hid (home t s = _) := Lib.hid (by unfold home; rw [← hq])
  rw [← hq] at hcs hcut1
  simp only at hcs hcut1
  have hna := fun w hG => number_calls a w hG (by omega)
  have hnb := fun w hG => number_calls b w hG (by omega)
  obtain ⟨⟨row, x⟩, hqa⟩ : ∃ q, q = numR a := ⟨_, rfl⟩
  obtain ⟨⟨col, y⟩, hqb⟩ : ∃ q, q = numR b := ⟨_, rfl⟩
  simp only [← hqa] at hhome hna
  simp only [← hqb] at hhome hnb
  have HH := Lib.hid h
  have HG := Lib.hid hG
  have HD := Lib.hid hd
  have hrow : Hid (-9223372036854775808 ≤ row ∧ row ≤ 9223372036854775807) := Lib.hid (by have := numR_in a; rw [← hqa] at this; exact this)
  have hcol : Hid (-9223372036854775808 ≤ col ∧ col ≤ 9223372036854775807) := Lib.hid (by have := numR_in b; rw [← hqb] at this; exact this)
  clear h hG hd hq hqa hqb
  go_enter Tryz.func50, Tryz.ntmps50
  go_wp2_with fail
  refine hcut1.mono ?_
  rintro e w1 ⟨rfl, hc1⟩
  go_wp2_with fail
  refine (hna _ (HG.out.chg hc1 (fun h => h) (fun h => h))).mono ?_
  rintro e w2 ⟨rfl, hc2⟩
  go_wp2_with fail
  refine (hnb _ (HG.out.chg (hc1.then hc2) (fun h => h) (fun h => h))).mono ?_
  rintro e w3 ⟨rfl, hc3⟩
  go_upto_region 3 with (fail)
  go_cut [48] (fun v wc => v = .bool (decide (s.size ≠ 0 ∧ (is = false ∨ x = false ∨ y = false ∨ a.size = 0 ∨ b.size = 0))) ∧ w3 = wc)
  case first =>
    have n1 := toList_emp s
    have n2 := toList_emp a
    have n3 := toList_emp b
    by_cases h1 : s.size = 0
    · rw [decide_eq_true h1] at n1
      have hr : decide (s.size ≠ 0 ∧ (is = false ∨ x = false ∨ y = false ∨ a.size = 0 ∨ b.size = 0)) = false := decide_eq_false (fun h => h.1 h1)
      have HR := Lib.hid hr
      clear hr
      go_wp2_with fail
      go_meet
      exact ⟨by rw [HR.out], rfl⟩
    · rw [decide_eq_false h1] at n1
      have hr : decide (s.size ≠ 0 ∧ (is = false ∨ x = false ∨ y = false ∨ a.size = 0 ∨ b.size = 0)) = decide (is = false ∨ x = false ∨ y = false ∨ a.size = 0 ∨ b.size = 0) := decide_eq_decide.2 ⟨fun h => h.2, fun h => ⟨h1, h⟩⟩
      have HR := Lib.hid hr
      clear hr
      cases is
      · go_wp2_with fail
        go_meet
        exact ⟨by rw [HR.out]; simp, rfl⟩
      · cases x
        · go_wp2_with fail
          go_meet
          exact ⟨by rw [HR.out]; simp, rfl⟩
        · cases y
          · go_wp2_with fail
            go_meet
            exact ⟨by rw [HR.out]; simp, rfl⟩
          · by_cases h2 : a.size = 0
            · rw [decide_eq_true h2] at n2
              go_wp2_with fail
              go_meet
              exact ⟨by rw [HR.out]; simp [h2], rfl⟩
            · rw [decide_eq_false h2] at n2
              go_wp2_with fail
              go_meet
              exact ⟨by rw [HR.out]; simp [h2], rfl⟩
  case rest =>
    obtain ⟨rfl, rfl⟩ := hcut
    have hc3' := (hc1.then hc2).then hc3
    have hI := HH.out.chg hc3' (fun _ _ h => h)
    by_cases hb : s.size ≠ 0 ∧ (is = false ∨ x = false ∨ y = false ∨ a.size = 0 ∨ b.size = 0)
    · have HE : Hid (home t s = t) := Lib.hid (hhome.out.trans (if_pos hb))
      rw [decide_eq_true hb]
      have HI := Lib.hid hI
      clear hb hI
      go_wp2_with fail
      refine bodyPost_ret (results_none rfl _ _ _) rfl ?_
      exact ⟨rfl, by rw [HE.out]; exact HI.out, hc3'.mono (fun _ _ h => h.elim)⟩
    · have HE : Hid (home t s = moveTo t (max row 1 - 1) (max col 1 - 1)) := Lib.hid (hhome.out.trans (if_neg hb))
      rw [decide_eq_false hb]
      have HI := Lib.hid hI
      clear hb hI
      have hw1 : wrap64 (max row 1 - 1) = max row 1 - 1 := by have := hrow.out; unfold wrap64; omega
      have hw2 : wrap64 (max col 1 - 1) = max col 1 - 1 := by have := hcol.out; unfold wrap64; omega
      go_wp2_with fail
      rw [hw1, hw2]
      refine (to_calls HI.out (max row 1 - 1) (max col 1 - 1) HD.out.l0 HD.out.c0 (by have := HD.out.c1; omega)).mono ?_
      rintro e w4 ⟨rfl, hI4, hC4⟩
      go_wp2_with fail
      go_end0
      exact ⟨rfl, by rw [HE.out]; exact hI4, (hc3'.mono (fun _ _ h => h.elim)).then (chgP HI.out.own hC4)⟩
end T
end Go.Proofs.YtoegjmeoeefllaaGreatDoor
