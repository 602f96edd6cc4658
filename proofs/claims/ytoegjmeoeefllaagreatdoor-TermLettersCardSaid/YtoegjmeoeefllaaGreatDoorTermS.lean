/- What number gives; ends. -/
import Derived.Test.YtoegjmeoeefllaaGreatDoorTermO
import Derived.Test.YtoegjmeoeefllaaGreatDoorTermQ
import Derived.Test.YtoegjmeoeefllaaGreatDoorTermL
import Derived.Deep.CutBlock
import Derived.Deep.RegionLaw
namespace Go.Proofs.YtoegjmeoeefllaaGreatDoor
open Go Go.RowKit
namespace T
attribute [local go_sem high] run_max_2 run_min_2
attribute [local go_sem ↓] Go.wp_at_zero Go.wp_at_succ

def isDigit (c : UInt8) : Bool := decide (48 ≤ c.toNat ∧ c.toNat ≤ 57)
def numV (l : List UInt8) : Nat := l.foldl (fun a c => a * 10 + (c.toNat - 48)) 0
theorem parse_digits : ∀ (l : List UInt8) (acc : Nat), (∀ c ∈ l, isDigit c = true) → (acc + 1) * 10 ^ l.length ≤ 1000000 →
    Lib.parseUint10 acc l = .ok (l.foldl (fun a c => a * 10 + (c.toNat - 48)) acc) ∧ l.foldl (fun a c => a * 10 + (c.toNat - 48)) acc < (acc + 1) * 10 ^ l.length
  | [], acc, _, _ => ⟨rfl, by simp⟩
  | c :: r, acc, hd, hb => by
    have hc := hd c (by simp)
    simp only [isDigit, decide_eq_true_eq] at hc
    have e : (acc + 1) * 10 ^ (c :: r).length = ((acc + 1) * 10) * 10 ^ r.length := by rw [List.length_cons, Nat.pow_succ]; rw [Nat.mul_comm (10 ^ r.length) 10, Nat.mul_assoc]
    have hm : (acc * 10 + (c.toNat - 48) + 1) * 10 ^ r.length ≤ (acc + 1) * 10 * 10 ^ r.length := Nat.mul_le_mul_right _ (by omega)
    have h1 : (acc + 1) * 10 ≤ (acc + 1) * 10 * 10 ^ r.length := Nat.le_mul_of_pos_right _ (Nat.pow_pos (by omega))
    obtain ⟨i1, i2⟩ := parse_digits r (acc * 10 + (c.toNat - 48)) (fun x hx => hd x (by simp [hx])) (by omega)
    refine ⟨?_, ?_⟩
    · rw [Lib.parseUint10, if_pos hc, if_neg (by omega), if_neg (by omega), i1]; rfl
    · rw [e]; exact Nat.lt_of_lt_of_le i2 hm
theorem digits_mem (c : UInt8) : digits.data.toList.contains c = isDigit c := by
  rw [Bool.eq_iff_iff, List.contains_iff_mem]
  simp only [isDigit, decide_eq_true_eq, digits]
  constructor
  · intro h
    simp at h
    rcases h with rfl | rfl | rfl | rfl | rfl | rfl | rfl | rfl | rfl | rfl <;> decide
  · intro h
    have hc : c = UInt8.ofNat c.toNat := by simp
    obtain ⟨h1, h2⟩ := h
    have : c.toNat = 48 ∨ c.toNat = 49 ∨ c.toNat = 50 ∨ c.toNat = 51 ∨ c.toNat = 52 ∨ c.toNat = 53 ∨ c.toNat = 54 ∨ c.toNat = 55 ∨ c.toNat = 56 ∨ c.toNat = 57 := by omega
    rcases this with e | e | e | e | e | e | e | e | e | e <;> (rw [e] at hc; rw [hc]; decide)
theorem dropWhile_nil {α : Type} (p : α → Bool) : ∀ l : List α, l.dropWhile p = [] ↔ ∀ c ∈ l, p c = true
  | [] => by simp
  | a :: l => by
    rw [List.dropWhile_cons]
    cases h : p a
    · simp [h]
    · simp only [if_true]
      rw [dropWhile_nil p l]
      simp [h]
theorem takeWhile_mem {α : Type} (p : α → Bool) : ∀ (l : List α) (c : α), c ∈ l.takeWhile p → p c = true
  | [], c, h => by simp at h
  | a :: l, c, h => by
    rw [List.takeWhile_cons] at h
    cases ha : p a
    · rw [ha] at h; simp at h
    · rw [ha] at h
      simp only [if_true, List.mem_cons] at h
      rcases h with rfl | h
      · exact ha
      · exact takeWhile_mem p l c h
theorem trim_nil (l : List UInt8) : Lib.trimS l digits.data.toList = [] ↔ ∀ c ∈ l, isDigit c = true := by
  unfold Lib.trimS Lib.trimLeftS Lib.trimRightS
  simp only [digits_mem]
  show List.dropWhile isDigit (List.dropWhile isDigit l.reverse).reverse = [] ↔ _
  rw [dropWhile_nil]
  constructor
  · intro h c hc
    have h2 : c ∈ l.reverse.takeWhile isDigit ++ l.reverse.dropWhile isDigit := by rw [List.takeWhile_append_dropWhile]; simpa using hc
    rcases List.mem_append.1 h2 with h3 | h3
    · exact takeWhile_mem _ _ _ h3
    · exact h c (by simpa using h3)
  · intro h c hc
    refine h c ?_
    have h3 : c ∈ l.reverse.dropWhile isDigit := by simpa using hc
    simpa using (List.dropWhile_sublist _).mem h3
theorem numR_eq (s : ByteArray) : numR s = if (∀ c ∈ s.data.toList, isDigit c = true) ∧ s.size ≤ 3 then ((numV s.data.toList : Int), true) else (0, false) := by
  unfold numR
  have ht := trim_nil s.data.toList
  by_cases h : (∀ c ∈ s.data.toList, isDigit c = true) ∧ s.size ≤ 3
  · rw [if_pos h, if_pos ⟨ht.2 h.1, h.2⟩]
    refine congrArg (fun v => (v, true)) ?_
    have hl : s.data.toList.length ≤ 3 := by rw [show s.data.toList.length = s.size from Array.length_toList]; exact h.2
    obtain ⟨hd, _⟩ := h
    unfold atoiV
    generalize s.data.toList = l at hd hl ⊢
    cases l with
    | nil => rfl
    | cons c r =>
      have hc := hd c (by simp)
      simp only [isDigit, decide_eq_true_eq] at hc
      have hp : 10 ^ (c :: r).length ≤ 10 ^ 3 := Nat.pow_le_pow_right (by omega) hl
      obtain ⟨i1, i2⟩ := parse_digits (c :: r) 0 hd (by omega)
      have e : Lib.atoiAll (c :: r) = .ok (numV (c :: r) : Int) := by
        unfold Lib.atoiAll
        dsimp only
        rw [if_neg (by omega)]
        unfold Lib.parseMag
        rw [if_neg (by simp), i1]
        dsimp only
        rw [if_neg (by omega), if_neg (by omega), if_neg (by omega)]
        rfl
      rw [e]
  · rw [if_neg h, if_neg (fun h2 => h ⟨ht.1 h2.1, h2.2⟩)]
theorem numR_le (s : ByteArray) : 0 ≤ (numR s).1 ∧ (numR s).1 ≤ 999 := by
  rw [numR_eq]
  split
  · rename_i h
    have hl : s.data.toList.length ≤ 3 := by rw [show s.data.toList.length = s.size from Array.length_toList]; exact h.2
    have hp : 10 ^ s.data.toList.length ≤ 10 ^ 3 := Nat.pow_le_pow_right (by omega) hl
    obtain ⟨i1, i2⟩ := parse_digits s.data.toList 0 h.1 (by omega)
    refine ⟨by simp, ?_⟩
    show ((numV s.data.toList : Nat) : Int) ≤ 999
    unfold numV
    omega
  · exact ⟨Int.le_refl _, by decide⟩

def eraseFrom (t : Term) (k : Nat) : Nat → Term
  | 0 => t
  | m + 1 => eraseFrom (erase t k 0) (k + 1) m
def eraseAll (t : Term) : Term := eraseFrom (erase t t.row t.col) (t.row + 1) (t.l.length - (t.row + 1))
/-- What a letter does, with its number. -/
def acts (t : Term) (n : Int) (x : Nat) : Term :=
  if x = 65 then moveTo t (t.row + -(max n 1)) t.col
  else if x = 66 then moveTo t (t.row + max n 1) t.col
  else if x = 68 then moveTo t t.row (t.col + -(max n 1))
  else if x = 67 then moveTo t t.row (t.col + max n 1)
  else if x = 71 then moveTo t t.row (max n 1 - 1)
  else if x = 74 then (if n = 0 then eraseAll t else t)
  else if x = 75 then (if n = 0 then erase t t.row t.col else t)
  else if x = 109 then (if n = 0 ∨ n = 2 ∨ n = 22 then { t with dim := decide (n = 2) } else t)
  else t
def endsR (t : Term) (s : ByteArray) (x : Nat) : Term := if x = 72 then home t s else if (numR s).2 = false then t else acts t (numR s).1 x

theorem acts_step {x m : Int} (hx : 0 ≤ x ∧ x ≤ 1000) (hm : 1 ≤ m ∧ m ≤ 999) : wrap64 (x + m) = x + m ∧ wrap64 (x + -m) = x + -m ∧ IntKind.i64.wrap (x + m) = x + m ∧ IntKind.i64.wrap (x + -m) = x + -m :=
  ⟨by unfold wrap64; omega, by unfold wrap64; omega, IntWalk.i64_in _ (by omega), IntWalk.i64_in _ (by omega)⟩
theorem RowOk.eraseTo {cols n : Nat} {r : List Cell} (h : RowOk cols n r) {col : Nat} : ∀ k, col + k ≤ cols → RowOk cols n (eraseTo r col k)
  | 0, _ => h
  | k + 1, hk => (RowOk.eraseTo h k (by omega)).put_one (by omega) rfl (by decide) (by decide)
theorem Ok.erase {o n : Nat} {t : Term} (h : Ok o n t) {k col : Nat} (hk : k < t.l.length) (hc : col ≤ t.cols) : Ok o n (erase t k col) :=
  h.setRow k ((h.rowOk hk).eraseTo _ (by omega))
theorem erase_len (t : Term) (k col : Nat) : (erase t k col).l.length = t.l.length := by simp [erase, setRow]
theorem eraseFrom_len (t : Term) : ∀ (m k : Nat), (eraseFrom t k m).l.length = t.l.length
  | 0, _ => rfl
  | m + 1, k => by rw [eraseFrom, eraseFrom_len _ m, erase_len]
theorem eraseFrom_succ : ∀ (m : Nat) (t : Term) (k : Nat), eraseFrom t k (m + 1) = erase (eraseFrom t k m) (k + m) 0
  | 0, t, k => rfl
  | m + 1, t, k => by
    rw [eraseFrom, eraseFrom_succ m, eraseFrom, show k + 1 + m = k + (m + 1) by omega]
theorem Ok.eraseFrom {o n : Nat} {t : Term} (h : Ok o n t) (k : Nat) : ∀ m, k + m ≤ t.l.length → Ok o n (eraseFrom t k m)
  | 0, _ => h
  | m + 1, hm => by
    rw [eraseFrom_succ]
    exact (h.eraseFrom k m (by omega)).erase (by rw [eraseFrom_len]; omega) (Nat.zero_le _)
theorem erase_calls' {p : Nat} {w : World} {t : Term} {F : Nat → Prop} {o n : Nat} (h : IsTerm w p t F) (hk : Ok o n t) (row col : Nat) (hr : row < t.l.length) (hc : col ≤ t.cols) :
    Calls Tryz.prog 51 #[.pointer (some ⟨p, 0, none⟩), .int .i64 row, .int .i64 col] w fun e w' => e = .returned (.tuple #[]) ∧ IsTerm w' p (erase t row col) F ∧ Chg F w w' :=
  erase_calls h row col hr hc hk.c1 (hk.rowOk hr).1 (hk.rowOk hr).2.1

set_option maxRecDepth 100000 in
set_option maxHeartbeats 4000000 in
theorem ends_calls {p : Nat} {w : World} {t : Term} {F : Nat → Prop} {o n : Nat} (h : IsTerm w p t F) (hk : Ok o n t) (ho : o ≤ 10000000) (s : ByteArray) (hs : s.size ≤ 1000) (hG : Glob w) (x : Nat) (hx : x < 256) :
    Calls Tryz.prog 40 #[.pointer (some ⟨p, 0, none⟩), .string s, .int .u8 x] w fun e w' => e = .returned (.tuple #[]) ∧ Turned w p F (endsR t s x) w' := by
  have hnum := fun w hG => number_calls s w hG (by omega)
  have hle := numR_le s
  obtain ⟨⟨q, v⟩, hq⟩ : ∃ q, q = numR s := ⟨_, rfl⟩
  have hends : Hid (endsR t s x = if x = 72 then home t s else if v = false then t else acts t q x) := Lib.hid (by unfold endsR; rw [← hq])
  rw [← hq] at hle
  simp only [← hq] at hnum
  simp only at hle
  have HI := Lib.hid h
  have HK := Lib.hid hk
  have HG := Lib.hid hG
  clear h hk hG hq
  by_cases h1 : x = 72
  · have HE : Hid (endsR t s x = home t s) := Lib.hid (hends.out.trans (if_pos h1))
    subst h1
    go_enter Tryz.func40, Tryz.ntmps40
    go_wp2_with fail
    refine (hnum w HG.out).mono ?_
    rintro e w1 ⟨rfl, hc1⟩
    go_wp2_with fail
    refine (home_calls (HI.out.chg hc1 (fun _ _ h => h)) (HK.out.dim (by omega)) s (by omega) (HG.out.chg hc1 (fun h => h) (fun h => h))).mono ?_
    rintro e w2 ⟨rfl, hI2, hC2⟩
    go_wp2_with fail
    refine bodyPost_ret (results_none rfl _ _ _) rfl ?_
    rw [HE.out]
    exact ⟨rfl, Turned.same hI2 ((hc1.mono (fun _ _ h => h.elim)).then hC2)⟩
  · have h1' : ((x : Int) == 72) = false := by simp; omega
    cases v with
    | false =>
      have HE : Hid (endsR t s x = t) := Lib.hid ((hends.out.trans (if_neg h1)).trans (if_pos rfl))
      go_enter Tryz.func40, Tryz.ntmps40
      go_wp2_with fail
      refine (hnum w HG.out).mono ?_
      rintro e w1 ⟨rfl, hc1⟩
      go_wp2_with fail
      refine bodyPost_ret (results_none rfl _ _ _) rfl ?_
      rw [HE.out]
      exact ⟨rfl, Turned.same (HI.out.chg hc1 (fun _ _ h => h)) (hc1.mono (fun _ _ h => h.elim))⟩
    | true =>
      have HE : Hid (endsR t s x = acts t q x) := Lib.hid ((hends.out.trans (if_neg h1)).trans (if_neg (by decide)))
      rw [HE.out]
      clear hends
      go_enter Tryz.func40, Tryz.ntmps40
      go_wp2_with fail
      refine (hnum w HG.out).mono ?_
      rintro e w1 ⟨rfl, hc1⟩
      have hI1 := HI.out.chg hc1 (fun _ _ h => h)
      have b1 : t.row < t.l.length := HK.out.row
      have b2 : t.l.length ≤ 60 := HK.out.l1
      have b3 : t.col < t.cols := HK.out.col
      have b4 : t.cols ≤ 120 := HK.out.c1
      have c4 := (cells_of hI1).1
      have c5 := (cells_of hI1).2
      have hId := Lib.hid (hI1.chg ((Chg.refl Non w1).drew) (fun _ _ h => h))
      have HI1 := Lib.hid hI1
      obtain ⟨m, hm⟩ : ∃ m, m = max q 1 := ⟨_, rfl⟩
      have hm2 : 1 ≤ m ∧ m ≤ 999 := by omega
      have hwn : wrap64 (-m) = -m := by unfold wrap64; omega
      have A1 := Lib.hid (acts_step (x := (t.row : Int)) (m := m) (by omega) hm2)
      have A2 := Lib.hid (acts_step (x := (t.col : Int)) (m := m) (by omega) hm2)
      have hwp : wrap64 (m - 1) = m - 1 := by unfold wrap64; omega
      have Hm := Lib.hid hm
      have H1 := Lib.hid h1
      clear hI1 b1 b2 b3 b4 hm h1
      by_cases x65 : x = 65
      · have HA : Hid (acts t q x = moveTo t (t.row + -m) (t.col)) := Lib.hid (by rw [Hm.out]; unfold acts; rw [if_pos x65])
        have hto := Lib.hid (to_calls hId.out (t.row + -m) (t.col) HK.out.l0 HK.out.c0 (by have := HK.out.c1; omega))
        subst x65
        go_wp2_with fail
        rw [← Hm.out]
        go_region_with (go_at_call 32; rw [A1.out.2.2.2]; refine hto.out.mono ?_; rintro e w3 ⟨rfl, hP, hcP⟩)
        all_goals (go_wp2_with fail; go_end0; rw [HA.out]; exact ⟨rfl, Turned.same hP ((hc1.mono (fun _ _ h => h.elim)).then ((Chg.refl F w1).drew.then (chgP hId.out.own hcP)))⟩)
      · have y65 : ((x : Int) == 65) = false := by simp; omega
        by_cases x66 : x = 66
        · have HA : Hid (acts t q x = moveTo t (t.row + m) (t.col)) := Lib.hid (by rw [Hm.out]; unfold acts; rw [if_neg x65, if_pos x66])
          have hto := Lib.hid (to_calls hId.out (t.row + m) (t.col) HK.out.l0 HK.out.c0 (by have := HK.out.c1; omega))
          subst x66
          go_wp2_with fail
          rw [← Hm.out]
          go_region_with (go_at_call 32; rw [A1.out.2.2.1]; refine hto.out.mono ?_; rintro e w3 ⟨rfl, hP, hcP⟩)
          all_goals (go_wp2_with fail; go_end0; rw [HA.out]; exact ⟨rfl, Turned.same hP ((hc1.mono (fun _ _ h => h.elim)).then ((Chg.refl F w1).drew.then (chgP hId.out.own hcP)))⟩)
        · have y66 : ((x : Int) == 66) = false := by simp; omega
          by_cases x68 : x = 68
          · have HA : Hid (acts t q x = moveTo t (t.row) (t.col + -m)) := Lib.hid (by rw [Hm.out]; unfold acts; rw [if_neg x65, if_neg x66, if_pos x68])
            have hto := Lib.hid (to_calls hId.out (t.row) (t.col + -m) HK.out.l0 HK.out.c0 (by have := HK.out.c1; omega))
            subst x68
            go_wp2_with fail
            rw [← Hm.out]
            go_region_with (go_at_call 32; rw [A2.out.2.2.2]; refine hto.out.mono ?_; rintro e w3 ⟨rfl, hP, hcP⟩)
            all_goals (go_wp2_with fail; go_end0; rw [HA.out]; exact ⟨rfl, Turned.same hP ((hc1.mono (fun _ _ h => h.elim)).then ((Chg.refl F w1).drew.then (chgP hId.out.own hcP)))⟩)
          · have y68 : ((x : Int) == 68) = false := by simp; omega
            by_cases x67 : x = 67
            · have HA : Hid (acts t q x = moveTo t (t.row) (t.col + m)) := Lib.hid (by rw [Hm.out]; unfold acts; rw [if_neg x65, if_neg x66, if_neg x68, if_pos x67])
              have hto := Lib.hid (to_calls hId.out (t.row) (t.col + m) HK.out.l0 HK.out.c0 (by have := HK.out.c1; omega))
              subst x67
              go_wp2_with fail
              rw [← Hm.out]
              go_region_with (go_at_call 32; rw [A2.out.2.2.1]; refine hto.out.mono ?_; rintro e w3 ⟨rfl, hP, hcP⟩)
              all_goals (go_wp2_with fail; go_end0; rw [HA.out]; exact ⟨rfl, Turned.same hP ((hc1.mono (fun _ _ h => h.elim)).then ((Chg.refl F w1).drew.then (chgP hId.out.own hcP)))⟩)
            · have y67 : ((x : Int) == 67) = false := by simp; omega
              have y72 := h1'
              by_cases x71 : x = 71
              · have HA : Hid (acts t q x = moveTo t t.row (max q 1 - 1)) := Lib.hid (by unfold acts; rw [if_neg x65, if_neg x66, if_neg x68, if_neg x67, if_pos x71])
                rw [Hm.out] at hwp
                subst x71
                go_wp2_with fail
                first | rw [hwp] | skip
                refine (to_calls HI1.out t.row (max q 1 - 1) HK.out.l0 HK.out.c0 (by have := HK.out.c1; omega)).mono ?_
                rintro e w3 ⟨rfl, hP, hcP⟩
                go_wp2_with fail
                go_end0
                rw [HA.out]
                exact ⟨rfl, Turned.same hP ((hc1.mono (fun _ _ h => h.elim)).then (chgP HI1.out.own hcP))⟩
              · have y71 : ((x : Int) == 71) = false := by simp; omega
                by_cases x74 : x = 74
                · have HA : Hid (acts t q x = if q = 0 then eraseAll t else t) := Lib.hid (by unfold acts; rw [if_neg x65, if_neg x66, if_neg x68, if_neg x67, if_neg x71, if_pos x74])
                  subst x74
                  by_cases hq0 : q = 0
                  · have HA2 := Lib.hid (HA.out.trans (if_pos hq0))
                    subst hq0
                    have hw9 := wrap64_one (x := t.row) (by have := HK.out.row; have := HK.out.l1; omega)
                    go_upto_region 20 with (fail)
                    go_cut [] (fun wd2 => IsTerm wd2 p (erase t t.row t.col) F ∧ Chg F w1 wd2)
                    case first =>
                      go_region_with (go_at_call 51; refine (erase_calls' hId.out HK.out t.row t.col HK.out.row (Nat.le_of_lt HK.out.col)).mono ?_; rintro e w3 ⟨rfl, hP, hcP⟩)
                      all_goals (go_wp2_with fail; go_meet; exact ⟨hP, (Chg.refl F w1).drew.then hcP⟩)
                    case rest =>
                      obtain ⟨hI3, hC3⟩ := hcut
                      have d4 : wc.cell? ⟨p, 4, none⟩ = some (.int .i64 t.row) := (cells_of hI3).1
                      have HI3 := Lib.hid hI3
                      clear hI3
                      have HC0 := Lib.hid (((hc1.mono (fun _ _ h => h.elim) : Chg F w w1)).then hC3)
                      go_wp2_with fail
                      rw [hw9]
                      clear hw9
                      go_loopw [9] (fun i wr => ∃ k : Nat, i = .int .i64 ((t.row + 1 + k : Nat) : Int) ∧ t.row + 1 + k ≤ t.l.length ∧ IsTerm wr p (eraseFrom (erase t t.row t.col) (t.row + 1) k) F ∧ Chg F wc wr) (fun i _ => t.l.length - (intOf i).toNat)
                      case atStart => exact ⟨0, by go_num, HK.out.row, HI3.out, Chg.refl _ _⟩
                      case round =>
                        obtain ⟨k, rfl, hk, hIk, hCk⟩ := hrel
                        have hlen : (eraseFrom (erase t t.row t.col) (t.row + 1) k).l.length = t.l.length := by rw [eraseFrom_len, erase_len]
                        have hKk : Ok o n (eraseFrom (erase t t.row t.col) (t.row + 1) k) := (HK.out.erase HK.out.row (Nat.le_of_lt HK.out.col)).eraseFrom _ k (by rw [erase_len]; exact hk)
                        obtain ⟨lv2, gv2, bv2, vs2, gs2, bs2, gb2, h2⟩ := id hIk
                        obtain ⟨A2, cap2, rfl, _, _⟩ := h2.l.shape
                        have d1 := h2.cells.2.1
                        rw [hlen] at d1
                        have HIk := Lib.hid hIk
                        have HKk := Lib.hid hKk
                        have Hlen := Lib.hid hlen
                        clear h2 hIk hKk hlen
                        have b2 : t.l.length ≤ 60 := HK.out.l1
                        by_cases hlt : t.row + 1 + k < t.l.length
                        · have hlt' : ((t.row + 1 + k : Nat) : Int) < (t.l.length : Int) := by omega
                          go_wp2_with fail
                          refine (erase_calls' HIk.out HKk.out (t.row + 1 + k) 0 (by rw [Hlen.out]; exact hlt) (Nat.zero_le _)).mono ?_
                          rintro e w4 ⟨rfl, hI4, hC4⟩
                          rw [← eraseFrom_succ] at hI4
                          go_wp2_with fail
                          go_roundw
                          case rel => exact ⟨k + 1, by go_num, by omega, hI4, hCk.then hC4⟩
                          case measure => simp [intOf]; omega
                        · have hge : ¬ ((t.row + 1 + k : Nat) : Int) < (t.l.length : Int) := by omega
                          go_wp2_with fail
                          go_end0
                          have e1 : eraseAll t = eraseFrom (erase t t.row t.col) (t.row + 1) k := by unfold eraseAll; rw [show t.l.length - (t.row + 1) = k by omega]
                          rw [HA2.out, e1]
                          exact ⟨rfl, Turned.same HIk.out (HC0.out.then hCk)⟩
                  · have HA2 := Lib.hid (HA.out.trans (if_neg hq0))
                    have hq0' : (q == 0) = false := by simpa using hq0
                    go_wp2_with fail
                    go_end0
                    rw [HA2.out]
                    exact ⟨rfl, Turned.same HI1.out (hc1.mono (fun _ _ h => h.elim))⟩
                · have y74 : ((x : Int) == 74) = false := by simp; omega
                  by_cases x75 : x = 75
                  · have HA : Hid (acts t q x = if q = 0 then erase t t.row t.col else t) := Lib.hid (by unfold acts; rw [if_neg x65, if_neg x66, if_neg x68, if_neg x67, if_neg x71, if_neg x74, if_pos x75])
                    subst x75
                    by_cases hq0 : q = 0
                    · have HA2 := Lib.hid (HA.out.trans (if_pos hq0))
                      subst hq0
                      go_wp2_with fail
                      go_region_with (go_at_call 51; refine (erase_calls' hId.out HK.out t.row t.col HK.out.row (Nat.le_of_lt HK.out.col)).mono ?_; rintro e w3 ⟨rfl, hP, hcP⟩)
                      all_goals (go_wp2_with fail; go_end0; rw [HA2.out]; exact ⟨rfl, Turned.same hP ((hc1.mono (fun _ _ h => h.elim)).then ((Chg.refl F w1).drew.then hcP))⟩)
                    · have HA2 := Lib.hid (HA.out.trans (if_neg hq0))
                      have hq0' : (q == 0) = false := by simpa using hq0
                      go_wp2_with fail
                      go_end0
                      rw [HA2.out]
                      exact ⟨rfl, Turned.same HI1.out (hc1.mono (fun _ _ h => h.elim))⟩
                  · have y75 : ((x : Int) == 75) = false := by simp; omega
                    by_cases x109 : x = 109
                    · have HA : Hid (acts t q x = if q = 0 ∨ q = 2 ∨ q = 22 then { t with dim := decide (q = 2) } else t) := Lib.hid (by unfold acts; rw [if_neg x65, if_neg x66, if_neg x68, if_neg x67, if_neg x71, if_neg x74, if_neg x75, if_pos x109])
                      obtain ⟨lv1, gv1, bv1, vs1, gs1, bs1, gb1, hr1⟩ := HI1.out
                      have c7 := hr1.cells.2.2.2.2.2.2.2.1
                      have f7 := hr1.frozen 7
                      have hcd := fun b => (Chg.at0 p w1).at_ 7 (.bool b)
                      have hbd := fun b => hr1.blk.set 7 (.bool b)
                      have HR1 := Lib.hid hr1
                      have HCD := Lib.hid hcd
                      have HBD := Lib.hid hbd
                      clear hr1 hcd hbd
                      by_cases g : q = 0 ∨ q = 2 ∨ q = 22
                      · have HA2 := Lib.hid (HA.out.trans (if_pos g))
                        have fin : ∀ b, b = decide (q = 2) → Turned w p F (acts t q x) (w1.setCell ⟨p, 7, none⟩ (.bool b)) := fun b hb => by
                          rw [HA2.out]
                          exact Turned.same ⟨_, _, _, _, _, _, _, HR1.out.head (t' := { t with dim := decide (q = 2) }) (HCD.out b) (by rw [← hb]; exact HBD.out b) rfl rfl rfl⟩ ((hc1.mono (fun _ _ h => h.elim)).then (chgP HI1.out.own (HCD.out b)))
                        have Fin := Lib.hid fin
                        clear fin
                        rcases g with rfl | rfl | rfl
                        · go_wp2_with fail
                          go_end0
                          exact ⟨rfl, Fin.out false (by decide)⟩
                        · go_wp2_with fail
                          go_end0
                          exact ⟨rfl, Fin.out true (by decide)⟩
                        · go_wp2_with fail
                          go_end0
                          exact ⟨rfl, Fin.out false (by decide)⟩
                      · have HA2 := Lib.hid (HA.out.trans (if_neg g))
                        have g0 : (q == 0) = false := by simp; omega
                        have g1 : (q == 2) = false := by simp; omega
                        have g2 : (q == 22) = false := by simp; omega
                        clear g
                        go_wp2_with fail
                        go_end0
                        rw [HA2.out]
                        exact ⟨rfl, Turned.same HI1.out (hc1.mono (fun _ _ h => h.elim))⟩
                    · have HA : Hid (acts t q x = t) := Lib.hid (by unfold acts; rw [if_neg x65, if_neg x66, if_neg x68, if_neg x67, if_neg x71, if_neg x74, if_neg x75, if_neg x109])
                      have y109 : ((x : Int) == 109) = false := by simp; omega
                      go_wp2_with fail
                      go_end0
                      rw [HA.out]
                      exact ⟨rfl, Turned.same HI1.out (hc1.mono (fun _ _ h => h.elim))⟩
end T
end Go.Proofs.YtoegjmeoeefllaaGreatDoor
