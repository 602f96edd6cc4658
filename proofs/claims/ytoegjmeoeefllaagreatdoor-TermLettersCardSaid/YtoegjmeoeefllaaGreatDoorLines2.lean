/- Signs of one width, laid one behind another: what a sign does. Plain Lean. -/
import Derived.Test.YtoegjmeoeefllaaGreatDoorLines
namespace Go.Proofs.YtoegjmeoeefllaaGreatDoor
open Go Go.RowKit
namespace T

def At (g : Grid) (t : Term) (n : Nat) : Prop := ∃ q m, n = q * g.e + m ∧ m ≤ g.e ∧ (1 ≤ m ∨ q = 0) ∧ Bd g t q n ∧ Pos g t m

theorem put_self {t : Term} {g : Grid} {q n j : Nat} (h : Bd g t q n) (hr : 1 ≤ g.R) (hj : j < g.C) (hc : cellL g n q j = Blank) : put t t.row j Blank = t := by
  have e1 := h.here hr
  have e2 : putRow (rowAt t.l t.row) j Blank = rowAt t.l t.row := by
    rw [e1]
    have e3 : cellAt (lineL g n q) j = Blank := by rw [line_at g n q hj, hc]
    rw [putRow_onB _ e3]
    have := set_self (r := lineL g n q) (j := j) (by rw [line_len]; exact hj)
    rw [e3] at this
    exact this
  have hrow : t.row < t.l.length := by rw [h.len, h.row]; omega
  have e4 : t.l.set t.row (rowAt t.l t.row) = t.l := by simp [rowAt, List.getD, hrow]
  show ({ t with l := t.l.set t.row (putRow (rowAt t.l t.row) j Blank) } : Term) = t
  rw [e2, e4]

theorem At.ready {g : Grid} (hg : Fit g) {t : Term} {n : Nat} (h : At g t n) (hn : n ≤ 400) : ∃ q m, n = q * g.e + m ∧ m < g.e ∧ Bd g (room (wrapped t) g.wd) q n ∧ (room (wrapped t) g.wd).col = m * g.wd ∧ (room (wrapped t) g.wd).full = false := by
  obtain ⟨q, m, e, hm, _, hB, hP⟩ := h
  have hf := fit_mul hg
  have hq : q < 1000 := by
    have := Nat.mul_le_mul_left q hg.e1
    omega
  have hC : g.wd ≤ g.C := by
    have := Nat.mul_le_mul_right g.wd hg.e1
    omega
  have hw0 : 1 ≤ g.wd := by have := hg.wd; omega
  by_cases hlt : m < g.e
  · have hmw : m * g.wd + g.wd ≤ g.C := by
      have := Nat.mul_le_mul_right g.wd (show m + 1 ≤ g.e from hlt)
      rw [Nat.add_mul, Nat.one_mul] at this; omega
    unfold Pos at hP
    rw [if_pos (by omega)] at hP
    have e1 : wrapped t = t := by unfold wrapped; rw [if_neg (by rw [hP.2]; decide)]
    have e2 : room t g.wd = t := by unfold room; rw [if_neg (by rw [hB.cols, hP.1]; omega)]
    rw [e1, e2]
    exact ⟨q, m, e, hlt, hB, hP⟩
  · have hme : m = g.e := by omega
    subst hme
    have hn1 : n ≤ (q + 1) * g.e := by rw [Nat.add_mul, Nat.one_mul]; omega
    have e0 : n = (q + 1) * g.e + 0 := by rw [Nat.add_mul, Nat.one_mul]; omega
    have fin : ∀ u : Term, Bd g { T.down u with col := 0 } (q + 1) n ∧ Pos g { T.down u with col := 0 } 0 → ∃ q m, n = q * g.e + m ∧ m < g.e ∧ Bd g { T.down u with col := 0 } q n ∧ ({ T.down u with col := 0 } : Term).col = m * g.wd ∧ ({ T.down u with col := 0 } : Term).full = false := fun u h => by
      have hp := h.2
      unfold Pos at hp
      rw [if_pos (by omega)] at hp
      exact ⟨q + 1, 0, e0, hg.e1, h.1, hp⟩
    have nz : ∀ u : Term, Bd g u q n → Bd g { T.down u with col := 0 } (q + 1) n ∧ Pos g { T.down u with col := 0 } 0 := fun u hu => by
      rcases hu.down hg.r1 hn1 hq with h1 | h1
      · exact h1
      · omega
    unfold Pos at hP
    by_cases hc : g.e * g.wd < g.C
    · rw [if_pos hc] at hP
      have e1 : wrapped t = t := by unfold wrapped; rw [if_neg (by rw [hP.2]; decide)]
      have hj : g.e ≤ g.e * g.wd / g.wd := by rw [Nat.mul_div_cancel _ hw0]; exact Nat.le_refl _
      have e2 : put t t.row t.col Blank = t := put_self hB hg.r1 (by rw [hP.1]; exact hc) (by rw [hP.1]; exact cell_free e hj)
      have e3 : room t g.wd = { T.down t with col := 0 } := by
        unfold room
        rw [e2, if_pos (by rw [hB.cols, hP.1]; have := hf.2; rw [Nat.add_mul, Nat.one_mul] at this; omega)]
      rw [e1, e3]
      exact fin t (nz t hB)
    · rw [if_neg hc] at hP
      have e1 : wrapped t = { T.down t with col := 0 } := by unfold wrapped; rw [if_pos hP.2]
      have hk := nz t hB
      have e3 : room { T.down t with col := 0 } g.wd = { T.down t with col := 0 } := by
        unfold room
        refine if_neg ?_
        have hcc : ({ T.down t with col := 0 } : Term).cols = g.C := hk.1.cols
        rw [hcc]
        show ¬ ((g.C : Int) < ((0 : Nat) : Int) + (g.wd : Int))
        omega
      rw [e1, e3]
      exact fin t hk

theorem At.sign {g : Grid} (hg : Fit g) {t : Term} {n : Nat} (h : At g t n) (hn : n ≤ 400) (r : Int) (hc : Wd.isControl r = false) (hw : Wd.ofR r = (g.wd : Int)) (hs : g.sg n = ⟨Utf8.encode r, (g.wd : Int), false⟩) : At g (signR t r) (n + 1) := by
  have hf := fit_mul hg
  have hC : g.wd ≤ g.C := by
    have := Nat.mul_le_mul_right g.wd hg.e1
    omega
  have hcols : (wrapped t).cols = g.C := by
    obtain ⟨q, m, _, _, _, hB, _⟩ := h
    rw [(Kp.trans (Kp.refl t) (Kp.wrapped t)).cols, hB.cols]
  have hsg : sgn (wrapped t) r (g.wd : Int) = (r, (g.wd : Int)) := by
    unfold sgn
    rw [if_neg (fun h => by rw [hcols] at h; omega)]
  obtain ⟨q, m, e, hm, hB, hcol, hfull⟩ := h.ready hg hn
  have e0 : signR t r = moved (printed (room (wrapped t) g.wd) r g.wd) g.wd := by
    unfold signR
    rw [if_neg (by rw [hc]; decide), hw, if_neg (by have := hg.wd; omega), hsg]
  rw [e0]
  obtain ⟨u, hu⟩ : ∃ u, u = room (wrapped t) g.wd := ⟨_, rfl⟩
  rw [← hu] at hB hcol hfull ⊢
  have hrow : u.row < u.l.length := by rw [hB.len, hB.row]; have := hg.r1; omega
  have hp := line_put hg e hm
  have hX : ∃ X, printed u r g.wd = setRow u u.row X ∧ X = lineL g (n + 1) q := by
    rcases hg.wd with hw1 | hw2
    · refine ⟨_, ?_, hp.1 hw1⟩
      unfold printed
      rw [if_neg (by omega)]
      show setRow u u.row (putRow (rowAt u.l u.row) u.col (signC u r g.wd)) = _
      rw [hB.here hg.r1, hcol, hw1, Nat.mul_one, hs, signC, hB.dim, hw1]
    · refine ⟨_, ?_, hp.2 hw2 (by rw [hs]; show (g.wd : Int) = 2; omega)⟩
      unfold printed
      rw [if_pos (by omega), put_put _ _ _ _ _ _ hrow, hB.here hg.r1, hcol, hs, signC, half, hB.dim, hw2]
      rfl
  obtain ⟨X, hX1, hX2⟩ := hX
  rw [hX1]
  have hB2 := hB.put hg.r1 e hm hX2
  have c1 : (setRow u u.row X).cols = g.C := hB.cols
  have c2 : (setRow u u.row X).col = m * g.wd := hcol
  have c3 : (setRow u u.row X).full = false := hfull
  obtain ⟨v, hv⟩ : ∃ v, v = setRow u u.row X := ⟨_, rfl⟩
  rw [← hv] at hB2 c1 c2 c3 ⊢
  refine ⟨q, m + 1, by omega, hm, .inl (by omega), ?_⟩
  have hmul : (m + 1) * g.wd = m * g.wd + g.wd := by rw [Nat.add_mul, Nat.one_mul]
  unfold moved Pos
  rw [c1, c2, hmul]
  by_cases hge : g.C ≤ m * g.wd + g.wd
  · rw [if_pos (by omega), if_neg (by omega)]
    exact ⟨{ hB2 with cols := rfl }, rfl, rfl⟩
  · rw [if_neg (by omega), if_pos (by omega)]
    exact ⟨{ hB2 with cols := rfl }, by show m * g.wd + ((g.wd : Nat) : Int).toNat = _; omega, c3⟩

theorem At.b {g : Grid} {t : Term} {n : Nat} (h : At g t n) (l : List Int) : At g { t with b := l } n := by
  obtain ⟨q, m, h1, h2, h3, h4, h5⟩ := h
  exact ⟨q, m, h1, h2, h3, { h4 with }, h5⟩

theorem At.new {R C : Int} (hR : 1 ≤ R ∧ R ≤ 60) (hC : 1 ≤ C ∧ C ≤ 120) {g : Grid} (gC : (g.C : Int) = C) (gR : (g.R : Int) = R) : At g (New R C) 0 := by
  have e1 : cutC C = g.C := by unfold cutC; omega
  have e2 : cutR R = g.R := by unfold cutR; omega
  refine ⟨0, 0, by omega, Nat.zero_le _, .inr rfl, ⟨e1, ?_, ?_, ?_, ?_, rfl⟩, ?_⟩
  · show List.replicate (cutR R) (blankRow (cutC C)) = _
    rw [e1, e2]
    refine List.ext_getElem (by simp) (fun j h1 h2 => ?_)
    simp only [List.getElem_replicate, List.getElem_map, List.getElem_range]
    exact (line_blank g (Nat.zero_le _)).symm
  · have : 0 + 1 - g.R = 0 := by omega
    rw [this]; rfl
  · show (0 : Int) = _; omega
  · show 0 = _; omega
  · unfold Pos; rw [if_pos (by omega)]; exact ⟨by simp [New], rfl⟩

theorem byte_sign {u : Term} (h0 : u.ins = 0) (hb : u.b = []) {x : Nat} (h1 : 32 ≤ x) (h2 : x < 127) : byteR u x = signR u x := by
  obtain ⟨c, l, g, o, row, col, f, d, i, s, b⟩ := u
  simp only at h0 hb
  subst h0; subst hb
  unfold byteR
  rw [if_neg (fun h => by omega), if_pos (.inl rfl)]
  unfold plainR
  rw [if_neg (by omega), if_neg (by omega)]
  rfl
/-- What is read of the law's last half. -/
theorem At.line {g : Grid} (hg : Fit g) {t : Term} {n : Nat} (h : At g t n) (hn : 1 ≤ n) : ∃ q m, n = q * g.e + m ∧ 1 ≤ m ∧ m ≤ g.e ∧ t.off = ((q + 1 - g.R : Nat) : Int) ∧ t.full = decide (g.C ≤ m * g.wd) ∧ t.l.length = g.R ∧ t.gone.length = q + 1 - g.R ∧
    (∀ k, k * g.e < n → q + 1 - g.R ≤ k → rowOf t.l ((k : Int) - ((q + 1 - g.R : Nat) : Int)) = lineL g n k) ∧ ∀ k, k < q + 1 - g.R → rowOf t.gone ((k : Int) - (t.off - t.gone.length)) = lineL g n k := by
  obtain ⟨q, m, e, hm, h3, hB, hP⟩ := h
  have hm1 : 1 ≤ m := by
    rcases h3 with h3 | h3
    · exact h3
    · subst h3; omega
  have gl : t.gone.length = q + 1 - g.R := by rw [hB.gone]; simp
  refine ⟨q, m, e, hm1, hm, hB.off, ?_, hB.len, gl, fun k hk hle => ?_, fun k hk => ?_⟩
  · unfold Pos at hP
    by_cases hc : m * g.wd < g.C
    · rw [if_pos hc] at hP; rw [hP.2, decide_eq_false (by omega)]
    · rw [if_neg hc] at hP; rw [hP.2, decide_eq_true (by omega)]
  · have hkq : k ≤ q := by
      refine Nat.le_of_not_lt (fun hlt => ?_)
      have := Nat.mul_le_mul_right g.e (show q + 1 ≤ k from hlt)
      rw [Nat.add_mul, Nat.one_mul] at this; omega
    unfold rowOf
    rw [if_pos (by rw [hB.len]; have := hg.r1; omega)]
    have e1 : ((k : Int) - ((q + 1 - g.R : Nat) : Int)).toNat = k - (q + 1 - g.R) := by omega
    rw [e1, hB.at_ (by have := hg.r1; omega)]
    congr 1; omega
  · unfold rowOf
    rw [if_pos (by rw [gl, hB.off]; omega)]
    have e1 : ((k : Int) - (t.off - t.gone.length)).toNat = k := by rw [gl, hB.off]; omega
    rw [e1, hB.goneAt hk]
end T
end Go.Proofs.YtoegjmeoeefllaaGreatDoor
