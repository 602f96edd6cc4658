/- Walks: TermLetters. -/
import Derived.Test.YtoegjmeoeefllaaGreatDoorLErases
import Derived.Test.YtoegjmeoeefllaaGreatDoorLines2
namespace Go.Proofs.YtoegjmeoeefllaaGreatDoor
open Go Go.RowKit
namespace T
attribute [local go_sem high] run_max_2 run_min_2
attribute [local go_sem ↓] Go.wp_at_zero Go.wp_at_succ

def letterC (k : Nat) : Cell := ⟨Utf8.encode (97 + (k : Int) % 26), 1, false⟩
theorem letter_kind (k : Nat) : Wd.isControl (97 + (k : Int) % 26) = false ∧ Wd.ofR (97 + (k : Int) % 26) = 1 := by
  have h : ∀ j : Fin 26, Wd.isControl (97 + ((j.1 : Nat) : Int)) = false ∧ Wd.ofR (97 + ((j.1 : Nat) : Int)) = 1 := by decide
  have e : (k : Int) % 26 = ((k % 26 : Nat) : Int) := by omega
  rw [e]
  exact h ⟨k % 26, Nat.mod_lt _ (by decide)⟩
theorem feed_letter {t : Term} {g : Grid} (hg : Fit g) (h1 : g.wd = 1) (hs : g.sg = letterC) {n : Nat} (h : At g t n) (hn : n ≤ 400) (hst : Still t) :
    At g (feedR t [97 + (n : Int) % 26]) (n + 1) ∧ Still (feedR t [97 + (n : Int) % 26]) := by
  have e : feedR t [97 + (n : Int) % 26] = signR t (97 + (n : Int) % 26) := by
    show byteR t (97 + (n : Int) % 26).toNat = _
    rw [byte_sign hst.1 hst.2 (by omega) (by omega)]
    congr 1
  obtain ⟨k1, k2⟩ := letter_kind n
  rw [e]
  refine ⟨h.sign hg hn _ k1 (by rw [k2, h1]; rfl) (by rw [hs, h1]; rfl), ?_⟩
  have hk := Kp.sign t (97 + (n : Int) % 26)
  exact ⟨by rw [hk.ins, hst.1], by rw [hk.b, hst.2]⟩
theorem rows_of {n q m C : Nat} (hn : n = q * C + m) (h1 : 1 ≤ m) (h2 : m ≤ C) : ((n : Int) + C - 1).tdiv C = ((q : Int) + 1) := by
  rw [Int.tdiv_eq_ediv_of_nonneg (by omega)]
  have e : (n : Int) + C - 1 = ((n + C - 1 : Nat) : Int) := by omega
  have d : (n + C - 1) / C = q + 1 := Nat.div_eq_of_lt_le (by rw [Nat.add_mul, Nat.one_mul]; omega) (by rw [Nat.add_mul, Nat.add_mul, Nat.one_mul]; omega)
  rw [e]
  have : ((n + C - 1 : Nat) : Int) / (C : Int) = (((n + C - 1) / C : Nat) : Int) := by simp
  rw [this, d]; simp
theorem full_of {n q m C : Nat} (hn : n = q * C + m) (h1 : 1 ≤ m) (h2 : m ≤ C) : decide (C ≤ m * 1) = ((n : Int) % C == 0) := by
  have e : (n : Int) % (C : Int) = ((n % C : Nat) : Int) := by simp
  have e2 : n % C = m % C := by rw [hn, Nat.add_comm, Nat.add_mul_mod_self_right]
  rw [e, e2]
  by_cases h : m = C
  · subst h; simp
  · rw [Nat.mod_eq_of_lt (by omega)]
    rw [decide_eq_false (by omega)]
    symm; simp; omega

theorem neq_one (b : ByteArray) (w : World) : (binOp .neq 32 (.agg #[.string b, .int .i64 1, .bool false]) (.agg #[.string b, .int .i64 1, .bool false])).run Tryz.prog w = .ok (.bool false) w := by
  have h := neqCell ⟨b, 1, false⟩ ⟨b, 1, false⟩ w
  have e : decide ((⟨b, 1, false⟩ : Cell) = ⟨b, 1, false⟩) = true := decide_eq_true (Eq.refl _)
  rw [e] at h
  exact h
theorem neq_letter (j : Nat) (w : World) : (binOp .neq 32 (.agg #[.string (Utf8.encode (97 + (j : Int) % 26)), .int .i64 1, .bool false]) (.agg #[.string (Utf8.encode (97 + (j : Int) % 26)), .int .i64 1, .bool false])).run Tryz.prog w = .ok (.bool false) w := neq_one _ w
theorem letter_cell {g : Grid} (_hg : Fit g) (h1 : g.wd = 1) (hs : g.sg = letterC) {C : Nat} (he : g.e = C) (hC : g.C = C) {n kk r j : Nat} (h : kk * C + r = j) (hr : r < C) (hj : j < n) : cellAt (lineL g n kk) r = letterC j := by
  rw [line_at g n kk (by omega), cellL, h1, Nat.div_one, Nat.mod_one, he, if_pos ⟨hr, by omega⟩, if_pos rfl, hs, h]

set_option maxRecDepth 100000 in
set_option maxHeartbeats 4000000 in
theorem letters_walk (W : World) (hG : Glob W) (n0 n1 n2 : Int) :
    Calls Tryz.prog 5 #[.int .i64 n0, .int .i64 n1, .int .i64 n2] W fun e w' => e = .returned (.bool true) ∧ Chg Non W w' := by
  have hA := fun w' (hc : Chg Non W w') => alive_calls w' (hG.chg hc (fun h => h) (fun h => h))
  have HA := Lib.hid hA
  have hN := new_live W W (Chg.refl Non W) hG n0 n1
  clear hA
  by_cases hok : 1 ≤ n2 ∧ n2 ≤ 400 ∧ 1 ≤ n0 ∧ n0 ≤ 60 ∧ 1 ≤ n1 ∧ n1 ≤ 120
  · obtain ⟨o1, o2, o3, o4, o5, o6⟩ := hok
    obtain ⟨n, rfl⟩ : ∃ n : Nat, n2 = n := ⟨n2.toNat, by omega⟩
    obtain ⟨R, rfl⟩ : ∃ n : Nat, n0 = n := ⟨n0.toNat, by omega⟩
    obtain ⟨C, rfl⟩ : ∃ n : Nat, n1 = n := ⟨n1.toNat, by omega⟩
    obtain ⟨g, hg0⟩ : ∃ g : Grid, g = ⟨C, R, C, 1, letterC⟩ := ⟨_, rfl⟩
    have hg : Fit g := by subst hg0; exact ⟨.inl rfl, (Nat.div_one C).symm, by show 1 ≤ C; omega, by show 1 ≤ R; omega⟩
    have hA0 : At g (New (R : Int) (C : Int)) 0 := At.new (by omega) (by omega) (by subst hg0; rfl) (by subst hg0; rfl)
    have gw : g.wd = 1 := by subst hg0; rfl
    have gs : g.sg = letterC := by subst hg0; rfl
    have ge : g.e = C := by subst hg0; rfl
    have gC : g.C = C := by subst hg0; rfl
    have gR : g.R = R := by subst hg0; rfl
    have HGr := Lib.hid (And.intro hg (And.intro gw (And.intro gs (And.intro ge (And.intro gC gR)))))
    have HA0 := Lib.hid hA0
    have l1 : ¬ (n : Int) < 1 := by omega
    have l2 : ¬ (400 : Int) < (n : Int) := by omega
    have l3 : ¬ (R : Int) < 1 := by omega
    have l4 : ¬ (60 : Int) < (R : Int) := by omega
    have l5 : ¬ (C : Int) < 1 := by omega
    have l6 : ¬ (120 : Int) < (C : Int) := by omega
    clear hg0 hg hA0 gw gs ge gC gR
    go_enter Tryz.func5, Tryz.ntmps5
    go_wp2_with fail
    refine hN.mono ?_
    rintro e w1 ⟨p, rfl, L1, hc1⟩
    have HL1 := Lib.hid L1
    clear hN L1 hc1
    go_wp2_with fail
    go_loopw [48] (fun i wr => ∃ k : Nat, i = .int .i64 k ∧ k ≤ n ∧ ∃ u F, Live W wr p u F ∧ Hid (Fed (8 * k) (16 * k) u ∧ Still u ∧ At g u k)) (fun i _ => n - (intOf i).toNat)
    case atStart => exact ⟨0, rfl, Nat.zero_le _, _, _, HL1.out, Lib.hid ⟨Fed.new _ _, ⟨rfl, rfl⟩, HA0.out⟩⟩
    case round =>
      obtain ⟨k, rfl, hk, u, F, L2, HU⟩ := hrel
      by_cases hlt : k < n
      · have hltI : (k : Int) < (n : Int) := by omega
        have x1 : (k : Int).tmod 26 = (k : Int) % 26 := Int.tmod_eq_emod_of_nonneg (by omega)
        have y1 : IntKind.i64.wrap (97 + (k : Int) % 26) = 97 + (k : Int) % 26 := IntWalk.i64_in _ (by omega)
        have y2 : IntKind.u8.wrap (97 + (k : Int) % 26) = 97 + (k : Int) % 26 := IntWalk.u8_in _ (by omega)
        have hF := feed_plain L2 HU.out.1 [97 + (k : Int) % 26] (m := 1) rfl (by omega) (by omega) (by intro x hx; rw [List.mem_singleton] at hx; omega)
        have K3 : Fed (8 * (k + 1)) (16 * (k + 1)) (feedR u [97 + (k : Int) % 26]) := (HU.out.1.feed _).mono (by simp; omega) (by simp; omega)
        have hL := feed_letter HGr.out.1 HGr.out.2.1 HGr.out.2.2.1 HU.out.2.2 (by omega) HU.out.2.1
        have HU2 := Lib.hid (And.intro K3 (And.intro hL.2 hL.1))
        have Hlt := Lib.hid hlt
        clear L2 K3 hL hlt
        go_wp2_with fail
        refine hF.mono ?_
        rintro e w3 ⟨rfl, F3, L3, hc3, hN3⟩
        have HL3 := Lib.hid L3
        clear hF L3 hc3 hN3
        go_wp2_with fail
        go_roundw
        case rel => exact ⟨k + 1, by go_num, by have := Hlt.out; omega, _, F3, HL3.out, HU2⟩
        case measure => have := Hlt.out; simp [intOf]; omega
      · have hge : ¬ (k : Int) < (n : Int) := by omega
        have hkn : k = n := by omega
        subst hkn
        obtain ⟨q, m, e1, e2, e3, e4, e5, e6, e7, e8, e9⟩ := HU.out.2.2.line HGr.out.1 (by omega)
        rw [HGr.out.2.2.2.1] at e1 e3
        rw [HGr.out.2.2.2.2.1, HGr.out.2.1, full_of e1 e2 e3] at e5
        rw [HGr.out.2.2.2.2.2] at e4 e6 e7 e8 e9
        have hrows := rows_of e1 e2 e3
        obtain ⟨T, hT⟩ : ∃ T : Nat, T = q + 1 - R := ⟨_, rfl⟩
        rw [← hT] at e4 e7 e8 e9
        have hmax : max ((q : Int) + 1 - (R : Int)) 0 = (T : Int) := by omega
        have hq : (q : Int) ≤ 400 := by
          have := Nat.mul_le_mul_left q (show 1 ≤ C by omega); omega
        have hOf := Off_calls (L2.non (Chg.refl Non wr).drew).1
        rw [e4] at hOf
        have HE := Lib.hid (And.intro e8 e9)
        have HL := Lib.hid L2
        have E5 := Lib.hid e5
        clear hlt L2 e1 e2 e3 e4 e5 e6 e7 e8 e9 hT
        have z1 : IntKind.i64.wrap ((k : Int) + (C : Int)) = (k : Int) + C := IntWalk.i64_in _ (by omega)
        have z2 : IntKind.i64.wrap ((k : Int) + (C : Int) - 1) = (k : Int) + C - 1 := IntWalk.i64_in _ (by omega)
        go_upto_region 11 with (fail)
        go_cut [81] (fun x wc => x = .bool false ∧ Chg Non wr wc)
        case first =>
          go_region_with (first
            | (go_at_call 21; refine hOf.mono ?_; rintro e w4 ⟨rfl, hc4⟩)
            | (go_at_call 15; refine (Full_calls ((HL.out.non (Chg.refl Non wr).drew).non hc4).1).mono ?_; rw [E5.out]; rintro e w5 ⟨rfl, hc5⟩))
          all_goals
            go_wp2_with fail
            go_meet
            exact ⟨by simp, (((Chg.refl Non wr).drew).then hc4).then hc5⟩
        case rest =>
          obtain ⟨rfl, hcc⟩ := hcut
          have Hcc := Lib.hid hcc
          clear hcc hOf hmax hrows z1 z2
          go_wp2_with fail
          go_loopw [83] (fun i wq => ∃ j : Nat, i = .int .i64 j ∧ j ≤ k ∧ Chg Non wr wq) (fun i _ => k - (intOf i).toNat)
          case atStart => exact ⟨0, rfl, Nat.zero_le _, Hcc.out⟩
          case round =>
            obtain ⟨j, rfl, hj, hcj⟩ := hrel
            by_cases hlt : j < k
            · have hltI : (j : Int) < (k : Int) := by omega
              obtain ⟨kk, hkk⟩ : ∃ x, x = j / C := ⟨_, rfl⟩
              obtain ⟨r0, hr⟩ : ∃ x, x = j % C := ⟨_, rfl⟩
              have hkr : kk * C + r0 = j := by rw [hkk, hr, Nat.mul_comm]; exact Nat.div_add_mod j C
              have hr0 : r0 < C := by rw [hr]; exact Nat.mod_lt _ (by omega)
              have d1 : (j : Int).tdiv C = (kk : Int) := by rw [hkk, Int.tdiv_eq_ediv_of_nonneg (by omega)]; simp
              have d2 : (j : Int).tmod C = (r0 : Int) := by rw [hr, Int.tmod_eq_emod_of_nonneg (by omega)]; simp
              have hk4 : kk ≤ 400 := by rw [hkk]; exact Nat.le_trans (Nat.div_le_self j C) (by omega)
              have x1 : (j : Int).tmod 26 = (j : Int) % 26 := Int.tmod_eq_emod_of_nonneg (by omega)
              have y1 : IntKind.i64.wrap (97 + (j : Int) % 26) = 97 + (j : Int) % 26 := IntWalk.i64_in _ (by omega)
              have y2 : IntKind.i32.wrap (97 + (j : Int) % 26) = 97 + (j : Int) % 26 := IntWalk.i32_in _ (by omega)
              have hcv : ∀ w r, (convert 21 9 (.int .i32 r)).run Tryz.prog w = .ok (.string (Utf8.encode r)) w := fun w r => run_convert_rune w _ _ r Tryz.underlying21 Tryz.underlying9
              have hne := neq_letter j
              have hrI : (r0 : Int) < (C : Int) := by omega
              have hk4I : (kk : Int) ≤ 400 := by omega
              have Hlt := Lib.hid hlt
              have hGo := gone_live (HL.out.non hcj) HU.out.1.ok (by omega) (kk : Int) (by omega)
              have Hcj := Lib.hid hcj
              clear hkk hr hlt hcj
              by_cases hT : kk < T
              · have hTI : (kk : Int) < (T : Int) := by omega
                rw [HE.out.2 kk hT, line_len, HGr.out.2.2.2.2.1] at hGo
                go_wp2_with fail
                refine hGo.mono ?_
                rintro e a1 ⟨A1, d, rfl, s1, k1⟩
                have Hk1 := Lib.hid k1
                clear hGo k1
                obtain ⟨b, o, rfl, _, q0, q1, q2⟩ := sl_cell3 s1 (by rw [line_len, HGr.out.2.2.2.2.1]) hr0
                have hcl := letter_cell HGr.out.1 HGr.out.2.1 HGr.out.2.2.1 HGr.out.2.2.2.1 HGr.out.2.2.2.2.1 hkr hr0 Hlt.out
                rw [hcl] at q0 q1 q2
                simp only [letterC] at q0 q1 q2
                clear hcl
                go_wp2_with fail
                go_roundw
                case rel => exact ⟨j + 1, by go_num, by have := Hlt.out; omega, (Hcj.out.then Hk1.out)⟩
                case measure => have := Hlt.out; simp [intOf]; omega
              · have hTI : ¬ (kk : Int) < (T : Int) := by omega
                have hTI2 : (T : Int) ≤ (kk : Int) := by omega
                go_wp2_with fail
                refine hGo.mono ?_
                rintro e a1 ⟨A1, d, rfl, s1, k1⟩
                have Hk1 := Lib.hid k1
                have hR := row_live ((HL.out.non Hcj.out).non k1) HU.out.1.ok ((kk : Int) - (T : Int))
                rw [HE.out.1 kk (by rw [HGr.out.2.2.2.1]; have := Hlt.out; omega) (by omega), line_len, HGr.out.2.2.2.2.1] at hR
                clear hGo k1 s1
                go_wp2_with fail
                refine hR.mono ?_
                rintro e a2 ⟨A2, d2', rfl, s2, k2⟩
                have Hk2 := Lib.hid k2
                clear hR k2
                obtain ⟨b, o, rfl, _, q0, q1, q2⟩ := sl_cell3 s2 (by rw [line_len, HGr.out.2.2.2.2.1]) hr0
                have hcl := letter_cell HGr.out.1 HGr.out.2.1 HGr.out.2.2.1 HGr.out.2.2.2.1 HGr.out.2.2.2.2.1 hkr hr0 Hlt.out
                rw [hcl] at q0 q1 q2
                simp only [letterC] at q0 q1 q2
                clear hcl
                go_wp2_with fail
                go_roundw
                case rel => exact ⟨j + 1, by go_num, by have := Hlt.out; omega, ((Hcj.out.then Hk1.out).then Hk2.out)⟩
                case measure => have := Hlt.out; simp [intOf]; omega
            · have hge2 : ¬ (j : Int) < (k : Int) := by omega
              have hAl := HA.out _ (HL.out.non hcj).2.2.1
              have HC := Lib.hid (HL.out.non hcj).2.2.1
              clear hlt hcj
              go_wp2_with fail
              refine hAl.mono ?_
              rintro e a1 ⟨rfl, k1⟩
              have HC2 := Lib.hid (HC.out.thenN k1)
              clear hAl k1
              go_wp2_with fail
              go_ret
              exact ⟨rfl, HC2.out⟩
  · by_cases i0 : n2 < 1
    · clear hok
      go_enter Tryz.func5, Tryz.ntmps5
      go_wp2_with fail
      refine hN.mono ?_
      rintro e w1 ⟨p, rfl, L1, hc1⟩
      have hAl := HA.out w1 hc1
      clear hN L1
      go_wp2_with fail
      refine hAl.mono ?_
      rintro e w2 ⟨rfl, hc2⟩
      go_wp2_with fail
      go_ret
      exact ⟨rfl, hc1.thenN hc2⟩
    · by_cases i1 : 400 < n2
      · clear hok
        go_enter Tryz.func5, Tryz.ntmps5
        go_wp2_with fail
        refine hN.mono ?_
        rintro e w1 ⟨p, rfl, L1, hc1⟩
        have hAl := HA.out w1 hc1
        clear hN L1
        go_wp2_with fail
        refine hAl.mono ?_
        rintro e w2 ⟨rfl, hc2⟩
        go_wp2_with fail
        go_ret
        exact ⟨rfl, hc1.thenN hc2⟩
      · by_cases i2 : n0 < 1
        · clear hok
          go_enter Tryz.func5, Tryz.ntmps5
          go_wp2_with fail
          refine hN.mono ?_
          rintro e w1 ⟨p, rfl, L1, hc1⟩
          have hAl := HA.out w1 hc1
          clear hN L1
          go_wp2_with fail
          refine hAl.mono ?_
          rintro e w2 ⟨rfl, hc2⟩
          go_wp2_with fail
          go_ret
          exact ⟨rfl, hc1.thenN hc2⟩
        · by_cases i3 : 60 < n0
          · clear hok
            go_enter Tryz.func5, Tryz.ntmps5
            go_wp2_with fail
            refine hN.mono ?_
            rintro e w1 ⟨p, rfl, L1, hc1⟩
            have hAl := HA.out w1 hc1
            clear hN L1
            go_wp2_with fail
            refine hAl.mono ?_
            rintro e w2 ⟨rfl, hc2⟩
            go_wp2_with fail
            go_ret
            exact ⟨rfl, hc1.thenN hc2⟩
          · by_cases i4 : n1 < 1
            · clear hok
              go_enter Tryz.func5, Tryz.ntmps5
              go_wp2_with fail
              refine hN.mono ?_
              rintro e w1 ⟨p, rfl, L1, hc1⟩
              have hAl := HA.out w1 hc1
              clear hN L1
              go_wp2_with fail
              refine hAl.mono ?_
              rintro e w2 ⟨rfl, hc2⟩
              go_wp2_with fail
              go_ret
              exact ⟨rfl, hc1.thenN hc2⟩
            · have i5 : 120 < n1 := by omega
              clear hok
              go_enter Tryz.func5, Tryz.ntmps5
              go_wp2_with fail
              refine hN.mono ?_
              rintro e w1 ⟨p, rfl, L1, hc1⟩
              have hAl := HA.out w1 hc1
              clear hN L1
              go_wp2_with fail
              refine hAl.mono ?_
              rintro e w2 ⟨rfl, hc2⟩
              go_wp2_with fail
              go_ret
              exact ⟨rfl, hc1.thenN hc2⟩
end T
end Go.Proofs.YtoegjmeoeefllaaGreatDoor
