/- Walks: TermParts. -/
import Derived.Test.YtoegjmeoeefllaaGreatDoorLSizes
namespace Go.Proofs.YtoegjmeoeefllaaGreatDoor
open Go Go.RowKit
namespace T
attribute [local go_sem high] run_max_2 run_min_2
attribute [local go_sem ↓] Go.wp_at_zero Go.wp_at_succ

theorem szByte (w : World) : (sizeOf (Tryz.prog.elem 34)).run Tryz.prog w = .ok 1 w := by kernel_rfl
theorem elB : Tryz.prog.underlying 34 = some (.slice (Tryz.prog.elem 34)) := by kernel_rfl
theorem slice_h (w : World) (A : Option Addr) (n c k : Nat) (hk : k ≤ c) : (Instr.slice 34 (.slice A n c) none (some (.int .i64 (k : Int))) none).run Tryz.prog w = .ok (.slice A k c) w := by
  rw [run_slice_h w 34 A n c elB .i64 (k : Int) (by omega) (by omega), szByte]
  simp [sliced, Result.andThen]
  cases A <;> simp [Addr.add]
theorem slice_l (w : World) (A : Option Addr) (n c k : Nat) (hk : k ≤ n) : (Instr.slice 34 (.slice A n c) (some (.int .i64 (k : Int))) none none).run Tryz.prog w = .ok (.slice (if c = k then A else A.map (·.add (k * 1))) (n - k) (c - k)) w := by
  rw [run_slice_l w 34 A n c elB .i64 (k : Int) (by omega) (by omega), szByte]
  simp [sliced, Result.andThen]

/-- Another terminal, while one turns. -/
theorem Live.other {W w w' : World} {p q : Nat} {t u : Term} {F F' Fq : Nat → Prop} (hq : Live W w q u Fq) (hp : Live W w p t F) (hc : Chg F w w') (hN : ∀ b, F' b → F b ∨ w.heap.size ≤ b) (hd : ∀ b, F b → ¬ Fq b) :
    Live W w' q u Fq ∧ ∀ b, F' b → ¬ Fq b :=
  ⟨hq.chg hc (fun b h1 h2 => hd b h2 h1) hp.2.1, fun b hb hf => by
    rcases hN b hb with h1 | h1
    · exact hd b h1 hf
    · have := hq.1.lt b hf; omega⟩

set_option maxRecDepth 100000 in
set_option maxHeartbeats 2000000 in
theorem parts_walk (W : World) (hG : Glob W) (r c at' : Int) (v : Value) (b : List Int) (hr : Rd W 1 v b.length (b.map (Value.int .u8)) (fun k => k < W.heap.size)) (hb : ∀ x ∈ b, 0 ≤ x ∧ x < 256) :
    Calls Tryz.prog 4 #[.agg #[.int .i64 r, .int .i64 c], v, .int .i64 at'] W fun e w' => e = .returned (.bool true) ∧ Chg Non W w' := by
  have hb2 := Blk.new W [.int .i64 r, .int .i64 c] 22
  have hc0 : Chg Non W (W.alloc (.cells #[.int .i64 r, .int .i64 c] 22)) := (Chg.refl Non W).alloc _
  have x0 := hb2.cell 0
  have x1 := hb2.cell 1
  have hA := fun w' (hc : Chg Non W w') => alive_calls w' (hG.chg hc (fun h => h) (fun h => h))
  have HA := Lib.hid hA
  obtain ⟨A, cp, rfl, h2, h3⟩ := hr.shape
  unfold maxLen at h3
  have HR := Lib.hid hr
  have HB := Lib.hid hb
  have HG := Lib.hid hG
  have Hc0 := Lib.hid hc0
  clear hA hr hb hG hb2 hc0
  by_cases hok : b.length ≤ 800 ∧ r ≤ 20 ∧ c ≤ 20 ∧ 0 ≤ at' ∧ at' ≤ b.length
  · obtain ⟨o1, o2, o3, o4, o5⟩ := hok
    obtain ⟨k, rfl⟩ : ∃ k : Nat, at' = k := ⟨at'.toNat, by omega⟩
    have n1 : ¬ (800 : Int) < (b.length : Int) := by omega
    have n2 : ¬ (20 : Int) < r := by omega
    have n3 : ¬ (20 : Int) < c := by omega
    have n4 : ¬ (k : Int) < 0 := by omega
    have n5 : ¬ (b.length : Int) < (k : Int) := by omega
    have hk : k ≤ b.length := by omega
    obtain ⟨vt, hvt⟩ : ∃ vt, vt = Value.slice A k cp := ⟨_, rfl⟩
    obtain ⟨vd, hvd⟩ : ∃ vd, vd = Value.slice (if cp = k then A else A.map (·.add (k * 1))) (b.length - k) (cp - k) := ⟨_, rfl⟩
    have hst := fun w => slice_h w A b.length cp k (by omega)
    have hsd := fun w => slice_l w A b.length cp k hk
    have hrt := HR.out.take k hk
    have hrd := HR.out.drop k hk
    rw [← hvt] at hst hrt
    rw [← hvd] at hsd hrd
    rw [Nat.mul_one] at hrt hrd
    have HRt := Lib.hid hrt
    have HRd := Lib.hid hrd
    have elt : (b.take k).length = k := by rw [List.length_take]; omega
    have eld : (b.drop k).length = b.length - k := by rw [List.length_drop]
    have Helt := Lib.hid (And.intro elt eld)
    have Hk := Lib.hid (And.intro hk o1)
    clear hrt hrd hvt hvd elt eld hk o1 o2 o3 o4 o5
    go_enter Tryz.func4, Tryz.ntmps4
    go_upto_region 3 with (fail)
    go_cut [7, 8] (fun x y wc => ∃ p q F Fq, x = .pointer (some ⟨p, 0, none⟩) ∧ y = .pointer (some ⟨q, 0, none⟩) ∧ Live W wc p (New r c) F ∧ Live W wc q (New r c) Fq ∧ ∀ b, F b → ¬ Fq b)
    case first =>
      go_region_held3 (fun w' => w'.cell? ⟨W.heap.size, 0, none⟩ = some (.int .i64 r) ∧ w'.cell? ⟨W.heap.size, 1, none⟩ = some (.int .i64 c)) (first | exact ⟨x0, x1⟩ | exact ⟨by assumption, by assumption⟩) (first
        | (have hgd := hLa; go_at_call 16; refine (new_live W _ hLa.2.2.1 HG.out r c).mono ?_; rintro e w4 ⟨pb, rfl, hLb, hcb⟩; have y0 := hcb.cell z0 (fun h => h); have y1 := hcb.cell z1 (fun h => h))
        | (go_at_call 16; refine (new_live W _ (Hc0.out.drewN 1) HG.out r c).mono ?_; rintro e w3 ⟨pa, rfl, hLa, hca⟩; have z0 := hca.cell x0 (fun h => h); have z1 := hca.cell x1 (fun h => h)))
      all_goals
        go_wp2_with fail
        go_meet
        have hLa' := hLa.non hcb
        first
          | exact ⟨pa, pb, _, _, rfl, rfl, hLa', hLb, fun b h1 h2 => by omega⟩
          | exact ⟨pb, pa, _, _, rfl, rfl, hLb, hLa', fun b h1 h2 => by omega⟩
    case rest =>
      obtain ⟨p, q, F, Fq, rfl, rfl, Lp, Lq, hd⟩ := hcut
      have hGF : ∀ {F : Nat → Prop} {w : World} {p : Nat} {t : Term}, Live W w p t F → ∀ b, b < W.heap.size → ¬ F b := fun h b hb hf => by have := h.2.1 b hf; omega
      have hF1 := feed_live Lp (Fed.new r c) (v := .slice A b.length cp) (m := b.length) (l := b) (G := fun b => b < W.heap.size) (by have := Hk.out; omega) (by have := Hk.out; omega) HB.out (HR.out.chg Lp.2.2.1 (fun _ _ _ h => h)) (hGF Lp)
      go_wp2_with fail
      refine hF1.mono ?_
      rintro e w1 ⟨rfl, F1, L1, hc1, hN1⟩
      obtain ⟨Lq1, hd1⟩ := Lq.other Lp hc1 hN1 hd
      have hF2 := feed_live Lq1 (Fed.new r c) (v := vt) (m := k) (l := b.take k) (G := fun b => b < W.heap.size) (by have := Hk.out; omega) (by have := Hk.out; omega) (fun x hx => HB.out x (List.mem_of_mem_take hx)) (by rw [List.map_take]; exact HRt.out.chg Lq1.2.2.1 (fun _ _ _ h => h)) (hGF Lq1)
      clear hF1 Lp Lq hd hc1 hN1
      go_wp2_with fail
      refine hF2.mono ?_
      rintro e w2 ⟨rfl, Fq2, Lq2, hc2, hN2⟩
      obtain ⟨L2, hd2⟩ := L1.other Lq1 hc2 hN2 (fun b h1 h2 => hd1 b h2 h1)
      have K2 : Fed 6400 12800 (feedR (New r c) (b.take k)) := ((Fed.new r c).feed _).mono (by have := Helt.out.1; have := Hk.out; omega) (by have := Helt.out.1; have := Hk.out; omega)
      have hCp := copy_live Lq2 K2.ok
      clear hF2 L1 Lq1 hd1 hc2 hN2
      go_wp2_with fail
      refine hCp.mono ?_
      rintro e w3 ⟨z, rfl, Lz3, hc3⟩
      have L3 := L2.non hc3
      have Lq3 := Lq2.non hc3
      have hdz : ∀ b, Fq2 b → ¬ (w2.heap.size ≤ b ∧ b < w3.heap.size) := fun b h1 h2 => by have := Lq2.1.lt b h1; omega
      have hdz2 : ∀ b, F1 b → ¬ (w2.heap.size ≤ b ∧ b < w3.heap.size) := fun b h1 h2 => by have := L2.1.lt b h1; omega
      have hF4 := feed_live Lq3 K2 (v := vd) (m := b.length - k) (l := b.drop k) (G := fun b => b < W.heap.size) (by have := Hk.out; omega) (by have := Hk.out; omega) (fun x hx => HB.out x (List.mem_of_mem_drop hx)) (by rw [List.map_drop]; exact HRd.out.chg Lq3.2.2.1 (fun _ _ _ h => h)) (hGF Lq3)
      clear hCp L2 Lq2 hc3
      go_wp2_with fail
      refine hF4.mono ?_
      rintro e w4 ⟨rfl, Fq4, Lq4, hc4, hN4⟩
      obtain ⟨L4, hd4⟩ := L3.other Lq3 hc4 hN4 hd2
      obtain ⟨Lz4, hdz4⟩ := Lz3.other Lq3 hc4 hN4 hdz
      have hF5 := feed_live Lz4 K2 (v := vd) (m := b.length - k) (l := b.drop k) (G := fun b => b < W.heap.size) (by have := Hk.out; omega) (by have := Hk.out; omega) (fun x hx => HB.out x (List.mem_of_mem_drop hx)) (by rw [List.map_drop]; exact HRd.out.chg Lz4.2.2.1 (fun _ _ _ h => h)) (hGF Lz4)
      clear hF4 L3 Lq3 Lz3 hd2 hdz hc4 hN4
      go_wp2_with fail
      refine hF5.mono ?_
      rintro e w5 ⟨rfl, Fz5, Lz5, hc5, hN5⟩
      obtain ⟨Lq5, _⟩ := Lq4.other Lz4 hc5 hN5 (fun b h1 h2 => hdz4 b h2 h1)
      obtain ⟨L5, _⟩ := L4.other Lz4 hc5 hN5 (fun b h1 h2 => hdz2 b h2 h1)
      have e1 : feedR (feedR (New r c) (b.take k)) (b.drop k) = feedR (New r c) b := by rw [← feedR_append, List.take_append_drop]
      rw [e1] at Lq5 Lz5
      have K : Fed 6400 12800 (feedR (New r c) b) := ((Fed.new r c).feed _).mono (by have := Hk.out; omega) (by have := Hk.out; omega)
      obtain ⟨t, ht⟩ : ∃ t, t = feedR (New r c) b := ⟨_, rfl⟩
      rw [← ht] at Lq5 Lz5 L5 K
      have HK := Lib.hid K
      have hl60 : t.l.length ≤ 60 := K.ok.l1
      have HP := Lib.hid L5
      have HQ := Lib.hid Lq5
      have HZ := Lib.hid Lz5
      have hSz := Size_calls L5.1
      clear hF5 L4 Lq4 Lz4 L5 Lq5 Lz5 hd4 hdz2 hdz4 hc5 hN5 e1 ht K2 K hst hsd
      go_wp2_with fail
      refine hSz.mono ?_
      rintro e w6 ⟨rfl, hc6⟩
      clear hSz
      go_wp2_with fail
      go_loopw [87] (fun i wr => ∃ k : Nat, i = .int .i64 k ∧ k ≤ t.l.length ∧ Chg Non w5 wr) (fun i _ => t.l.length - (intOf i).toNat)
      case atStart => exact ⟨0, rfl, Nat.zero_le _, hc6⟩
      case round =>
        obtain ⟨j, rfl, hj, hck⟩ := hrel
        by_cases hlt : j < t.l.length
        · have hltI : (j : Int) < (t.l.length : Int) := by omega
          have hle := rowOf_le HK.out.ok j
          have hR1 := row_live (HP.out.non hck) HK.out.ok j
          have Hlt := Lib.hid hlt
          clear hlt
          go_wp2_with fail
          refine hR1.mono ?_
          rintro e a1 ⟨A1, d1, rfl, s1, k1⟩
          go_wp2_with fail
          refine (Old_calls a1 _ _ _ (s1.rd (G := fun _ => True) (fun _ _ => trivial)) hle).mono ?_
          rintro e a2 ⟨A2, d2, rfl, s2, k2⟩
          have hR2 := row_live (((HQ.out.non hck).non k1).non k2) HK.out.ok j
          clear hR1
          go_wp2_with fail
          refine hR2.mono ?_
          rintro e a3 ⟨A3, d3, rfl, s3, k3⟩
          go_wp2_with fail
          refine (Old_calls a3 _ _ _ (s3.rd (G := fun _ => True) (fun _ _ => trivial)) hle).mono ?_
          rintro e a4 ⟨A4, d4, rfl, s4, k4⟩
          clear hR2
          go_wp2_with fail
          refine (Same_calls a4 _ _ _ _ _ _ (((s2.chg k3 (fun _ _ h => h)).chg k4 (fun _ _ h => h)).rd (G := fun _ => True) (fun _ _ => trivial)) (s4.rd (G := fun _ => True) (fun _ _ => trivial)) hle hle).mono ?_
          rintro e a5 ⟨rfl, k5⟩
          rw [decide_eq_true rfl]
          have HC := Lib.hid ((((((hck.then k1).then k2).then k3).then k4).then k5))
          clear s1 s2 s3 s4 k1 k2 k3 k4 k5 hck
          have hR3 := row_live (HP.out.non HC.out) HK.out.ok j
          go_wp2_with fail
          refine hR3.mono ?_
          rintro e a6 ⟨A6, d6, rfl, s1, k1⟩
          go_wp2_with fail
          refine (Old_calls a6 _ _ _ (s1.rd (G := fun _ => True) (fun _ _ => trivial)) hle).mono ?_
          rintro e a7 ⟨A7, d7, rfl, s2, k2⟩
          have hR4 := row_live (((HZ.out.non HC.out).non k1).non k2) HK.out.ok j
          clear hR3
          go_wp2_with fail
          refine hR4.mono ?_
          rintro e a8 ⟨A8, d8, rfl, s3, k3⟩
          go_wp2_with fail
          refine (Old_calls a8 _ _ _ (s3.rd (G := fun _ => True) (fun _ _ => trivial)) hle).mono ?_
          rintro e a9 ⟨A9, d9, rfl, s4, k4⟩
          clear hR4
          go_wp2_with fail
          refine (Same_calls a9 _ _ _ _ _ _ (((s2.chg k3 (fun _ _ h => h)).chg k4 (fun _ _ h => h)).rd (G := fun _ => True) (fun _ _ => trivial)) (s4.rd (G := fun _ => True) (fun _ _ => trivial)) hle hle).mono ?_
          rintro e a10 ⟨rfl, k5⟩
          rw [decide_eq_true rfl]
          have HC2 := Lib.hid ((((((HC.out.then k1).then k2).then k3).then k4).then k5))
          clear s1 s2 s3 s4 k1 k2 k3 k4 k5
          go_wp2_with fail
          go_roundw
          case rel => exact ⟨j + 1, by go_num, by have := Hlt.out; omega, HC2.out⟩
          case measure => have := Hlt.out; simp [intOf]; omega
        · have hge : ¬ (j : Int) < (t.l.length : Int) := by omega
          have hC1 := Cursor_calls (HP.out.non hck).1
          have Hck := Lib.hid hck
          clear hck hlt
          go_wp2_with fail
          refine hC1.mono ?_
          rintro e a1 ⟨rfl, k1⟩
          have hC2 := Cursor_calls ((HQ.out.non Hck.out).non k1).1
          clear hC1
          go_wp2_with fail
          refine hC2.mono ?_
          rintro e a2 ⟨rfl, k2⟩
          have hC3 := Cursor_calls (((HZ.out.non Hck.out).non k1).non k2).1
          clear hC2
          go_wp2_with fail
          refine hC3.mono ?_
          rintro e a3 ⟨rfl, k3⟩
          have HC := Lib.hid (((Hck.out.then k1).then k2).then k3)
          clear hC3 k1 k2 k3
          have hA := HA.out a3 (HP.out.non HC.out).2.2.1
          go_wp2_with fail
          refine hA.mono ?_
          rintro e a4 ⟨rfl, k4⟩
          have hO1 := Off_calls ((HP.out.non HC.out).non k4).1
          clear hA
          go_wp2_with fail
          refine hO1.mono ?_
          rintro e a5 ⟨rfl, k5⟩
          have hO2 := Off_calls (((HQ.out.non HC.out).non k4).non k5).1
          clear hO1
          go_wp2_with fail
          refine hO2.mono ?_
          rintro e a6 ⟨rfl, k6⟩
          have HC2 := Lib.hid (((HC.out.then k4).then k5).then k6)
          have hO3 := Off_calls (HP.out.non HC2.out).1
          clear hO2 k4 k5 k6
          go_wp2_with fail
          refine hO3.mono ?_
          rintro e a7 ⟨rfl, k7⟩
          have hO4 := Off_calls ((HZ.out.non HC2.out).non k7).1
          clear hO3
          go_wp2_with fail
          refine hO4.mono ?_
          rintro e a8 ⟨rfl, k8⟩
          have hU1 := Full_calls (((HP.out.non HC2.out).non k7).non k8).1
          clear hO4
          go_wp2_with fail
          refine hU1.mono ?_
          rintro e a9 ⟨rfl, k9⟩
          have hU2 := Full_calls ((((HQ.out.non HC2.out).non k7).non k8).non k9).1
          clear hU1
          go_wp2_with fail
          refine hU2.mono ?_
          rintro e a10 ⟨rfl, k10⟩
          have hend := ((((HQ.out.non HC2.out).non k7).non k8).non k9).non k10 |>.2.2.1
          clear hU2
          go_wp2_with fail
          go_ret
          exact ⟨by simp, hend⟩
  · have Hok := Lib.hid hok
    clear hok
    go_enter Tryz.func4, Tryz.ntmps4
    go_upto_region 1 with (fail)
    go_cut [41] (fun x wc => x = .bool true ∧ Chg Non W wc)
    case first =>
      by_cases h1 : (800 : Int) < (b.length : Int)
      · go_wp2_with fail
        go_meet
        exact ⟨rfl, Hc0.out⟩
      · by_cases h2 : (20 : Int) < r
        · go_wp2_with fail
          go_meet
          exact ⟨rfl, Hc0.out⟩
        · by_cases h3 : (20 : Int) < c
          · go_wp2_with fail
            go_meet
            exact ⟨rfl, Hc0.out⟩
          · by_cases h4 : at' < 0
            · go_wp2_with fail
              go_meet
              exact ⟨rfl, Hc0.out⟩
            · have h5 : (b.length : Int) < at' := by
                have := Hok.out
                by_cases h6 : (b.length : Int) < at'
                · exact h6
                · exact absurd ⟨by omega, by omega, by omega, by omega, by omega⟩ this
              go_wp2_with fail
              go_meet
              exact ⟨rfl, Hc0.out⟩
    case rest =>
      obtain ⟨rfl, hc1⟩ := hcut
      have hA := HA.out wc hc1
      go_wp2_with fail
      refine hA.mono ?_
      rintro e w2 ⟨rfl, hc2⟩
      go_wp2_with fail
      go_ret
      exact ⟨rfl, hc1.thenN hc2⟩
end T
end Go.Proofs.YtoegjmeoeefllaaGreatDoor
