/- Walks: TermErases. -/
import Derived.Test.YtoegjmeoeefllaaGreatDoorSeqs
import Derived.Test.YtoegjmeoeefllaaGreatDoorLParts
import Derived.Test.YtoegjmeoeefllaaGreatDoorLCells
import Derived.Deep.RegionHeld3
namespace Go.Proofs.YtoegjmeoeefllaaGreatDoor
open Go Go.RowKit
namespace T
attribute [local go_sem high] run_max_2 run_min_2
attribute [local go_sem ↓] Go.wp_at_zero Go.wp_at_succ

/-- Feed, of bytes that have just been laid, without a mark. -/
theorem feed_plain {W w : World} {p : Nat} {t : Term} {F : Nat → Prop} {o n : Nat} (h : Live W w p t F) (hk : Fed o n t) (l : List Int) {m : Nat} (hm : l.length = m) (ho : o + 8 * m ≤ 1000000) (hn : n + 16 * m ≤ 10000000) (hl : ∀ x ∈ l, 0 ≤ x ∧ x < 256) :
    Calls Tryz.prog 17 #[.pointer (some ⟨p, 0, none⟩), .slice (some ⟨w.heap.size, 0, none⟩) m m] (w.alloc (.cells (l.map (Value.int .u8)).toArray 5)) fun e w' => e = .returned (.tuple #[]) ∧
      ∃ F', Live W w' p (feedR t l) F' ∧ Chg F w w' ∧ ∀ b, F' b → F b ∨ w.heap.size ≤ b := by
  have h1 := h.non ((Chg.refl Non w).alloc (.cells (l.map (Value.int .u8)).toArray 5))
  refine (feed_live h1 hk ho hn hl (rd_new w (l.map (Value.int .u8)) 5 1 (n := m) (by simp [hm]) (by omega)) (fun b hb hf => by have := h.1.lt b hf; omega)).mono ?_
  rintro e w' ⟨rfl, F', h2, h3, h4⟩
  exact ⟨rfl, F', h2, ((Chg.refl F w).alloc _).then h3, fun b hb => by rcases h4 b hb with h5 | h5; exact .inl h5; (rw [World.size_alloc] at h5; exact .inr (by omega))⟩
theorem move_col0 (t : Term) (r : Int) : (moveTo t r 0).col = 0 := by show (min (max (0 : Int) 0) (t.cols - 1 : Int)).toNat = 0; omega
theorem eql_blank (cs : ByteArray) (cw : Int) (cd : Bool) (w : World) : (binOp .eql 32 (.agg #[.string cs, .int .i64 cw, .bool cd]) (.agg (flatC Blank).toArray)).run Tryz.prog w = .ok (.bool (decide ((⟨cs, cw, cd⟩ : Cell) = Blank))) w := eqlCell ⟨cs, cw, cd⟩ Blank w
theorem neq_blank (cs : ByteArray) (cw : Int) (cd : Bool) (w : World) : (binOp .neq 32 (.agg #[.string cs, .int .i64 cw, .bool cd]) (.agg (flatC Blank).toArray)).run Tryz.prog w = .ok (.bool (!decide ((⟨cs, cw, cd⟩ : Cell) = Blank))) w := neqCell ⟨cs, cw, cd⟩ Blank w

set_option maxRecDepth 100000 in
set_option maxHeartbeats 4000000 in
theorem erases_walk (W : World) (hG : Glob W) (r c : Int) (v : Value) (es : List Ev) (h : EvIn W v es (fun b => b < W.heap.size)) (kk : Int) :
    Calls Tryz.prog 7 #[.agg #[.int .i64 r, .int .i64 c], v, .int .i64 kk] W fun e w' => e = .returned (.bool true) ∧ Chg Non W w' := by
  have kc := fun (w : World) (C : Array Value) (n c : Nat) => Lib.run_convert_bytes_const (P := Tryz.prog) w 34 5 C n c Tryz.underlying34 Tryz.underlying5
  have hc0 : Chg Non W (W.alloc (.cells #[.int .i64 r, .int .i64 c] 22)) := (Chg.refl Non W).alloc _
  have hA := fun w' (hc : Chg Non W w') => alive_calls w' (hG.chg hc (fun h => h) (fun h => h))
  have HA := Lib.hid hA
  by_cases hok : fewR es = true ∧ r ≤ 60 ∧ c ≤ 120
  · have hB := begin_some W _ r c v es hc0 hG h hok.1 hok.2.1 hok.2.2
    have hFed := runEvs_fed hok.1 r c
    obtain ⟨t0, ht0⟩ : ∃ t, t = runEvs (New r c) es := ⟨_, rfl⟩
    rw [← ht0] at hB hFed
    have HK := Lib.hid hFed
    clear hok hFed hc0 h ht0 hA
    by_cases hkk : kk < 0 ∨ 70 < kk
    · go_enter Tryz.func7, Tryz.ntmps7
      go_wp2_with fail
      refine hB.mono ?_
      rintro e w1 ⟨p, F, rfl, L1⟩
      have hA := HA.out w1 L1.2.2.1
      have hC := L1.2.2.1
      clear hB L1
      by_cases h1 : kk < 0
      · go_wp2_with fail
        refine hA.mono ?_
        rintro e w2 ⟨rfl, hc2⟩
        go_wp2_with fail
        go_ret
        exact ⟨rfl, hC.thenN hc2⟩
      · have h2 : 70 < kk := by omega
        go_wp2_with fail
        refine hA.mono ?_
        rintro e w2 ⟨rfl, hc2⟩
        go_wp2_with fail
        go_ret
        exact ⟨rfl, hC.thenN hc2⟩
    · have h1 : ¬ kk < 0 := by omega
      have h2 : ¬ 70 < kk := by omega
      obtain ⟨k, rfl⟩ : ∃ k : Nat, kk = k := ⟨kk.toNat, by omega⟩
      have hk70 : k ≤ 70 := by omega
      clear hkk
      go_enter Tryz.func7, Tryz.ntmps7
      go_wp2_with fail
      refine hB.mono ?_
      rintro e w1 ⟨p, F, rfl, L1⟩
      have hF1 := feed_plain L1 HK.out [24, 13, 27, 91, 72] (m := 5) rfl (by decide) (by decide) (by decide)
      have e1 : feedR t0 [24, 13, 27, 91, 72] = moveTo (clean (feedR t0 [24, 13]) ByteArray.empty) 0 0 := feed_H (still_calm t0)
      have hF2 : Fed 8840 12880 (feedR t0 [24, 13, 27, 91, 72]) := (HK.out.feed _).mono (by decide) (by decide)
      rw [e1] at hF1 hF2
      have hs2 := (still_calm t0).move ByteArray.empty 0 0
      have hcol2 := move_col0 (clean (feedR t0 [24, 13]) ByteArray.empty) 0
      obtain ⟨t1, ht1⟩ : ∃ t, t = moveTo (clean (feedR t0 [24, 13]) ByteArray.empty) 0 0 := ⟨_, rfl⟩
      rw [← ht1] at hF1 hF2 hs2 hcol2
      have HT1 := Lib.hid (And.intro hF2 (And.intro hs2 hcol2))
      clear hB L1 e1 hF2 hs2 hcol2 ht1
      go_wp2_with fail
      refine hF1.mono ?_
      rintro e w2 ⟨rfl, F2, L2, hc2, hN2⟩
      have HL2 := Lib.hid L2
      clear hF1 hc2 hN2 L2
      go_wp2_with fail
      go_loopw [37] (fun i wr => ∃ j : Nat, i = .int .i64 j ∧ j ≤ k ∧ ∃ u F, Live W wr p u F ∧ Fed (8840 + 24 * j) (12880 + 48 * j) u ∧ Still u ∧ u.col = 0) (fun i _ => k - (intOf i).toNat)
      case atStart => exact ⟨0, rfl, Nat.zero_le _, t1, F2, HL2.out, HT1.out.1, HT1.out.2.1, HT1.out.2.2⟩
      case round =>
        obtain ⟨j, rfl, hj, u, F3, L3, K3, S3, C3⟩ := hrel
        by_cases hlt : j < k
        · have hltI : (j : Int) < (k : Int) := by omega
          have hF4 := feed_new L3 K3 [27, 91, 66] (m := 3) rfl (by omega) (by omega) (by decide)
          have K4 : Fed (8840 + 24 * (j + 1)) (12880 + 48 * (j + 1)) (feedR u [27, 91, 66]) := (K3.feed _).mono (by simp; omega) (by simp; omega)
          rw [feed_B S3, C3] at hF4 K4
          have hS4 := S3.move ByteArray.empty (u.row + 1) 0
          have hC4 := move_col0 (clean u ByteArray.empty) (u.row + 1)
          have HH := Lib.hid (And.intro K4 (And.intro hS4 hC4))
          have Hlt := Lib.hid hlt
          clear L3 K3 S3 C3 K4 hS4 hC4 hlt
          go_wp2_with fail
          refine hF4.mono ?_
          rintro e w4 ⟨rfl, F4, L4, hc4, hN4⟩
          have HL4 := Lib.hid L4
          clear hF4 L4 hc4 hN4
          go_wp2_with fail
          go_roundw
          case rel => exact ⟨j + 1, by go_num, by have := Hlt.out; omega, _, F4, HL4.out, HH.out.1, HH.out.2.1, HH.out.2.2⟩
          case measure => have := Hlt.out; simp [intOf]; omega
        · have hge : ¬ (j : Int) < (k : Int) := by omega
          have K5 : Fed 10520 16240 u := K3.mono (by omega) (by omega)
          have hCu := Cursor_calls L3.1
          have HU := Lib.hid (And.intro K5 (And.intro S3 C3))
          have HL3 := Lib.hid L3
          clear hlt K3 L3 S3 C3 K5
          go_wp2_with fail
          refine hCu.mono ?_
          rintro e w4 ⟨rfl, hc4⟩
          have L4 := HL3.out.non hc4
          have hCp := copy_live L4 HU.out.1.ok
          clear hCu
          go_wp2_with fail
          refine hCp.mono ?_
          rintro e w5 ⟨q, rfl, Lq5, hc5⟩
          have L5 := L4.non hc5
          have hd5 : ∀ b, F3 b → ¬ (w4.heap.size ≤ b ∧ b < w5.heap.size) := fun b g1 g2 => by have := L4.1.lt b g1; omega
          have hF6 := feed_new L5 HU.out.1 [27, 91, 74] (m := 3) rfl (by decide) (by decide) (by decide)
          have K6 : Fed 10544 16288 (feedR u [27, 91, 74]) := (HU.out.1.feed _).mono (by decide) (by decide)
          have hsz := feedR_size [27, 91, 74] HU.out.1.ok.l0
          rw [feed_J HU.out.2.1] at hF6 K6 hsz
          clear hCp L4 hc5
          go_wp2_with fail
          refine hF6.mono ?_
          rintro e w6 ⟨rfl, F6, L6, hc6, hN6⟩
          obtain ⟨Lq6, hd6⟩ := Lq5.other L5 hc6 hN6 hd5
          have hF7 := feed_new Lq6 HU.out.1 [27, 91, 75] (m := 3) rfl (by decide) (by decide) (by decide)
          have K7 : Fed 10544 16288 (feedR u [27, 91, 75]) := (HU.out.1.feed _).mono (by decide) (by decide)
          rw [feed_K HU.out.2.1, HU.out.2.2] at hF7 K7
          clear hF6 L5 Lq5 hc6 hN6 hd5
          go_wp2_with fail
          refine hF7.mono ?_
          rintro e w7 ⟨rfl, F7, Lq7, hc7, hN7⟩
          obtain ⟨L7, _⟩ := L6.other Lq6 hc7 hN7 (fun b g1 g2 => hd6 b g2 g1)
          -- the two terminals, and what their rows are
          have okc : Ok 10520 16240 (clean u ByteArray.empty) := { HU.out.1.ok with seq := by show ByteArray.empty.size ≤ 16; decide }
          have rT : ∀ j, j < u.l.length → rowAt (eraseAll (clean u ByteArray.empty)).l j = if u.row ≤ j then blankRow u.cols else rowAt u.l j := fun j hj => eraseAll_row okc HU.out.2.2 j hj
          have rC : ∀ j, rowAt (erase (clean u ByteArray.empty) u.row 0).l j = if j = u.row then blankRow u.cols else rowAt u.l j := fun j => erase_row okc HU.out.1.ok.row j
          have lC : (erase (clean u ByteArray.empty) u.row 0).l.length = u.l.length := erase_len _ _ _
          obtain ⟨T, hT⟩ : ∃ T, T = eraseAll (clean u ByteArray.empty) := ⟨_, rfl⟩
          obtain ⟨C, hC⟩ : ∃ C, C = erase (clean u ByteArray.empty) u.row 0 := ⟨_, rfl⟩
          rw [← hT] at L7 K6 hsz rT
          rw [← hC] at Lq7 K7 rC lC
          have hrow : u.row < u.l.length := HU.out.1.ok.row
          have HP := Lib.hid L7
          have HQ := Lib.hid Lq7
          have HKT := Lib.hid K6.ok
          have HKC := Lib.hid K7.ok
          have HRT := Lib.hid rT
          have HRC := Lib.hid rC
          have Hsz := Lib.hid (And.intro hsz lC)
          have hSz := Size_calls L7.1
          rw [hsz.1, hsz.2] at hSz
          clear hF7 L6 Lq6 L7 Lq7 hc7 hN7 hd6 hT hC K6 K7 okc rT rC lC hsz
          go_wp2_with fail
          refine hSz.mono ?_
          rintro e w8 ⟨rfl, hc8⟩
          have Hc8 := Lib.hid hc8
          have hl60 : u.l.length ≤ 60 := HU.out.1.ok.l1
          clear hSz hc8
          go_wp2_with fail
          go_loopw [14, 67] (fun _ i wr => ∃ j : Nat, i = .int .i64 j ∧ j ≤ u.l.length ∧ Chg Non w7 wr) (fun _ i _ => u.l.length - (intOf i).toNat)
          case atStart => exact ⟨0, rfl, Nat.zero_le _, Hc8.out⟩
          case round =>
            obtain ⟨j, rfl, hj, hcj⟩ := hrel
            by_cases hlt : j < u.l.length
            · have hltI : (j : Int) < (u.l.length : Int) := by omega
              have hR := row_live (HP.out.non hcj) HKT.out j
              rw [rowOf_in (by rw [Hsz.out.1.2]; exact hlt)] at hR
              have hRok := HKT.out.rowOk (k := j) (by rw [Hsz.out.1.2]; exact hlt)
              obtain ⟨R, hRe⟩ : ∃ R, R = rowAt T.l j := ⟨_, rfl⟩
              rw [← hRe] at hR hRok
              have hblank : u.row ≤ j → R = blankRow u.cols := fun hle => by rw [hRe, HRT.out j hlt, if_pos hle]
              have hsame : ¬ u.row ≤ j → rowAt T.l j = rowAt C.l j := fun hle => by rw [HRT.out j hlt, if_neg hle, HRC.out j, if_neg (by omega)]
              have hR120 : R.length ≤ 120 := by rw [hRok.2.1]; exact HKT.out.c1
              have HB := Lib.hid hblank
              have HS := Lib.hid hsame
              have Hlt := Lib.hid hlt
              have Hcj := Lib.hid hcj
              clear hRok hRe hblank hsame hlt hcj
              go_wp2_with fail
              refine hR.mono ?_
              rintro e a1 ⟨A1, d1, rfl, s1, k1⟩
              have Hs1 := Lib.hid s1
              have Hk1 := Lib.hid k1
              clear hR s1 k1
              go_wp2_with fail
              go_loopw [14, 74] (fun bl i wq => ∃ (m : Nat) (x : Bool), i = .int .i64 m ∧ bl = .bool x ∧ m ≤ R.length ∧ Hid (u.row ≤ j → x = true) ∧ Chg Non a1 wq) (fun _ i _ => R.length - (intOf i).toNat)
              case atStart => exact ⟨0, true, rfl, rfl, Nat.zero_le _, Lib.hid (fun _ => rfl), Chg.refl _ _⟩
              case round =>
                obtain ⟨m, x, rfl, rfl, hm, hx, hcm⟩ := hrel
                by_cases hml : m < R.length
                · have hmI : (m : Int) < (R.length : Int) := by omega
                  obtain ⟨b, o, rfl, _, q0, q1, q2⟩ := sl_cell3 (Hs1.out.chg hcm (fun _ _ h => h)) rfl hml
                  obtain ⟨⟨cs, cw, cd⟩, hce⟩ : ∃ cc, cc = cellAt R m := ⟨_, rfl⟩
                  rw [← hce] at q0 q1 q2
                  simp only at q0 q1 q2
                  have hbl : u.row ≤ j → (⟨cs, cw, cd⟩ : Cell) = Blank := fun hle => by rw [hce, HB.out hle, cellAt_blankRow]
                  have Hbl := Lib.hid hbl
                  have Hml := Lib.hid hml
                  have Hcm := Lib.hid hcm
                  have hE := eql_blank cs cw cd
                  have hbX := Blk.new wr [.string cs, .int .i64 cw, .bool cd] 32
                  have z0 := hbX.cell 0
                  have z1 := hbX.cell 1
                  have z2 := hbX.cell 2
                  clear hce hbl hml hcm hbX
                  cases x with
                  | false =>
                    go_upto_region 23 with (fail)
                    go_quiet (fail)
                    go_wp2_with fail
                    go_roundw
                    case rel => exact ⟨m + 1, false, by go_num, rfl, by have := Hml.out; omega, hx, (Hcm.out.alloc _).drewN _⟩
                    case measure => have := Hml.out; simp [intOf]; omega
                  | true =>
                    go_upto_region 23 with (fail)
                    go_region_held3 (fun w' => w'.cell? ⟨wr.heap.size, 0, none⟩ = some (.string cs) ∧ w'.cell? ⟨wr.heap.size, 1, none⟩ = some (.int .i64 cw) ∧ w'.cell? ⟨wr.heap.size, 2, none⟩ = some (.bool cd)) (first | exact ⟨z0, z1, z2⟩ | exact ⟨by assumption, by assumption, by assumption⟩) (first
                      | (go_at_call 25; refine (Blank_calls _).mono ?_; rintro e w3 ⟨rfl, hcB⟩; have y0 := hcB.cell z0 (fun h => h); have y1 := hcB.cell z1 (fun h => h); have y2 := hcB.cell z2 (fun h => h)))
                    all_goals
                      go_wp2_with fail
                      go_roundw
                      case rel => exact ⟨m + 1, _, by go_num, rfl, by have := Hml.out; omega, Lib.hid (fun hle => decide_eq_true (Hbl.out hle)), (((Hcm.out.alloc _).drew).thenN hcB)⟩
                      case measure => have := Hml.out; simp [intOf]; omega
                · have hge2 : ¬ (m : Int) < (R.length : Int) := by omega
                  have Hcm := Lib.hid hcm
                  clear hcm hml
                  by_cases hle : u.row ≤ j
                  · have hx1 := hx.out hle
                    subst hx1
                    have hleI : (u.row : Int) ≤ (j : Int) := by omega
                    have hnl : ¬ (j : Int) < (u.row : Int) := by omega
                    clear hle hx
                    go_wp2_with fail
                    go_roundw
                    case rel => exact ⟨j + 1, by go_num, by have := Hlt.out; omega, (Hcj.out.thenN Hk1.out).thenN Hcm.out⟩
                    case measure => have := Hlt.out; simp [intOf]; omega
                  · have hleI : ¬ (u.row : Int) ≤ (j : Int) := by omega
                    have hnl : (j : Int) < (u.row : Int) := by omega
                    have eS := HS.out hle
                    have hlt := Hlt.out
                    have hc3 : Chg Non w7 wr := (Hcj.out.thenN Hk1.out).thenN Hcm.out
                    have hR1 := row_live (HP.out.non hc3) HKT.out j
                    have hleT := rowOf_le HKT.out j
                    have hleC := rowOf_le HKC.out j
                    rw [rowOf_in (by rw [Hsz.out.1.2]; exact hlt)] at hR1 hleT
                    rw [rowOf_in (by rw [Hsz.out.2]; exact hlt)] at hleC
                    rw [eS] at hR1 hleT
                    have Hc3 := Lib.hid hc3
                    clear hle hx hc3 hlt
                    go_wp2_with fail
                    refine hR1.mono ?_
                    rintro e b1 ⟨B1, f1, rfl, t1', g1⟩
                    go_wp2_with fail
                    refine (Old_calls b1 _ _ _ (t1'.rd (G := fun _ => True) (fun _ _ => trivial)) hleT).mono ?_
                    rintro e b2 ⟨B2, f2, rfl, t2', g2⟩
                    have hR2 := row_live (((HQ.out.non Hc3.out).non g1).non g2) HKC.out j
                    rw [rowOf_in (by rw [Hsz.out.2]; exact Hlt.out)] at hR2
                    clear hR1
                    go_wp2_with fail
                    refine hR2.mono ?_
                    rintro e b3 ⟨B3, f3, rfl, t3', g3⟩
                    go_wp2_with fail
                    refine (Old_calls b3 _ _ _ (t3'.rd (G := fun _ => True) (fun _ _ => trivial)) hleC).mono ?_
                    rintro e b4 ⟨B4, f4, rfl, t4', g4⟩
                    clear hR2
                    go_wp2_with fail
                    refine (Same_calls b4 _ _ _ _ _ _ (((t2'.chg g3 (fun _ _ h => h)).chg g4 (fun _ _ h => h)).rd (G := fun _ => True) (fun _ _ => trivial)) (t4'.rd (G := fun _ => True) (fun _ _ => trivial)) hleT hleC).mono ?_
                    rintro e b5 ⟨rfl, g5⟩
                    rw [decide_eq_true rfl]
                    have HC := Lib.hid ((((((Hc3.out.then g1).then g2).then g3).then g4).then g5))
                    clear t1' t2' t3' t4' g1 g2 g3 g4 g5
                    go_wp2_with fail
                    go_roundw
                    case rel => exact ⟨j + 1, by go_num, by have := Hlt.out; omega, HC.out⟩
                    case measure => have := Hlt.out; simp [intOf]; omega
            · have hge3 : ¬ (j : Int) < (u.l.length : Int) := by omega
              have hR := row_live (HQ.out.non hcj) HKC.out u.row
              rw [rowOf_in (by rw [Hsz.out.2]; exact hrow), HRC.out u.row, if_pos rfl] at hR
              have hlen : (blankRow u.cols).length = u.cols := by simp [blankRow]
              rw [hlen] at hR
              have hc120 : u.cols ≤ 120 := HU.out.1.ok.c1
              have hc1 : (1 : Int) ≤ (u.cols : Int) := by have := HU.out.1.ok.c0; omega
              have Hcj := Lib.hid hcj
              have Hlen := Lib.hid hlen
              clear hlt hcj hlen
              go_wp2_with fail
              refine hR.mono ?_
              rintro e a1 ⟨A1, d1, rfl, s1, k1⟩
              have Hs1 := Lib.hid s1
              have Hk1 := Lib.hid k1
              clear hR s1 k1
              go_wp2_with fail
              go_loopw [114] (fun i wq => ∃ m : Nat, i = .int .i64 m ∧ m ≤ u.cols ∧ Chg Non a1 wq) (fun i _ => u.cols - (intOf i).toNat)
              case atStart => exact ⟨0, rfl, Nat.zero_le _, Chg.refl _ _⟩
              case round =>
                obtain ⟨m, rfl, hm, hcm⟩ := hrel
                by_cases hml : m < u.cols
                · have hmI : (m : Int) < (u.cols : Int) := by omega
                  obtain ⟨b, o, rfl, _, q0, q1, q2⟩ := sl_cell3 (Hs1.out.chg hcm (fun _ _ h => h)) Hlen.out hml
                  rw [cellAt_blankRow] at q0 q1 q2
                  have q0' : wr.cell? ⟨b, o + m * 3, none⟩ = some (.string space) := q0
                  have q1' : wr.cell? ⟨b, o + m * 3 + 1, none⟩ = some (.int .i64 1) := q1
                  have q2' : wr.cell? ⟨b, o + m * 3 + 2, none⟩ = some (.bool false) := q2
                  have hE : ∀ w, (binOp .neq 32 (.agg #[.string space, .int .i64 1, .bool false]) (.agg (flatC Blank).toArray)).run Tryz.prog w = .ok (.bool false) w := fun w => (neq_blank space 1 false w).trans (by rw [decide_eq_true (show (⟨space, 1, false⟩ : Cell) = Blank from rfl)]; rfl)
                  have hbX := Blk.new wr [.string space, .int .i64 1, .bool false] 32
                  have z0 := hbX.cell 0
                  have z1 := hbX.cell 1
                  have z2 := hbX.cell 2
                  have Hml := Lib.hid hml
                  have Hcm := Lib.hid hcm
                  clear q0 q1 q2 hml hcm hbX
                  go_upto_region 31 with (fail)
                  go_region_held3 (fun w' => w'.cell? ⟨wr.heap.size, 0, none⟩ = some (.string space) ∧ w'.cell? ⟨wr.heap.size, 1, none⟩ = some (.int .i64 1) ∧ w'.cell? ⟨wr.heap.size, 2, none⟩ = some (.bool false)) (first | exact ⟨z0, z1, z2⟩ | exact ⟨by assumption, by assumption, by assumption⟩) (first
                    | (go_at_call 25; refine (Blank_calls _).mono ?_; rintro e w3 ⟨rfl, hcB⟩; have y0 := hcB.cell z0 (fun h => h); have y1 := hcB.cell z1 (fun h => h); have y2 := hcB.cell z2 (fun h => h)))
                  all_goals
                    go_wp2_with fail
                    go_roundw
                    case rel => exact ⟨m + 1, by go_num, by have := Hml.out; omega, (((Hcm.out.alloc _).drew).thenN hcB)⟩
                    case measure => have := Hml.out; simp [intOf]; omega
                · have hge4 : ¬ (m : Int) < (u.cols : Int) := by omega
                  have hc5 : Chg Non w7 wr := (Hcj.out.thenN Hk1.out).thenN hcm
                  have hA := HA.out wr (HP.out.non hc5).2.2.1
                  have hW := (HP.out.non hc5).2.2.1
                  clear hcm hml hc5
                  go_wp2_with fail
                  refine hA.mono ?_
                  rintro e w9 ⟨rfl, hc9⟩
                  go_wp2_with fail
                  go_ret
                  exact ⟨rfl, hW.thenN hc9⟩
  · have hB := begin_none W _ r c v es hc0 h hok
    clear hok hc0 h hA
    go_enter Tryz.func7, Tryz.ntmps7
    go_wp2_with fail
    refine hB.mono ?_
    rintro e w1 ⟨rfl, hc1⟩
    have hA := HA.out w1 hc1
    go_wp2_with fail
    refine hA.mono ?_
    rintro e w2 ⟨rfl, hc2⟩
    go_wp2_with fail
    go_ret
    exact ⟨rfl, hc1.thenN hc2⟩
end T
end Go.Proofs.YtoegjmeoeefllaaGreatDoor
