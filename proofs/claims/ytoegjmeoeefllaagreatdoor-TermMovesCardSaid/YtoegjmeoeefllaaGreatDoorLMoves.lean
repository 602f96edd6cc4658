/- Walks: TermMoves. -/
import Derived.Test.YtoegjmeoeefllaaGreatDoorLErases
import Derived.Test.YtoegjmeoeefllaaGreatDoorRead2
import Derived.Lib.ConvBytes
import Derived.Deep.RegionWith
import Derived.Deep.RegionHeld3
namespace Go.Proofs.YtoegjmeoeefllaaGreatDoor
open Go Go.RowKit
namespace T
attribute [local go_sem high] run_max_2 run_min_2
attribute [local go_sem ↓] Go.wp_at_zero Go.wp_at_succ

/-- Where a move leads. -/
def rowTo (u : Term) (w : Nat) (n : Int) : Int := if w = 0 then max (u.row - n) 0 else if w = 1 then min (u.row + n) (u.l.length - 1) else u.row
def colTo (u : Term) (w : Nat) (n : Int) : Int := if w = 2 then min (u.col + n) (u.cols - 1) else if w = 3 then max (u.col - n) 0 else u.col
/-- The program's order of letters: up, down, to the right, to the left. -/
theorem acts_to {o m : Nat} {u : Term} (h : Ok o m u) (s : ByteArray) {n w : Nat} (hn : 1 ≤ n) (hw : w < 4) :
    ∃ r c : Int, acts (clean u s) (n : Int) (65 + w) = moveTo (clean u s) r c ∧ ((moveTo (clean u s) r c).row : Int) = rowTo u w n ∧ ((moveTo (clean u s) r c).col : Int) = colTo u w n := by
  have h1 := h.row
  have h2 := h.col
  have hmx : max (n : Int) 1 = n := by omega
  match w, hw with
  | 0, _ =>
    refine ⟨u.row + -(max (n : Int) 1), u.col, rfl, ?_, ?_⟩
    · show (((min (max ((u.row : Int) + -(max (n : Int) 1)) 0) (u.l.length - 1 : Int)).toNat : Nat) : Int) = max ((u.row : Int) - n) 0; omega
    · show (((min (max (u.col : Int) 0) (u.cols - 1 : Int)).toNat : Nat) : Int) = u.col; omega
  | 1, _ =>
    refine ⟨u.row + max (n : Int) 1, u.col, rfl, ?_, ?_⟩
    · show (((min (max ((u.row : Int) + max (n : Int) 1) 0) (u.l.length - 1 : Int)).toNat : Nat) : Int) = min ((u.row : Int) + n) (u.l.length - 1); omega
    · show (((min (max (u.col : Int) 0) (u.cols - 1 : Int)).toNat : Nat) : Int) = u.col; omega
  | 2, _ =>
    refine ⟨u.row, u.col + max (n : Int) 1, rfl, ?_, ?_⟩
    · show (((min (max (u.row : Int) 0) (u.l.length - 1 : Int)).toNat : Nat) : Int) = u.row; omega
    · show (((min (max ((u.col : Int) + max (n : Int) 1) 0) (u.cols - 1 : Int)).toNat : Nat) : Int) = min ((u.col : Int) + n) (u.cols - 1); omega
  | 3, _ =>
    refine ⟨u.row, u.col + -(max (n : Int) 1), rfl, ?_, ?_⟩
    · show (((min (max (u.row : Int) 0) (u.l.length - 1 : Int)).toNat : Nat) : Int) = u.row; omega
    · show (((min (max ((u.col : Int) + -(max (n : Int) 1)) 0) (u.cols - 1 : Int)).toNat : Nat) : Int) = max ((u.col : Int) - n) 0; omega

def bytesN (n w : Nat) : List Int := [27, 91, ((48 + n / 100 : Nat) : Int), ((48 + n / 10 % 10 : Nat) : Int), ((48 + n % 10 : Nat) : Int), ((65 + w : Nat) : Int)]
def fourN (n w : Nat) : List Int := [((48 + n / 100 : Nat) : Int), ((48 + n / 10 % 10 : Nat) : Int), ((48 + n % 10 : Nat) : Int), ((65 + w : Nat) : Int)]
/-- What stands in the slice that the conversion of such a string makes. -/
theorem rd_bytes (w0 : World) (s : ByteArray) (l : List Int) (hs : s = Sg.toB l) (hl : ∀ x ∈ l, 0 ≤ x ∧ x < 256) (hn : l.length ≤ 1000) :
    Rd (Lib.bytesWorld w0 5 s) 1 (.slice (some ⟨w0.heap.size, 0, none⟩) s.size (grownCap w0 s.size 0 5)) l.length (l.map (Value.int .u8)) (fun b => b = w0.heap.size) := by
  have hsz : s.size = l.length := by rw [hs, Sg.size_toB]
  refine ⟨by simp, _, _, by rw [← hsz], by rw [← hsz]; exact grownCap_ge _ _ _ _, grownCap_le_maxLen _ _ _ _ (by unfold maxLen; omega), .inr ⟨_, 0, rfl, rfl, fun j hj => ?_⟩⟩
  rw [Nat.mul_one] at hj
  rw [Nat.zero_add, Lib.bytesWorld_cell _ _ _ _ (by omega), List.getElem?_map, List.getElem?_eq_getElem hj, hs]
  have hx := hl l[j] (List.getElem_mem hj)
  have e : (Sg.toB l).data.toList.getD j 0 = UInt8.ofNat (l[j]).toNat := by simp [Sg.toB, List.getD, hj]
  rw [e]
  have e2 : (UInt8.ofNat (l[j]).toNat).toNat = (l[j]).toNat := by simp; omega
  rw [e2]
  show some (Value.int .u8 (((l[j]).toNat : Nat) : Int)) = some (Value.int .u8 l[j])
  congr 2; omega
theorem bytesN_in {n w : Nat} (hn : n ≤ 999) (hw : w < 4) : ∀ x ∈ bytesN n w, 0 ≤ x ∧ x < 256 := by
  intro x hx
  simp only [bytesN, List.mem_cons, List.not_mem_nil, or_false] at hx
  rcases hx with rfl | rfl | rfl | rfl | rfl | rfl <;> omega
theorem chg_bytes (w0 : World) (s : ByteArray) : Chg Non w0 (Lib.bytesWorld w0 5 s) := by
  refine ⟨rfl, rfl, rfl, by rw [Lib.bytesWorld_size]; omega, fun k hk _ => Lib.bytesWorld_at_old _ _ _ _ hk⟩
theorem toB_bytesN (n w : Nat) : (⟨#[27, 91]⟩ : ByteArray) ++ Sg.toB (fourN n w) = Sg.toB (bytesN n w) := by
  apply ByteArray.ext
  simp [Sg.toB, fourN, bytesN]

/-- Feed, of bytes made of a string behind quiet steps. -/
theorem feed_bytes {W wr w0 : World} {p : Nat} {t : Term} {F : Nat → Prop} {o n : Nat} (h : Live W wr p t F) (hc : Chg Non wr w0) (hk : Fed o n t) {s : ByteArray} {l : List Int} (hs : s = Sg.toB l) {m : Nat} (hm : l.length = m) (ho : o + 8 * m ≤ 1000000) (hn : n + 16 * m ≤ 10000000) (hl : ∀ x ∈ l, 0 ≤ x ∧ x < 256) (hm1 : m ≤ 1000) :
    Calls Tryz.prog 17 #[.pointer (some ⟨p, 0, none⟩), .slice (some ⟨w0.heap.size, 0, none⟩) s.size (grownCap w0 s.size 0 5)] (Lib.bytesWorld w0 5 s) fun e w' => e = .returned (.tuple #[]) ∧
      ∃ F', Live W w' p (feedR t l) F' ∧ Chg F wr w' ∧ (∀ b, F' b → F b ∨ wr.heap.size ≤ b) ∧ Chg F (Lib.bytesWorld w0 5 s) w' := by
  subst hm
  have h0 := h.non hc
  have h1 := h0.non (chg_bytes w0 s)
  refine (feed_live h1 hk ho hn hl (rd_bytes w0 s l hs hl (by omega)) (fun b hb hf => by have := h0.1.lt b hf; omega)).mono ?_
  rintro e w' ⟨rfl, F', h2, h3, h4⟩
  have hz := hc.size
  exact ⟨rfl, F', h2, ((hc.then (chg_bytes w0 s)).mono (fun _ _ h => h.elim)).then h3, fun b hb => by rcases h4 b hb with h5 | h5; exact .inl h5; (rw [Lib.bytesWorld_size] at h5; exact .inr (by omega)), h3⟩
theorem letter_of (d : Nat) (hd : d < 4) : ((({ data := #[65, 66, 67, 68] } : ByteArray)[d]'(by exact hd)).toNat : Int) = 65 + (d : Int) := by
  match d, hd with
  | 0, _ => rfl
  | 1, _ => rfl
  | 2, _ => rfl
  | 3, _ => rfl
theorem four_eq (n d : Nat) : fourN n d = [48 + (n : Int) / 100, 48 + (n : Int) / 10 % 10, 48 + (n : Int) % 10, 65 + (d : Int)] := by
  simp only [fourN]; congr 1
/-- The worlds in which the order's bytes are made. -/
theorem world_of (wr : World) (d n : Nat) (E1 E2 : World) (S : ByteArray) (h1 : E1 = wr.alloc (.cells #[.int .i64 (d : Int), .int .i64 (n : Int)] 53)) (h2 : E2 = (E1.alloc (.cells #[.int .u8 (48 + (n : Int) / 100), .int .u8 (48 + (n : Int) / 10 % 10), .int .u8 (48 + (n : Int) % 10), .int .u8 (65 + (d : Int))] 5)).drew) (_hS : S = (⟨#[27, 91]⟩ : ByteArray) ++ Sg.toB [48 + (n : Int) / 100, 48 + (n : Int) / 10 % 10, 48 + (n : Int) % 10, 65 + (d : Int)]) :
    E1.drew.cell? ⟨wr.heap.size, 0, none⟩ = some (.int .i64 (d : Int)) ∧ E1.drew.cell? ⟨wr.heap.size, 1, none⟩ = some (.int .i64 (n : Int)) ∧
    E2.cell? ⟨wr.heap.size, 0, none⟩ = some (.int .i64 (d : Int)) ∧ E2.cell? ⟨wr.heap.size, 1, none⟩ = some (.int .i64 (n : Int)) ∧
    (Lib.bytesWorld E2 5 S).cell? ⟨wr.heap.size, 0, none⟩ = some (.int .i64 (d : Int)) ∧ (Lib.bytesWorld E2 5 S).cell? ⟨wr.heap.size, 1, none⟩ = some (.int .i64 (n : Int)) ∧
    (convert 34 9 (.slice (some ⟨wr.heap.size + 1, 0, none⟩) 4 4)).run Tryz.prog E2 = .ok (.string (Sg.toB [48 + (n : Int) / 100, 48 + (n : Int) / 10 % 10, 48 + (n : Int) % 10, 65 + (d : Int)])) E2 ∧
    (convert 9 34 (.string S)).run Tryz.prog E2 = .ok (.slice (some ⟨E2.heap.size, 0, none⟩) S.size (grownCap E2 S.size 0 5)) (Lib.bytesWorld E2 5 S) ∧ Chg Non wr E2 ∧ E2.heap.size = wr.heap.size + 1 + 1 := by
  have k1 : Blk E1 wr.heap.size [.int .i64 (d : Int), .int .i64 (n : Int)] 53 := by rw [h1]; exact Blk.new wr _ _
  have k2 : Blk E2 wr.heap.size [.int .i64 (d : Int), .int .i64 (n : Int)] 53 := by rw [h2]; exact (k1.alloc _).drew
  have z1 : E1.heap.size = wr.heap.size + 1 := by rw [h1, World.size_alloc]
  have z2 : E2.heap.size = wr.heap.size + 1 + 1 := by rw [h2]; show (E1.alloc _).heap.size = _; rw [World.size_alloc, z1]
  have k3 := k2.chg (chg_bytes E2 S) (fun h => h)
  have k4 : Blk E2 (wr.heap.size + 1) [.int .u8 (48 + (n : Int) / 100), .int .u8 (48 + (n : Int) / 10 % 10), .int .u8 (48 + (n : Int) % 10), .int .u8 (65 + (d : Int))] 5 := by rw [h2, ← z1]; exact (Blk.new E1 _ _).drew
  refine ⟨k1.drew.cell 0, k1.drew.cell 1, k2.cell 0, k2.cell 1, k3.cell 0, k3.cell 1, ?_, Lib.run_convert_string_bytes _ _ _ _ _ Tryz.underlying9 Tryz.underlying34 Tryz.underlying5, ?_, z2⟩
  · exact Sg.run_convert_rd (G := fun _ => True) Tryz.underlying34 Tryz.underlying5 Tryz.underlying9 ⟨by simp, _, _, rfl, by omega, by unfold maxLen; omega, .inr ⟨_, 0, rfl, trivial, fun j hj => by
      match j, hj with
      | 0, _ => exact k4.cell 0
      | 1, _ => exact k4.cell 1
      | 2, _ => exact k4.cell 2
      | 3, _ => exact k4.cell 3⟩⟩
  · rw [h2, h1]; exact (((Chg.refl Non wr).alloc _).alloc _).drew

set_option maxRecDepth 100000 in
set_option maxHeartbeats 4000000 in
theorem moves_walk (W : World) (hG : Glob W) (r c : Int) (v : Value) (es : List Ev) (h : EvIn W v es (fun b => b < W.heap.size)) (vm : Value) (ms : List Mv) (hm : MvIn W vm ms (fun b => b < W.heap.size)) :
    Calls Tryz.prog 8 #[.agg #[.int .i64 r, .int .i64 c], v, vm] W fun e w' => e = .returned (.bool true) ∧ Chg Non W w' := by
  have kc := fun (w : World) (C : Array Value) (n c : Nat) => Lib.run_convert_bytes_const (P := Tryz.prog) w 34 5 C n c Tryz.underlying34 Tryz.underlying5
  have hc0 : Chg Non W (W.alloc (.cells #[.int .i64 r, .int .i64 c] 22)) := (Chg.refl Non W).alloc _
  have hA := fun w' (hc : Chg Non W w') => alive_calls w' (hG.chg hc (fun h => h) (fun h => h))
  have HA := Lib.hid hA
  have HM := Lib.hid hm
  obtain ⟨Am, cm, rfl, m2, m3, _⟩ := hm
  unfold maxLen at m3
  by_cases hok : fewR es = true ∧ r ≤ 60 ∧ c ≤ 120
  · have hB := begin_some W _ r c v es hc0 hG h hok.1 hok.2.1 hok.2.2
    have hFed := runEvs_fed hok.1 r c
    obtain ⟨t0, ht0⟩ : ∃ t, t = runEvs (New r c) es := ⟨_, rfl⟩
    rw [← ht0] at hB hFed
    have HK := Lib.hid hFed
    clear hok hFed hc0 h ht0 hA
    by_cases hkk : 30 < ms.length
    · have hkI : (30 : Int) < (ms.length : Int) := by omega
      clear hkk
      go_enter Tryz.func8, Tryz.ntmps8
      go_wp2_with fail
      refine hB.mono ?_
      rintro e w1 ⟨p, F, rfl, L1⟩
      have hA := HA.out w1 L1.2.2.1
      have hC := L1.2.2.1
      clear hB L1
      go_wp2_with fail
      refine hA.mono ?_
      rintro e w2 ⟨rfl, hc2⟩
      go_wp2_with fail
      go_ret
      exact ⟨rfl, hC.thenN hc2⟩
    · have hkI : ¬ (30 : Int) < (ms.length : Int) := by omega
      have hk30 : ms.length ≤ 30 := by omega
      clear hkk
      go_enter Tryz.func8, Tryz.ntmps8
      go_wp2_with fail
      refine hB.mono ?_
      rintro e w1 ⟨p, F, rfl, L1⟩
      have hF1 := feed_new L1 HK.out [24, 13] (m := 2) rfl (by decide) (by decide) (by decide)
      have K2 : Fed 8816 12832 (feedR t0 [24, 13]) := (HK.out.feed _).mono (by decide) (by decide)
      have S2 := still_calm t0
      have C2 := calm t0
      obtain ⟨t1, ht1⟩ : ∃ t, t = feedR t0 [24, 13] := ⟨_, rfl⟩
      rw [← ht1] at hF1 K2 S2 C2
      have HT := Lib.hid (And.intro K2 (And.intro S2 C2.2.2.2))
      clear hB L1 K2 S2 C2 ht1
      go_wp2_with fail
      refine hF1.mono ?_
      rintro e w2 ⟨rfl, F2, L2, hc2, hN2⟩
      have hCp := copy_live L2 HT.out.1.ok
      clear hF1 hc2 hN2
      go_wp2_with fail
      refine hCp.mono ?_
      rintro e w3 ⟨q, rfl, Lq3, hc3⟩
      have L3 := L2.non hc3
      have hd3 : ∀ b, F2 b → ¬ (w2.heap.size ≤ b ∧ b < w3.heap.size) := fun b g1 g2 => by have := L2.1.lt b g1; omega
      have hSz := Size_calls L3.1
      clear hCp L2 hc3
      go_wp2_with fail
      refine hSz.mono ?_
      rintro e w4 ⟨rfl, hc4⟩
      have L4 := L3.non hc4
      have Lq4 := Lq3.non hc4
      have hCu := Cursor_calls L4.1
      clear hSz L3 Lq3
      go_wp2_with fail
      refine hCu.mono ?_
      rintro e w5 ⟨rfl, hc5⟩
      have H5 := Lib.hid (And.intro (L4.non hc5) (And.intro (Lq4.non hc5) hd3))
      have b1 : (t1.l.length : Int) ≤ 60 := by have := HT.out.1.ok.l1; omega
      have b2 : (t1.cols : Int) ≤ 120 := by have := HT.out.1.ok.c1; omega
      have b3 : (1 : Int) ≤ (t1.l.length : Int) := by have := HT.out.1.ok.l0; omega
      have b4 : (1 : Int) ≤ (t1.cols : Int) := by have := HT.out.1.ok.c0; omega
      clear hCu L4 Lq4 hc4 hc5 hd3
      go_wp2_with fail
      go_loopw [11, 12, 49] (fun x y i wr => ∃ k : Nat, i = .int .i64 k ∧ k ≤ ms.length ∧ ∃ u F Fq, x = .int .i64 u.row ∧ y = .int .i64 u.col ∧ Live W wr p u F ∧ Live W wr q t1 Fq ∧ (∀ b, F b → ¬ Fq b) ∧ Hid (Fed (8816 + 48 * k) (12832 + 96 * k) u ∧ Still u ∧ u.full = false ∧ u.l = t1.l ∧ u.cols = t1.cols ∧ u.off = t1.off)) (fun _ _ i _ => ms.length - (intOf i).toNat)
      case atStart => exact ⟨0, rfl, Nat.zero_le _, t1, _, _, rfl, rfl, H5.out.1, H5.out.2.1, H5.out.2.2, Lib.hid ⟨HT.out.1, HT.out.2.1, HT.out.2.2, rfl, rfl, rfl⟩⟩
      case round =>
        obtain ⟨k, rfl, hk, u, F, Fq, rfl, rfl, LP, LQ, hd, hU⟩ := hrel
        by_cases hlt : k < ms.length
        · have hltI : (k : Int) < (ms.length : Int) := by omega
          obtain ⟨A', cm', hv, _, _, hev⟩ := HM.out.chg (LP.2.2.1) (fun _ _ h => h)
          injection hv with e1 _ e3
          subst e1 e3
          obtain ⟨lb, lo, rfl, hGb, q0, q1⟩ := hev k hlt
          obtain ⟨⟨way, num⟩, hmv⟩ : ∃ m, m = mvAt ms k := ⟨_, rfl⟩
          rw [← hmv] at q0 q1
          simp only at q0 q1
          have Hlt := Lib.hid hlt
          have HP := Lib.hid (And.intro LP (And.intro LQ hd))
          clear hev hmv hlt LP LQ hd
          by_cases hgood : 1 ≤ num ∧ num ≤ 999 ∧ 0 ≤ way ∧ way ≤ 3
          · obtain ⟨g1, g2, g3, g4⟩ := hgood
            obtain ⟨n, rfl⟩ : ∃ n : Nat, num = n := ⟨num.toNat, by omega⟩
            obtain ⟨d, rfl⟩ : ∃ d : Nat, way = d := ⟨way.toNat, by omega⟩
            have n1 : ¬ (n : Int) < 1 := by omega
            have n2 : ¬ (999 : Int) < (n : Int) := by omega
            have n3 : ¬ (d : Int) < 0 := by omega
            have n4 : ¬ (3 : Int) < (d : Int) := by omega
            obtain ⟨LP, LQ, hd⟩ := HP.out
            have e4 := letter_of d (by omega)
            have hb256 := bytesN_in (n := n) (w := d) (by omega) (by omega)
            have hfour := four_eq n d
            have x1 : (n : Int).tdiv 100 = (n : Int) / 100 := Int.tdiv_eq_ediv_of_nonneg (by omega)
            have x2 : (n : Int).tdiv 10 = (n : Int) / 10 := Int.tdiv_eq_ediv_of_nonneg (by omega)
            have x3 : ((n : Int) / 10).tmod 10 = (n : Int) / 10 % 10 := Int.tmod_eq_emod_of_nonneg (by omega)
            have x4 : (n : Int).tmod 10 = (n : Int) % 10 := Int.tmod_eq_emod_of_nonneg (by omega)
            have y1 : IntKind.i64.wrap ((n : Int) / 100) = (n : Int) / 100 := IntWalk.i64_in _ (by omega)
            have y2 : IntKind.i64.wrap ((n : Int) / 10) = (n : Int) / 10 := IntWalk.i64_in _ (by omega)
            have y3 : IntKind.i64.wrap (48 + (n : Int) / 100) = 48 + (n : Int) / 100 := IntWalk.i64_in _ (by omega)
            have y4 : IntKind.i64.wrap (48 + (n : Int) / 10 % 10) = 48 + (n : Int) / 10 % 10 := IntWalk.i64_in _ (by omega)
            have y5 : IntKind.i64.wrap (48 + (n : Int) % 10) = 48 + (n : Int) % 10 := IntWalk.i64_in _ (by omega)
            have y6 : IntKind.u8.wrap (48 + (n : Int) / 100) = 48 + (n : Int) / 100 := IntWalk.u8_in _ (by omega)
            have y7 : IntKind.u8.wrap (48 + (n : Int) / 10 % 10) = 48 + (n : Int) / 10 % 10 := IntWalk.u8_in _ (by omega)
            have y8 : IntKind.u8.wrap (48 + (n : Int) % 10) = 48 + (n : Int) % 10 := IntWalk.u8_in _ (by omega)
            obtain ⟨q1, q2, q3, q4, q5, q6, q7, q8, q9, q10⟩ := world_of wr d n _ _ _ rfl rfl rfl
            have hF := feed_bytes LP q9 hU.out.1 (by rw [← hfour, toB_bytesN n d] : (⟨#[27, 91]⟩ : ByteArray) ++ Sg.toB [48 + (n : Int) / 100, 48 + (n : Int) / 10 % 10, 48 + (n : Int) % 10, 65 + (d : Int)] = _) (m := 6) rfl (by omega) (by omega) hb256 (by decide)
            have hsz : ((⟨#[27, 91]⟩ : ByteArray) ++ Sg.toB [48 + (n : Int) / 100, 48 + (n : Int) / 10 % 10, 48 + (n : Int) % 10, 65 + (d : Int)]).size = 2 + (Sg.toB [48 + (n : Int) / 100, 48 + (n : Int) / 10 % 10, 48 + (n : Int) % 10, 65 + (d : Int)]).size := ByteArray.size_append
            rw [hsz, q10] at hF
            have hnF : ¬ F wr.heap.size := fun h => by have := LP.1.lt _ h; omega
            clear q10 hsz LP LQ hd hb256 hfour
            go_upto_region 14 with (fail)
            go_region_held (fun w' => w'.cell? ⟨wr.heap.size, 0, none⟩ = some (.int .i64 (d : Int)) ∧ w'.cell? ⟨wr.heap.size, 1, none⟩ = some (.int .i64 (n : Int))) (first | exact ⟨by assumption, by assumption⟩) (first
              | (go_at_call 17; refine hF.mono ?_; rintro e w6 ⟨rfl, F6, L6, hc6, hN6, hb6⟩; have p0 := hb6.cell q5 hnF; have p1 := hb6.cell q6 hnF))
            obtain ⟨LP, LQ, hd⟩ := HP.out
            obtain ⟨LQ6, hd6⟩ := LQ.other LP hc6 hN6 hd
            obtain ⟨K3, S3, f3, l3, c3, o3⟩ := hU.out
            have K4 : Fed (8816 + 48 * (k + 1)) (12832 + 96 * (k + 1)) (feedR u (bytesN n d)) := (K3.feed _).mono (by simp [bytesN]; omega) (by simp [bytesN]; omega)
            obtain ⟨s0, hs0⟩ := feed_move S3 (n := n) (by omega) (65 + d) (by omega)
            obtain ⟨r', c', hm1, hm2, hm3⟩ := acts_to K3.ok s0 (n := n) (w := d) (by omega) (by omega)
            rw [hm1] at hs0
            have hs0' : feedR u (bytesN n d) = moveTo (clean u s0) r' c' := hs0
            rw [hs0'] at L6 K4
            have g1 : (moveTo (clean u s0) r' c').l = t1.l := l3
            have g2 : (moveTo (clean u s0) r' c').cols = t1.cols := c3
            have g3 : (moveTo (clean u s0) r' c').off = t1.off := o3
            have g4 : (moveTo (clean u s0) r' c').full = false := rfl
            have g5 := S3.move s0 r' c'
            obtain ⟨t', ht'⟩ : ∃ t, t = moveTo (clean u s0) r' c' := ⟨_, rfl⟩
            rw [← ht'] at L6 K4 g1 g2 g3 g4 g5 hm2 hm3
            have H6 := Lib.hid (And.intro L6 (And.intro LQ6 hd6))
            have HU6 := Lib.hid (And.intro K4 (And.intro g5 (And.intro g4 (And.intro g1 (And.intro g2 g3)))))
            have v1 : (u.row : Int) ≤ 59 := by have := K3.ok.row; have := K3.ok.l1; omega
            have v2 : (u.col : Int) ≤ 119 := by have := K3.ok.col; have := K3.ok.c1; omega
            have v3 : (n : Int) ≤ 999 := by omega
            have hCu6 := Cursor_calls L6.1
            have hM2 := Lib.hid hm2
            have hM3 := Lib.hid hm3
            clear hF hc6 hN6 hb6 LP LQ hd LQ6 hd6 K3 S3 f3 l3 c3 o3 K4 hs0 hs0' hm1 hm2 hm3 ht' L6 g1 g2 g3 g4 g5 q1 q2 q3 q4 q5 q6 q7 q8 q9 e4 hnF n1 n2 n3 n4 x1 x2 x3 x4 y1 y2 y3 y4 y5 y6 y7 y8
            have hl3 := HU6.out.2.2.2.1
            have hd4 : d = 0 ∨ d = 1 ∨ d = 2 ∨ d = 3 := by omega
            rcases hd4 with rfl | rfl | rfl | rfl
            · have hR : (t'.row : Int) = max ((u.row : Int) - n) 0 := by rw [hM2.out]; (try rw [← hU.out.2.2.2.1]); rfl
              have hC : (t'.col : Int) = (u.col : Int) := by rw [hM3.out]; (try rw [← hU.out.2.2.2.2.1]); rfl
              clear hl3
              go_wp2_with fail
              refine hCu6.mono ?_
              rintro e w7 ⟨rfl, hc7⟩
              have hFu := Full_calls (H6.out.1.non hc7).1
              rw [HU6.out.2.2.1] at hFu
              clear hCu6
              go_wp2_with fail
              refine hFu.mono ?_
              rintro e w8 ⟨rfl, hc8⟩
              have HC8 := Lib.hid (hc7.then hc8)
              clear hFu hc7 hc8
              go_wp2_with fail
              go_roundw
              case rel => exact ⟨k + 1, by go_num, by have := Hlt.out; omega, t', _, _, by rw [hR], by rw [hC], H6.out.1.non HC8.out, H6.out.2.1.non HC8.out, H6.out.2.2, HU6⟩
              case measure => have := Hlt.out; simp [intOf]; omega
            · have hR : (t'.row : Int) = min ((u.row : Int) + n) (t1.l.length - 1) := by rw [hM2.out]; (try rw [← hU.out.2.2.2.1]); rfl
              have hC : (t'.col : Int) = (u.col : Int) := by rw [hM3.out]; (try rw [← hU.out.2.2.2.2.1]); rfl
              clear hl3
              go_wp2_with fail
              refine hCu6.mono ?_
              rintro e w7 ⟨rfl, hc7⟩
              have hFu := Full_calls (H6.out.1.non hc7).1
              rw [HU6.out.2.2.1] at hFu
              clear hCu6
              go_wp2_with fail
              refine hFu.mono ?_
              rintro e w8 ⟨rfl, hc8⟩
              have HC8 := Lib.hid (hc7.then hc8)
              clear hFu hc7 hc8
              go_wp2_with fail
              go_roundw
              case rel => exact ⟨k + 1, by go_num, by have := Hlt.out; omega, t', _, _, by rw [hR], by rw [hC], H6.out.1.non HC8.out, H6.out.2.1.non HC8.out, H6.out.2.2, HU6⟩
              case measure => have := Hlt.out; simp [intOf]; omega
            · have hR : (t'.row : Int) = (u.row : Int) := by rw [hM2.out]; (try rw [← hU.out.2.2.2.1]); rfl
              have hC : (t'.col : Int) = min ((u.col : Int) + n) (t1.cols - 1) := by rw [hM3.out]; (try rw [← hU.out.2.2.2.2.1]); rfl
              clear hl3
              go_wp2_with fail
              refine hCu6.mono ?_
              rintro e w7 ⟨rfl, hc7⟩
              have hFu := Full_calls (H6.out.1.non hc7).1
              rw [HU6.out.2.2.1] at hFu
              clear hCu6
              go_wp2_with fail
              refine hFu.mono ?_
              rintro e w8 ⟨rfl, hc8⟩
              have HC8 := Lib.hid (hc7.then hc8)
              clear hFu hc7 hc8
              go_wp2_with fail
              go_roundw
              case rel => exact ⟨k + 1, by go_num, by have := Hlt.out; omega, t', _, _, by rw [hR], by rw [hC], H6.out.1.non HC8.out, H6.out.2.1.non HC8.out, H6.out.2.2, HU6⟩
              case measure => have := Hlt.out; simp [intOf]; omega
            · have hR : (t'.row : Int) = (u.row : Int) := by rw [hM2.out]; (try rw [← hU.out.2.2.2.1]); rfl
              have hC : (t'.col : Int) = max ((u.col : Int) - n) 0 := by rw [hM3.out]; (try rw [← hU.out.2.2.2.2.1]); rfl
              clear hl3
              go_wp2_with fail
              refine hCu6.mono ?_
              rintro e w7 ⟨rfl, hc7⟩
              have hFu := Full_calls (H6.out.1.non hc7).1
              rw [HU6.out.2.2.1] at hFu
              clear hCu6
              go_wp2_with fail
              refine hFu.mono ?_
              rintro e w8 ⟨rfl, hc8⟩
              have HC8 := Lib.hid (hc7.then hc8)
              clear hFu hc7 hc8
              go_wp2_with fail
              go_roundw
              case rel => exact ⟨k + 1, by go_num, by have := Hlt.out; omega, t', _, _, by rw [hR], by rw [hC], H6.out.1.non HC8.out, H6.out.2.1.non HC8.out, H6.out.2.2, HU6⟩
              case measure => have := Hlt.out; simp [intOf]; omega
          · obtain ⟨LP, LQ, hd⟩ := HP.out
            have hA0 := fun o : Obj => LP.non ((Chg.refl Non wr).alloc o)
            have hA1 := fun o : Obj => LQ.non ((Chg.refl Non wr).alloc o)
            have H6 := Lib.hid (And.intro hA0 (And.intro hA1 hd))
            have HU6 : Hid (Fed (8816 + 48 * (k + 1)) (12832 + 96 * (k + 1)) u ∧ Still u ∧ u.full = false ∧ u.l = t1.l ∧ u.cols = t1.cols ∧ u.off = t1.off) := Lib.hid ⟨hU.out.1.mono (by omega) (by omega), hU.out.2⟩
            have Hgood := Lib.hid hgood
            clear LP LQ hd hA0 hA1 hgood
            by_cases i1 : num < 1
            · go_wp2_with fail
              go_roundw
              case rel => exact ⟨k + 1, by go_num, by have := Hlt.out; omega, u, _, _, rfl, rfl, H6.out.1 _, H6.out.2.1 _, H6.out.2.2, HU6⟩
              case measure => have := Hlt.out; simp [intOf]; omega
            · by_cases i2 : 999 < num
              · go_wp2_with fail
                go_roundw
                case rel => exact ⟨k + 1, by go_num, by have := Hlt.out; omega, u, _, _, rfl, rfl, H6.out.1 _, H6.out.2.1 _, H6.out.2.2, HU6⟩
                case measure => have := Hlt.out; simp [intOf]; omega
              · by_cases i3 : way < 0
                · go_wp2_with fail
                  go_roundw
                  case rel => exact ⟨k + 1, by go_num, by have := Hlt.out; omega, u, _, _, rfl, rfl, H6.out.1 _, H6.out.2.1 _, H6.out.2.2, HU6⟩
                  case measure => have := Hlt.out; simp [intOf]; omega
                · have i4 : 3 < way := by have := Hgood.out; omega
                  go_wp2_with fail
                  go_roundw
                  case rel => exact ⟨k + 1, by go_num, by have := Hlt.out; omega, u, _, _, rfl, rfl, H6.out.1 _, H6.out.2.1 _, H6.out.2.2, HU6⟩
                  case measure => have := Hlt.out; simp [intOf]; omega
        · have hge : ¬ (k : Int) < (ms.length : Int) := by omega
          have HP := Lib.hid LP
          have HQ := Lib.hid LQ
          have hl60 : t1.l.length ≤ 60 := HT.out.1.ok.l1
          clear LP LQ hd hlt
          go_wp2_with fail
          go_loopw [149] (fun i wq => ∃ j : Nat, i = .int .i64 j ∧ j ≤ t1.l.length ∧ Chg Non wr wq) (fun i _ => t1.l.length - (intOf i).toNat)
          case atStart => exact ⟨0, rfl, Nat.zero_le _, Chg.refl _ _⟩
          case round =>
            obtain ⟨j, rfl, hj, hck⟩ := hrel
            by_cases hlt : j < t1.l.length
            · have hltI : (j : Int) < (t1.l.length : Int) := by omega
              have hle := rowOf_le HT.out.1.ok j
              have hR1 := row_live (HP.out.non hck) hU.out.1.ok j
              rw [hU.out.2.2.2.1] at hR1
              have Hlt := Lib.hid hlt
              clear hlt
              go_wp2_with fail
              refine hR1.mono ?_
              rintro e a1 ⟨A1, d1, rfl, s1, k1⟩
              go_wp2_with fail
              refine (Old_calls a1 _ _ _ (s1.rd (G := fun _ => True) (fun _ _ => trivial)) hle).mono ?_
              rintro e a2 ⟨A2, d2, rfl, s2, k2⟩
              have hR2 := row_live (((HQ.out.non hck).non k1).non k2) HT.out.1.ok j
              clear hR1
              go_wp2_with fail
              refine hR2.mono ?_
              rintro e a3 ⟨A3, d3, rfl, s3, k3⟩
              go_wp2_with fail
              refine (Old_calls a3 _ _ _ (s3.rd (G := fun _ => True) (fun _ _ => trivial)) hle).mono ?_
              rintro e a4 ⟨A4, d4, rfl, s4, k4⟩
              clear hR2
              go_wp2_with fail
              refine (Same_calls a4 _ _ _ _ _ _ (((s2.chg k3 (fun _ _ h => h)).chg k4 (fun _ _ h => h)).rd (G := fun _ => True) (fun _ _ => trivial)) (s4.rd (G := fun _ => True) (fun _ _ => trivial)) hle hle).mono ?_
              rintro e a5 ⟨rfl, k5⟩
              rw [decide_eq_true rfl]
              have HC := Lib.hid ((((((hck.then k1).then k2).then k3).then k4).then k5))
              clear s1 s2 s3 s4 k1 k2 k3 k4 k5 hck
              go_wp2_with fail
              go_roundw
              case rel => exact ⟨j + 1, by go_num, by have := Hlt.out; omega, HC.out⟩
              case measure => have := Hlt.out; simp [intOf]; omega
            · have hge2 : ¬ (j : Int) < (t1.l.length : Int) := by omega
              have Hck := Lib.hid hck
              have hA := HA.out _ (HP.out.non hck).2.2.1
              clear hck hlt
              go_wp2_with fail
              refine hA.mono ?_
              rintro e a4 ⟨rfl, k4⟩
              have hO1 := Off_calls ((HP.out.non Hck.out).non k4).1
              rw [hU.out.2.2.2.2.2] at hO1
              clear hA
              go_wp2_with fail
              refine hO1.mono ?_
              rintro e a5 ⟨rfl, k5⟩
              have hO2 := Off_calls (((HQ.out.non Hck.out).non k4).non k5).1
              clear hO1
              go_wp2_with fail
              refine hO2.mono ?_
              rintro e a6 ⟨rfl, k6⟩
              have HC2 := Lib.hid (((((HP.out.2.2.1.thenN Hck.out).thenN k4).thenN k5).thenN k6))
              clear hO2 k4 k5 k6 Hck
              go_wp2_with fail
              go_ret
              exact ⟨rfl, HC2.out⟩
  · have hB := begin_none W _ r c v es hc0 h hok
    clear hok hc0 h hA
    go_enter Tryz.func8, Tryz.ntmps8
    go_wp2_with fail
    refine hB.mono ?_
    rintro e w1 ⟨rfl, hc1⟩
    have hA := HA.out w1 hc1
    go_wp2_with fail
    refine hA.mono ?_
    rintro e w2 ⟨rfl, hc2⟩
    go_wp2_with fail
    go_ret
    exact ⟨rfl, hc1.thenN hc2⟩
end T
end Go.Proofs.YtoegjmeoeefllaaGreatDoor
