/- Walks: TermSizes. -/
import Derived.Test.YtoegjmeoeefllaaGreatDoorAlive
namespace Go.Proofs.YtoegjmeoeefllaaGreatDoor
open Go Go.RowKit
namespace T
attribute [local go_sem high] run_max_2 run_min_2
attribute [local go_sem ↓] Go.wp_at_zero Go.wp_at_succ

theorem cutR_of {n : Nat} (h : 1 ≤ n ∧ n ≤ 60) : cutR n = n := by unfold cutR; omega
theorem cutC_of {n : Nat} (h : 1 ≤ n ∧ n ≤ 120) : cutC n = n := by unfold cutC; omega
theorem fit_all {cols n : Nat} : ∀ {l : List (List Cell)}, (∀ r ∈ l, RowOk cols n r) → l.map (fitRow cols) = l
  | [], _ => rfl
  | r :: l, h => by
    have hr := (h r (by simp)).2.1
    rw [List.map_cons, fit_all (fun x hx => h x (by simp [hx])), fitRow, if_neg (by omega), hr, Nat.sub_self]
    simp [blankRow]
/-- To as many rows and columns: nothing turns, but that the line is not full. -/
theorem resize_same {o n : Nat} {t : Term} (h : Ok o n t) : resizeR t t.l.length t.cols = { t with full := false } := by
  have hr := h.row
  have hc := h.col
  unfold resizeR
  rw [cutR_of ⟨h.l0, h.l1⟩, cutC_of ⟨h.c0, h.c1⟩, show t.row + 1 - t.l.length = 0 by omega, shiftN, sized, List.take_length, fit_all h.rows, Nat.sub_self, List.replicate_zero, List.append_nil]
  have e1 : (min (max (t.row : Int) 0) (t.l.length - 1 : Int)).toNat = t.row := by omega
  have e2 : (min (max (t.col : Int) 0) (t.cols - 1 : Int)).toNat = t.col := by omega
  unfold moveTo
  simp only [e1, e2]

theorem rowOf_le {o n : Nat} {t : Term} (h : Ok o n t) (k : Int) : (rowOf t.l k).length ≤ 1000000 := by
  unfold rowOf
  split
  · rw [h.rowLen (by omega)]; have := h.c1; omega
  · exact Nat.zero_le _

def feeds (t : Term) (es : List Ev) : Term := es.foldl (fun t e => feedR t e.b) t
theorem feeds_snoc (t : Term) (es : List Ev) {k : Nat} (h : k < es.length) : feeds t (es.take (k + 1)) = feedR (feeds t (es.take k)) (evAt es k).b := by
  have e : evAt es k = es[k] := by simp [evAt, h]
  rw [List.take_succ_eq_append_getElem h, feeds, List.foldl_append, e]; rfl
theorem Fed.feeds : ∀ (es : List Ev) {o n : Nat} {t : Term}, Fed o n t → Fed (o + 8 * total es) (n + 16 * total es) (feeds t es)
  | [], _, _, _, h => h
  | e :: es, o, n, t, h => by
    have e1 : total (e :: es) = e.b.length + total es := by simp [total]
    exact (Fed.feeds es (h.feed e.b)).mono (by rw [e1]; omega) (by rw [e1]; omega)
theorem feeds_size : ∀ (es : List Ev) {t : Term}, 1 ≤ t.l.length → (feeds t es).cols = t.cols ∧ (feeds t es).l.length = t.l.length
  | [], _, _ => ⟨rfl, rfl⟩
  | e :: es, t, h0 => by
    obtain ⟨h1, h2⟩ := feedR_size e.b h0
    obtain ⟨h3, h4⟩ := feeds_size es (t := feedR t e.b) (by rw [h2]; exact h0)
    exact ⟨h3.trans h1, h4.trans h2⟩
/-- Behind 18 and 0d it waits for nothing, and stands in the first column. -/
theorem calm (t : Term) : (feedR t [24, 13]).ins = 0 ∧ (feedR t [24, 13]).b = [] ∧ (feedR t [24, 13]).col = 0 ∧ (feedR t [24, 13]).full = false := by
  have h0 : ∀ t : Term, (byteR t 24).ins = 0 := fun t => by
    unfold byteR
    rw [if_neg (fun h => absurd h.2 (by decide))]
    split
    · rename_i h
      have h1 : t.ins = 0 := h.elim id (fun h => absurd h (by decide))
      unfold plainR control
      rw [if_neg (by decide), if_pos (by decide), if_neg (by decide), if_neg (by decide), if_neg (by decide)]
      exact (Kp.signs _ t).ins.trans h1
    · rw [if_neg (fun h => absurd h.2 (by decide)), if_neg (fun h => absurd h.2.1 (by decide)), if_neg (fun h => absurd h.2.1 (by decide))]
  have h1 : ∀ u : Term, u.ins = 0 → byteR u 13 = { signsR u (Sg.runes u.b) with b := [], col := 0, full := false } := fun u hu => by
    unfold byteR
    rw [if_neg (fun h => absurd h.2 (by decide)), if_pos (.inl hu)]
    unfold plainR control
    rw [if_neg (by decide), if_pos (by decide), if_pos rfl]
  have e : feedR t [24, 13] = byteR (byteR t 24) 13 := rfl
  rw [e, h1 _ (h0 t)]
  exact ⟨(Kp.signs _ _).ins.trans (h0 t), rfl, rfl, rfl⟩

set_option maxRecDepth 100000 in
set_option maxHeartbeats 2000000 in
theorem sizes_walk (W : World) (hG : Glob W) (r c : Int) (v : Value) (es : List Ev) (h : EvIn W v es (fun b => b < W.heap.size)) :
    Calls Tryz.prog 6 #[.int .i64 r, .int .i64 c, v] W fun e w' => e = .returned (.bool true) ∧ Chg Non W w' := by
  have kc := fun (w : World) (C : Array Value) (n c : Nat) => Lib.run_convert_bytes_const (P := Tryz.prog) w 34 5 C n c Tryz.underlying34 Tryz.underlying5
  have hN := new_live W W (Chg.refl _ _) hG r c
  have hfew := fun w' (hc : Chg Non W w') => few_calls w' v es _ (h.chg hc (fun _ _ h => h))
  have HE := Lib.hid h
  obtain ⟨A, cp, rfl, h2, h3, hev⟩ := h
  unfold maxLen at h3
  have Hfew := Lib.hid hfew
  clear hev hfew
  cases hf : fewR es with
  | false =>
    go_enter Tryz.func6, Tryz.ntmps6
    go_wp2_with fail
    refine hN.mono ?_
    rintro e w1 ⟨p, rfl, L1, hc1⟩
    go_wp2_with fail
    refine (Hfew.out w1 hc1).mono ?_
    rintro e w2 ⟨rfl, hc2⟩
    rw [hf]
    have hA := alive_calls w2 (hG.chg (hc1.thenN hc2) (fun h => h) (fun h => h))
    clear hN L1 hf
    go_wp2_with fail
    refine hA.mono ?_
    rintro e w3 ⟨rfl, hc3⟩
    go_wp2_with fail
    go_ret
    exact ⟨rfl, (hc1.thenN hc2).thenN hc3⟩
  | true =>
    have hsm := of_decide_eq_true hf
    have HSM := Lib.hid hsm
    have hl40 : es.length ≤ 40 := hsm.1
    clear hsm
    go_enter Tryz.func6, Tryz.ntmps6
    go_wp2_with fail
    refine hN.mono ?_
    rintro e w1 ⟨p, rfl, L1, hc1⟩
    go_wp2_with fail
    refine (Hfew.out w1 hc1).mono ?_
    rintro e w2 ⟨rfl, hc2⟩
    rw [hf]
    have L2 := L1.non hc2
    have hSz := Size_calls L2.1
    have eR : ((New r c).l.length : Int) = min (max r 1) 60 := by rw [cutR_eq]; simp [New]
    have eC : ((New r c).cols : Int) = min (max c 1) 120 := by rw [cutC_eq]; simp [New]
    rw [eR, eC] at hSz
    have ER := Lib.hid (And.intro eR eC)
    clear hN L1 hf eR eC
    go_wp2_with fail
    refine hSz.mono ?_
    rintro e w3 ⟨rfl, hc3⟩
    have L3 := L2.non hc3
    have HL3 := Lib.hid L3
    clear L2 hSz L3
    go_wp2_with fail
    go_loopw [52] (fun i wr => ∃ k : Nat, i = .int .i64 k ∧ k ≤ es.length ∧ ∃ F, Live W wr p (feeds (New r c) (es.take k)) F) (fun i _ => es.length - (intOf i).toNat)
    case atStart => exact ⟨0, rfl, Nat.zero_le _, _, HL3.out⟩
    case round =>
      obtain ⟨k, rfl, hk, F, hL⟩ := hrel
      have hFed : Fed 6400 12800 (feeds (New r c) (es.take k)) := ((Fed.new r c).feeds (es.take k)).mono (by have := HSM.out; have := total_le es k; omega) (by have := HSM.out; have := total_le es k; omega)
      by_cases hlt : k < es.length
      · have hltI : (k : Int) < (es.length : Int) := by omega
        obtain ⟨A', cp', hv, _, _, hev⟩ := HE.out.chg (hL.2.2.1) (fun _ _ h => h)
        injection hv with e1 _ e3
        subst e1 e3
        obtain ⟨lb, lo, bv, rfl, hGb, e0, e1, e2, e3, hrd, hbytes, hb47⟩ := hev k hlt
        obtain ⟨Ab, cb, rfl, q1, q2⟩ := hrd.shape
        have hb800 : (evAt es k).b.length ≤ 800 := by
          have h1 := total_snoc es hlt
          have h2 := total_le es (k + 1)
          have h3 := HSM.out.2
          omega
        have erun := feeds_snoc (New r c) es hlt
        obtain ⟨t, ht⟩ : ∃ t, t = feeds (New r c) (es.take k) := ⟨_, rfl⟩
        rw [← ht] at hL hFed erun
        obtain ⟨ev, hev'⟩ : ∃ ev, ev = evAt es k := ⟨_, rfl⟩
        rw [← hev'] at e0 e1 e2 e3 hrd hbytes hb800 erun
        obtain ⟨es1, er, ec, eb⟩ := ev
        simp only at e0 e1 e2 e3 hrd hbytes hb800 erun
        have hFd := feed_live (hL.non ((Chg.refl Non wr).alloc (.cells #[.bool es1, .int .i64 er, .int .i64 ec, .slice Ab eb.length cb] 46))) hFed (v := .slice Ab eb.length cb) (m := eb.length) (l := eb) (G := fun b => b < W.heap.size) (by omega) (by omega) hbytes (hrd.chg ((Chg.refl Non wr).alloc _) (fun _ _ _ h => h)) (fun b hb hf => by have := hL.2.1 b hf; omega)
        have Hrun := Lib.hid erun
        have Hlt := Lib.hid hlt
        clear hL hFed hrd hbytes hb800 erun hlt ht hb47 q1 q2 hev'
        go_wp2_with fail
        refine hFd.mono ?_
        rintro e w4 ⟨rfl, F4, hL4, hC4, hN4⟩
        have HL4 := Lib.hid hL4
        clear hL4
        go_wp2_with fail
        go_roundw
        case rel => exact ⟨k + 1, by go_num, by have := Hlt.out; omega, F4, by rw [Hrun.out]; exact HL4.out⟩
        case measure => have := Hlt.out; simp [intOf]; omega
      · have hge : ¬ (k : Int) < (es.length : Int) := by omega
        have e : es.take k = es := List.take_of_length_le (by omega)
        rw [e] at hL hFed
        have hs := feeds_size es (t := New r c) (Fed.new r c).ok.l0
        obtain ⟨t, ht⟩ : ∃ t, t = feeds (New r c) es := ⟨_, rfl⟩
        rw [← ht] at hL hFed hs
        have eR : (t.l.length : Int) = min (max r 1) 60 := by rw [hs.2]; exact ER.out.1
        have eC : (t.cols : Int) = min (max c 1) 120 := by rw [hs.1]; exact ER.out.2
        have hF5 := feed_new hL hFed [24, 13] (m := 2) rfl (by omega) (by omega) (by decide)
        have hFed5 : Fed 6416 12832 (feedR t [24, 13]) := (Fed.feed [24, 13] hFed).mono (by decide) (by decide)
        have hs5 := feedR_size [24, 13] hFed.ok.l0
        have hcalm := (calm t).2.2.2
        obtain ⟨u, hu⟩ : ∃ u, u = feedR t [24, 13] := ⟨_, rfl⟩
        rw [← hu] at hF5 hFed5 hs5 hcalm
        rw [← hs5.2] at eR
        rw [← hs5.1] at eC
        have hrs := resize_same hFed5.ok
        have HU := Lib.hid (And.intro eR (And.intro eC (And.intro hFed5 hrs)))
        have Hcalm := Lib.hid hcalm
        clear hL hFed hs ht eR eC hFed5 hs5 hcalm hu hrs e
        go_wp2_with fail
        refine hF5.mono ?_
        rintro e w5 ⟨rfl, F5, L5, hc5, hN5⟩
        have hCp := copy_live L5 HU.out.2.2.1.ok
        clear hF5 hc5 hN5
        go_wp2_with fail
        refine hCp.mono ?_
        rintro e w6 ⟨q, rfl, Q6, hc6⟩
        have L6 := L5.non hc6
        have hF5lt := L5.1.lt
        have hRs := resize_live Q6 HU.out.2.2.1 (by omega) (min (max r 1) 60) (min (max c 1) 120)
        rw [← HU.out.1, ← HU.out.2.1, HU.out.2.2.2] at hRs
        rw [HU.out.1, HU.out.2.1] at hRs
        clear hCp
        go_wp2_with fail
        refine hRs.mono ?_
        rintro e w7 ⟨rfl, Fq, Q7, hc7, hN7⟩
        have L7 := L6.chg hc7 (fun b hb hf => by have := hF5lt b hb; omega) Q6.2.1
        have HQ7 := Lib.hid Q7
        have HL7 := Lib.hid L7
        have HKq : Hid (Ok 6416 12832 { u with full := false }) := Lib.hid { HU.out.2.2.1.ok with }
        clear hRs Q6 L6 hc7 hN7 Q7 L7 hF5lt hc6 L5
        go_wp2_with fail
        go_loopw [74] (fun i wr => ∃ k : Nat, i = .int .i64 k ∧ k ≤ u.l.length ∧ Chg Non w7 wr) (fun i _ => u.l.length - (intOf i).toNat)
        case atStart => exact ⟨0, rfl, Nat.zero_le _, Chg.refl _ _⟩
        case round =>
          obtain ⟨k, rfl, hk, hck⟩ := hrel
          have LP := HL7.out.non hck
          have LQ := HQ7.out.non hck
          have hW := LP.2.2.1
          by_cases hlt : k < u.l.length
          · have hltI : (k : Int) < min (max r 1) 60 := by rw [← HU.out.1]; omega
            have hle := rowOf_le HU.out.2.2.1.ok k
            have hR1 := row_live LP HU.out.2.2.1.ok k
            have LQ' := Lib.hid LQ
            have Hlt := Lib.hid hlt
            clear LQ LP hlt
            go_wp2_with fail
            refine hR1.mono ?_
            rintro e a1 ⟨A1, d1, rfl, s1, k1⟩
            go_wp2_with fail
            refine (Old_calls a1 _ _ _ (s1.rd (G := fun _ => True) (fun _ _ => trivial)) hle).mono ?_
            rintro e a2 ⟨A2, d2, rfl, s2, k2⟩
            have hR2 := row_live ((LQ'.out.non k1).non k2) HKq.out k
            clear hR1
            go_wp2_with fail
            refine hR2.mono ?_
            rintro e a3 ⟨A3, d3, rfl, s3, k3⟩
            go_wp2_with fail
            refine (Old_calls a3 _ _ _ (s3.rd (G := fun _ => True) (fun _ _ => trivial)) hle).mono ?_
            rintro e a4 ⟨A4, d4, rfl, s4, k4⟩
            clear hR2
            go_wp2_with fail
            refine (Same_calls a4 _ _ _ _ _ _ (((s2.chg k3 (fun _ _ h => h)).chg k4 (fun _ _ h => h)).rd (G := fun _ => True) (fun _ _ => trivial)) (s4.rd (G := fun _ => True) (fun _ _ => trivial)) hle hle).mono ?_
            rintro e a5 ⟨rfl, k5⟩
            rw [decide_eq_true rfl]
            have HC := Lib.hid ((((((hck.then k1).then k2).then k3).then k4).then k5))
            clear s1 s2 s3 s4 k1 k2 k3 k4 k5 hck
            go_wp2_with fail
            go_roundw
            case rel => exact ⟨k + 1, by go_num, by have := Hlt.out; omega, HC.out⟩
            case measure => have := Hlt.out; simp [intOf]; omega
          · have hge : ¬ (k : Int) < min (max r 1) 60 := by rw [← HU.out.1]; omega
            have hC1 := Cursor_calls LP.1
            have HP := Lib.hid LP
            have HQ := Lib.hid LQ
            have hGl := HP.out.2.2.2
            clear LP LQ hlt
            go_wp2_with fail
            refine hC1.mono ?_
            rintro e a1 ⟨rfl, k1⟩
            have hC2 := Cursor_calls (HQ.out.non k1).1
            clear hC1
            go_wp2_with fail
            refine hC2.mono ?_
            rintro e a2 ⟨rfl, k2⟩
            have hA := alive_calls a2 (((HP.out.non k1).non k2).2.2.2.chg ((HP.out.non k1).non k2).2.2.1 (fun h => h) (fun h => h))
            clear hC2
            go_wp2_with fail
            refine hA.mono ?_
            rintro e a3 ⟨rfl, k3⟩
            have hO1 := Off_calls (((HP.out.non k1).non k2).non k3).1
            clear hA
            go_wp2_with fail
            refine hO1.mono ?_
            rintro e a4 ⟨rfl, k4⟩
            have hO2 := Off_calls ((((HQ.out.non k1).non k2).non k3).non k4).1
            clear hO1
            go_wp2_with fail
            refine hO2.mono ?_
            rintro e a5 ⟨rfl, k5⟩
            have hend := ((((((HP.out.non k1).non k2).non k3).non k4).non k5)).2.2.1
            clear hO2
            go_wp2_with fail
            go_ret
            exact ⟨rfl, hend⟩
end T
end Go.Proofs.YtoegjmeoeefllaaGreatDoor
