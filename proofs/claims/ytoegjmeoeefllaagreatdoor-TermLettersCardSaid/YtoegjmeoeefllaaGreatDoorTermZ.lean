/- Walks: what the laws share: few, begin. -/
import Derived.Test.YtoegjmeoeefllaaGreatDoorTermY
namespace Go.Proofs.YtoegjmeoeefllaaGreatDoor
open Go Go.RowKit
namespace T
attribute [local go_sem high] run_max_2 run_min_2
attribute [local go_sem ↓] Go.wp_at_zero Go.wp_at_succ

structure Ev where
  size : Bool
  rows : Int
  cols : Int
  b : List Int
def evAt (es : List Ev) (k : Nat) : Ev := es.getD k ⟨false, 0, 0, []⟩
def total (es : List Ev) : Nat := (es.map (fun e => e.b.length)).sum
def fewR (es : List Ev) : Bool := decide (es.length ≤ 40 ∧ total es ≤ 800)
theorem total_append (a b : List Ev) : total (a ++ b) = total a + total b := by simp [total]
theorem total_snoc (es : List Ev) {k : Nat} (h : k < es.length) : total (es.take (k + 1)) = total (es.take k) + (evAt es k).b.length := by
  rw [List.take_succ_eq_append_getElem h, total_append]
  simp [total, evAt, h]
theorem evAt_mem {es : List Ev} {k : Nat} (h : k < es.length) : evAt es k ∈ es := by simp [evAt, h]
theorem total_le (es : List Ev) (k : Nat) : total (es.take k) ≤ total es := by
  have : total es = total (es.take k) + total (es.drop k) := by rw [← total_append, List.take_append_drop]
  omega

/-- The events es are what the slice v holds, in blocks of G. -/
def EvIn (w : World) (v : Value) (es : List Ev) (G : Nat → Prop) : Prop :=
  ∃ A c, v = .slice A es.length c ∧ es.length ≤ c ∧ c ≤ maxLen ∧ ∀ k, k < es.length → ∃ b o bv, A = some ⟨b, o, none⟩ ∧ G b ∧
    w.cell? ⟨b, o + k * 4, none⟩ = some (.bool (evAt es k).size) ∧ w.cell? ⟨b, o + k * 4 + 1, none⟩ = some (.int .i64 (evAt es k).rows) ∧ w.cell? ⟨b, o + k * 4 + 2, none⟩ = some (.int .i64 (evAt es k).cols) ∧
    w.cell? ⟨b, o + k * 4 + 3, none⟩ = some bv ∧ Rd w 1 bv (evAt es k).b.length ((evAt es k).b.map (Value.int .u8)) G ∧ (∀ x ∈ (evAt es k).b, 0 ≤ x ∧ x < 256) ∧ (evAt es k).b.length ≤ 140737488355328

theorem few_calls (w : World) (v : Value) (es : List Ev) (G : Nat → Prop) (h : EvIn w v es G) :
    Calls Tryz.prog 23 #[v] w fun e w' => e = .returned (.bool (fewR es)) ∧ Chg Non w w' := by
  obtain ⟨A, c, rfl, h2, h3, hev⟩ := h
  unfold maxLen at h3
  have HE := Lib.hid hev
  obtain ⟨R, hR⟩ : ∃ R, R = fewR es := ⟨_, rfl⟩
  rw [← hR]
  have HR := Lib.hid hR
  clear hev hR
  go_enter Tryz.func23, Tryz.ntmps23
  go_wp2_with fail
  go_loopw [3, 8] (fun u i wr => ∃ (k : Nat) (z : Int), i = .int .i64 k ∧ u = .int .i64 z ∧ k ≤ es.length ∧ Hid (k ≤ 40 → z = (total (es.take k) : Int) ∧ total (es.take k) ≤ k * 140737488355328) ∧ Chg Non w wr) (fun _ i _ => es.length - (intOf i).toNat)
  case atStart => exact ⟨0, 0, rfl, rfl, Nat.zero_le _, Lib.hid (fun _ => by simp [total]), Chg.refl _ _⟩
  case round =>
    obtain ⟨k, z, rfl, rfl, hk, hz, hc⟩ := hrel
    by_cases hlt : k < es.length
    · have hltI : (k : Int) < (es.length : Int) := by omega
      obtain ⟨lb, lo, bv, rfl, hG, e0, e1, e2, e3, hrd, hbytes, hb47⟩ := HE.out k hlt
      obtain ⟨Ab, cb, rfl, q1, q2⟩ := hrd.shape
      have a0 := hc.cell e0 (fun h => h)
      have a1 := hc.cell e1 (fun h => h)
      have a2 := hc.cell e2 (fun h => h)
      have a3 := hc.cell e3 (fun h => h)
      have Hlt := Lib.hid hlt
      have H47 := Lib.hid hb47
      clear e0 e1 e2 e3 hrd hbytes hlt q1 q2
      go_wp2_with fail
      go_roundw
      case rel =>
        refine ⟨k + 1, _, by go_num, rfl, by have := Hlt.out; omega, Lib.hid (fun h40 => ?_), hc.alloc _⟩
        obtain ⟨h1, h2⟩ := hz.out (by omega)
        have h47 := H47.out
        rw [total_snoc es Hlt.out]
        subst h1
        generalize (evAt es k).b.length = L at h47 ⊢
        have h5 : (k : Nat) * 140737488355328 ≤ 39 * 140737488355328 := Nat.mul_le_mul_right _ (by omega)
        have h6 : (k + 1) * 140737488355328 = k * 140737488355328 + 140737488355328 := by rw [Nat.add_mul, Nat.one_mul]
        constructor
        · unfold wrap64; omega
        · omega
      case measure => have := Hlt.out; simp [intOf]; omega
    · have hge : ¬ (k : Int) < (es.length : Int) := by omega
      have e : k = es.length := by omega
      have E := Lib.hid e
      clear e
      by_cases h40 : es.length ≤ 40
      · have h40I : (es.length : Int) ≤ 40 := by omega
        obtain ⟨hz1, _⟩ := hz.out (by have := E.out; omega)
        rw [List.take_of_length_le (by have := E.out; omega)] at hz1
        by_cases h800 : total es ≤ 800
        · have h8 : z ≤ 800 := by omega
          have hRt : R = true := by rw [HR.out]; exact decide_eq_true ⟨h40, h800⟩
          have HRt := Lib.hid hRt
          clear hz1 hRt
          go_wp2_with fail
          go_ret
          rw [HRt.out]
          exact ⟨rfl, hc⟩
        · have h8 : ¬ z ≤ 800 := by omega
          have hRt : R = false := by rw [HR.out]; exact decide_eq_false (fun h => h800 h.2)
          have HRt := Lib.hid hRt
          clear hz1 hRt
          go_wp2_with fail
          go_ret
          rw [HRt.out]
          exact ⟨rfl, hc⟩
      · have h40I : ¬ (es.length : Int) ≤ 40 := by omega
        have hRt : R = false := by rw [HR.out]; exact decide_eq_false (fun h => h40 h.1)
        have HRt := Lib.hid hRt
        clear hRt
        go_wp2_with fail
        go_ret
        rw [HRt.out]
        exact ⟨rfl, hc⟩

/-! ### begin -/
def runEv (t : Term) (e : Ev) : Term := feedR (if e.size then resizeR t e.rows e.cols else t) e.b
def runEvs (t : Term) (es : List Ev) : Term := es.foldl runEv t
theorem runEvs_append (t : Term) (a b : List Ev) : runEvs t (a ++ b) = runEvs (runEvs t a) b := by simp [runEvs]
theorem Fed.ev {o n : Nat} {t : Term} (h : Fed o n t) (e : Ev) : Fed (o + 60 + 8 * e.b.length) (n + 16 * e.b.length) (runEv t e) := by
  unfold runEv
  split
  · exact (h.resize e.rows e.cols).feed e.b
  · exact ((h.mono (o' := o + 60) (by omega) (Nat.le_refl n))).feed e.b
theorem Fed.evs : ∀ (es : List Ev) {o n : Nat} {t : Term}, Fed o n t → Fed (o + 60 * es.length + 8 * total es) (n + 16 * total es) (runEvs t es)
  | [], _, _, _, h => h
  | e :: es, o, n, t, h => by
    have e1 : total (e :: es) = e.b.length + total es := by simp [total]
    have := Fed.evs es (h.ev e)
    exact this.mono (by rw [e1]; simp; omega) (by rw [e1]; omega)

theorem EvIn.chg {w w' : World} {v : Value} {es : List Ev} {G F : Nat → Prop} (h : EvIn w v es G) (hc : Chg F w w') (hn : ∀ b, G b → ¬ F b) : EvIn w' v es G := by
  obtain ⟨A, c, rfl, h2, h3, h4⟩ := h
  refine ⟨A, c, rfl, h2, h3, fun k hk => ?_⟩
  obtain ⟨b, o, bv, e0, hG, e1, e2, e3, e4, hrd, e5, e6⟩ := h4 k hk
  exact ⟨b, o, bv, e0, hG, hc.cell e1 (hn b hG), hc.cell e2 (hn b hG), hc.cell e3 (hn b hG), hc.cell e4 (hn b hG), hrd.chg hc (fun k _ hk => hn k hk), e5, e6⟩

/-- A terminal that has been laid since W, in a world in which nothing of W has turned. -/
def Live (W w : World) (p : Nat) (t : Term) (F : Nat → Prop) : Prop := IsTerm w p t F ∧ (∀ b, F b → W.heap.size ≤ b) ∧ Chg Non W w ∧ Glob W
theorem Live.gl {W w : World} {p : Nat} {t : Term} {F : Nat → Prop} (h : Live W w p t F) : Gl w F :=
  ⟨h.2.2.2.chg h.2.2.1 (fun h => h) (fun h => h), fun hf => by have := h.2.1 _ hf; have := h.2.2.2.1.lt; omega, fun hf => by have := h.2.1 _ hf; have := h.2.2.2.2.lt; omega⟩
theorem Live.turn {W w w' : World} {p : Nat} {t t' : Term} {F : Nat → Prop} (h : Live W w p t F) (hT : Turned w p F t' w') : ∃ F', Live W w' p t' F' ∧ Chg F w w' ∧ ∀ b, F' b → F b ∨ w.heap.size ≤ b := by
  obtain ⟨F', h1, h2, h3⟩ := hT
  have hs := h.2.2.1.size
  exact ⟨F', ⟨h1, fun b hb => by rcases h3 b hb with h4 | h4; exact h.2.1 b h4; omega, h.2.2.1.trans h2 (fun b hb => .inr (h.2.1 b hb)), h.2.2.2⟩, h2, h3⟩
theorem Live.chg {W w w' : World} {p : Nat} {t : Term} {F G : Nat → Prop} (h : Live W w p t F) (hc : Chg G w w') (hd : ∀ b, F b → ¬ G b) (hG : ∀ b, G b → W.heap.size ≤ b) : Live W w' p t F :=
  ⟨h.1.chg hc hd, h.2.1, h.2.2.1.trans hc (fun b hb => .inr (hG b hb)), h.2.2.2⟩
theorem Live.non {W w w' : World} {p : Nat} {t : Term} {F : Nat → Prop} (h : Live W w p t F) (hc : Chg Non w w') : Live W w' p t F := h.chg hc (fun _ _ h => h) (fun _ h => h.elim)
theorem feed_live {W w : World} {p : Nat} {t : Term} {F : Nat → Prop} {o n : Nat} (h : Live W w p t F) (hk : Fed o n t) {v : Value} {m : Nat} {l : List Int} {G : Nat → Prop} (ho : o + 8 * m ≤ 1000000) (hn : n + 16 * m ≤ 10000000)
    (hl : ∀ x ∈ l, 0 ≤ x ∧ x < 256) (hr : Rd w 1 v m (l.map (Value.int .u8)) G) (hG : ∀ b, G b → ¬ F b) :
    Calls Tryz.prog 17 #[.pointer (some ⟨p, 0, none⟩), v] w fun e w' => e = .returned (.tuple #[]) ∧ ∃ F', Live W w' p (feedR t l) F' ∧ Chg F w w' ∧ ∀ b, F' b → F b ∨ w.heap.size ≤ b := by
  refine (Feed_calls h.1 hk h.gl ho hn hl hr hG).mono ?_
  rintro e w' ⟨rfl, hT⟩
  exact ⟨rfl, h.turn hT⟩
theorem resize_live {W w : World} {p : Nat} {t : Term} {F : Nat → Prop} {o n : Nat} (h : Live W w p t F) (hk : Fed o n t) (ho : o ≤ 10000000) (r c : Int) :
    Calls Tryz.prog 24 #[.pointer (some ⟨p, 0, none⟩), .int .i64 r, .int .i64 c] w fun e w' => e = .returned (.tuple #[]) ∧ ∃ F', Live W w' p (resizeR t r c) F' ∧ Chg F w w' ∧ ∀ b, F' b → F b ∨ w.heap.size ≤ b := by
  refine (Resize_calls h.1 hk ho r c).mono ?_
  rintro e w' ⟨rfl, hT⟩
  exact ⟨rfl, h.turn hT⟩

set_option maxRecDepth 100000 in
/-- begin: nil, where it is too long. -/
theorem begin_none (W w : World) (r c : Int) (v : Value) (es : List Ev) (hW : Chg Non W w) (h0 : EvIn W v es (fun b => b < W.heap.size)) (hno : ¬ (fewR es = true ∧ r ≤ 60 ∧ c ≤ 120)) :
    Calls Tryz.prog 10 #[.agg #[.int .i64 r, .int .i64 c], v] w fun e w' => e = .returned (.pointer none) ∧ Chg Non W w' := by
  have h := h0.chg hW (fun _ _ h => h)
  have hfew := fun w' hc => few_calls w' v es _ (h.chg (F := Non) (w' := w') hc (fun _ _ h => h))
  obtain ⟨A, cp, rfl, h2, h3, hev⟩ := h
  clear h0
  unfold maxLen at h3
  have HW := Lib.hid hW
  have hb2 := Blk.new w [.int .i64 r, .int .i64 c] 22
  have x0 := hb2.cell 0
  have x1 := hb2.cell 1
  have hfew1 := hfew _ ((Chg.refl Non w).alloc (.cells #[.int .i64 r, .int .i64 c] 22))
  clear hev hW hfew
  cases hf : fewR es with
  | false =>
    rw [hf] at hfew1
    clear hno hf
    go_enter Tryz.func10, Tryz.ntmps10
    go_wp2_with fail
    refine hfew1.mono ?_
    rintro e w1 ⟨rfl, hc1⟩
    go_wp2_with fail
    go_ret
    exact ⟨rfl, (HW.out.alloc _).thenN hc1⟩
  | true =>
    rw [hf] at hfew1
    by_cases hr : r ≤ 60
    · have hc : ¬ c ≤ 120 := fun hc => hno ⟨hf, hr, hc⟩
      have hn1 : ¬ (60 : Int) < r := by omega
      have hn2 : (120 : Int) < c := by omega
      clear hno hf
      go_enter Tryz.func10, Tryz.ntmps10
      go_wp2_with fail
      refine hfew1.mono ?_
      rintro e w1 ⟨rfl, hc1⟩
      have y0 := hc1.cell x0 (fun h => h)
      have y1 := hc1.cell x1 (fun h => h)
      go_wp2_with fail
      go_ret
      exact ⟨rfl, (HW.out.alloc _).thenN hc1⟩
    · have hn1 : (60 : Int) < r := by omega
      clear hno hf
      go_enter Tryz.func10, Tryz.ntmps10
      go_wp2_with fail
      refine hfew1.mono ?_
      rintro e w1 ⟨rfl, hc1⟩
      have y0 := hc1.cell x0 (fun h => h)
      have y1 := hc1.cell x1 (fun h => h)
      go_wp2_with fail
      go_ret
      exact ⟨rfl, (HW.out.alloc _).thenN hc1⟩

set_option maxRecDepth 100000 in
set_option maxHeartbeats 1000000 in
/-- begin: a terminal behind a script. -/
theorem begin_some (W w : World) (r c : Int) (v : Value) (es : List Ev) (hW : Chg Non W w) (hGl : Glob W) (h0 : EvIn W v es (fun b => b < W.heap.size)) (hf : fewR es = true) (hr : r ≤ 60) (hc : c ≤ 120) :
    Calls Tryz.prog 10 #[.agg #[.int .i64 r, .int .i64 c], v] w fun e w' => ∃ p F, e = .returned (.pointer (some ⟨p, 0, none⟩)) ∧ Live W w' p (runEvs (New r c) es) F := by
  have h := h0.chg hW (fun _ _ h => h)
  have hfew := fun w' hc => few_calls w' v es _ (h.chg (F := Non) (w' := w') hc (fun _ _ h => h))
  have hh := h0
  obtain ⟨A, cp, rfl, h2, h3, hev⟩ := h
  unfold maxLen at h3
  have HE := Lib.hid hh
  have HW := Lib.hid (And.intro hW hGl)
  have hb2 := Blk.new w [.int .i64 r, .int .i64 c] 22
  have x0 := hb2.cell 0
  have x1 := hb2.cell 1
  have hfew1 := hfew _ ((Chg.refl Non w).alloc (.cells #[.int .i64 r, .int .i64 c] 22))
  have hsm := of_decide_eq_true hf
  have hl40 : es.length ≤ 40 := hsm.1
  have HSM := Lib.hid hsm
  rw [hf] at hfew1
  have hn1 : ¬ (60 : Int) < r := by omega
  have hn2 : ¬ (120 : Int) < c := by omega
  clear hev hW hfew hf hsm hGl hh h0
  go_enter Tryz.func10, Tryz.ntmps10
  go_wp2_with fail
  refine hfew1.mono ?_
  rintro e w1 ⟨rfl, hc1⟩
  have y0 := hc1.cell x0 (fun h => h)
  have y1 := hc1.cell x1 (fun h => h)
  have hc1W : Chg Non W w1 := (HW.out.1.alloc _).thenN hc1
  clear x0 x1 hfew1 hb2
  go_wp2_with fail
  refine (New_calls r c w1).mono ?_
  rintro e w2 ⟨p, rfl, hI2, hc2⟩
  have hL2 : Live W w2 p (New r c) (fun b => w1.heap.size ≤ b ∧ b < w2.heap.size) := ⟨hI2, fun b hb => Nat.le_trans hc1W.size hb.1, hc1W.thenN hc2, HW.out.2⟩
  have HL2 := Lib.hid hL2
  clear hI2 hL2 y0 y1
  go_wp2_with fail
  go_loopw [28] (fun i wr => ∃ k : Nat, i = .int .i64 k ∧ k ≤ es.length ∧ ∃ F, Live W wr p (runEvs (New r c) (es.take k)) F) (fun i _ => es.length - (intOf i).toNat)
  case atStart => exact ⟨0, rfl, Nat.zero_le _, _, HL2.out⟩
  case round =>
    obtain ⟨k, rfl, hk, F, hL⟩ := hrel
    by_cases hlt : k < es.length
    · have hltI : (k : Int) < (es.length : Int) := by omega
      have hFed : Fed 8800 12800 (runEvs (New r c) (es.take k)) := ((Fed.new r c).evs (es.take k)).mono (by have := HSM.out; have := total_le es k; rw [List.length_take]; omega) (by have := HSM.out; have := total_le es k; omega)
      obtain ⟨A', cp', hv, _, _, hev⟩ := HE.out.chg (hL.2.2.1) (fun _ _ h => h)
      injection hv with e1 _ e3
      subst e1 e3
      obtain ⟨lb, lo, bv, rfl, hG, e0, e1, e2, e3, hrd, hbytes, hb47⟩ := hev k hlt
      obtain ⟨Ab, cb, rfl, q1, q2⟩ := hrd.shape
      have hb800 : (evAt es k).b.length ≤ 800 := by
        have h1 := total_snoc es hlt
        have h2 := total_le es (k + 1)
        have h3 := HSM.out.2
        omega
      have erun : runEvs (New r c) (es.take (k + 1)) = runEv (runEvs (New r c) (es.take k)) (evAt es k) := by
        rw [List.take_succ_eq_append_getElem hlt, runEvs_append]
        simp [runEvs, evAt, hlt]
      obtain ⟨t, ht⟩ : ∃ t, t = runEvs (New r c) (es.take k) := ⟨_, rfl⟩
      rw [← ht] at hL hFed erun
      obtain ⟨ev, hev'⟩ : ∃ ev, ev = evAt es k := ⟨_, rfl⟩
      rw [← hev'] at e0 e1 e2 e3 hrd hbytes hb800 erun
      rw [← hev'] at q1
      have HL := Lib.hid hL
      have HFed := Lib.hid hFed
      have HR := Lib.hid (And.intro hrd (And.intro hbytes hb800))
      have Hrun := Lib.hid erun
      have Hlt := Lib.hid hlt
      clear hL hFed hrd hbytes hb800 erun hlt ht hev hev' hb47
      obtain ⟨es1, er, ec, eb⟩ := ev
      simp only at e0 e1 e2 e3 q1
      have fin : ∀ w5 F5, Live W w5 p (feedR (if es1 then resizeR t er ec else t) eb) F5 → ∃ F, Live W w5 p (runEvs (New r c) (List.take (k + 1) es)) F := fun w5 F5 h => ⟨F5, by rw [Hrun.out]; exact h⟩
      have Fin := Lib.hid fin
      have hbE := Blk.new wr [.bool es1, .int .i64 er, .int .i64 ec, .slice Ab eb.length cb] 46
      have HbE := Lib.hid hbE
      have hL3 := HL.out.non ((Chg.refl Non wr).alloc (.cells #[.bool es1, .int .i64 er, .int .i64 ec, .slice Ab eb.length cb] 46))
      have HL3 := Lib.hid hL3
      have hGF : ∀ {F : Nat → Prop} {w : World} {t : Term}, Live W w p t F → ∀ b, b < W.heap.size → ¬ F b := fun h b hb hf => by have := h.2.1 b hf; omega
      have hbn : ¬ F wr.heap.size := fun hf => by have := HL.out.1.lt _ hf; omega
      have Hbn := Lib.hid hbn
      clear fin hbE hL3 hbn q1
      have hrd3 := HR.out.1.chg ((Chg.refl Non wr).alloc (.cells #[.bool es1, .int .i64 er, .int .i64 ec, .slice Ab eb.length cb] 46)) (fun _ _ _ h => h)
      have Hrd3 := Lib.hid hrd3
      have h800 : eb.length ≤ 800 := HR.out.2.2
      clear hrd3
      cases es1 with
      | true =>
        have hRs := resize_live HL3.out HFed.out (by omega) er ec
        go_wp2_with fail
        refine hRs.mono ?_
        rintro e w4 ⟨rfl, F4, hL4, hC4, hN4⟩
        have hb4 := HbE.out.chg hC4 Hbn.out
        have d3 := hb4.cell 3
        have hFd := feed_live hL4 (HFed.out.resize er ec) (v := .slice Ab eb.length cb) (m := eb.length) (l := eb) (G := fun b => b < W.heap.size) (by omega) (by omega) HR.out.2.1 (Hrd3.out.chg hC4 (fun b _ hb => hGF HL.out b hb)) (hGF hL4)
        clear hL4 hC4 hN4 hb4
        go_wp2_with fail
        refine hFd.mono ?_
        rintro e w5 ⟨rfl, F5, hL5, hC5, hN5⟩
        have HL5 := Lib.hid hL5
        clear hL5
        go_wp2_with fail
        go_roundw
        case rel => exact ⟨k + 1, by go_num, by have := Hlt.out; omega, Fin.out w5 F5 HL5.out⟩
        case measure => have := Hlt.out; simp [intOf]; omega
      | false =>
        have hFd := feed_live HL3.out HFed.out (v := .slice Ab eb.length cb) (m := eb.length) (l := eb) (G := fun b => b < W.heap.size) (by omega) (by omega) HR.out.2.1 Hrd3.out (hGF HL.out)
        go_wp2_with fail
        refine hFd.mono ?_
        rintro e w5 ⟨rfl, F5, hL5, hC5, hN5⟩
        have HL5 := Lib.hid hL5
        clear hL5
        go_wp2_with fail
        go_roundw
        case rel => exact ⟨k + 1, by go_num, by have := Hlt.out; omega, Fin.out w5 F5 HL5.out⟩
        case measure => have := Hlt.out; simp [intOf]; omega
    · have hge : ¬ (k : Int) < (es.length : Int) := by omega
      have HL := Lib.hid hL
      have e : es.take k = es := List.take_of_length_le (by omega)
      have E := Lib.hid e
      clear hL e
      go_wp2_with fail
      go_ret
      have hL := HL.out
      rw [E.out] at hL
      exact ⟨p, rfl, F, hL⟩
end T
end Go.Proofs.YtoegjmeoeefllaaGreatDoor
