/- Walks: byte. -/
import Derived.Test.YtoegjmeoeefllaaGreatDoorTermT
import Derived.Test.YtoegjmeoeefllaaGreatDoorTermC
import Derived.Deep.LoopGhost
namespace Go.Proofs.YtoegjmeoeefllaaGreatDoor
open Go Go.RowKit
namespace T
attribute [local go_sem high] run_max_2 run_min_2
attribute [local go_sem ↓] Go.wp_at_zero Go.wp_at_succ

theorem drain_fuel : ∀ (f g : Nat) (t : Term), t.b.length ≤ f → t.b.length ≤ g → drain f t = drain g t
  | 0, g, t, h, _ => by
    have e : t.b = [] := List.length_eq_zero_iff.1 (by omega)
    have hw : Sg.wholeR t.b = false := by rw [e]; rfl
    rw [drain_not hw, drain_not hw]
  | f + 1, g, t, h, hg => by
    cases hw : Sg.wholeR t.b with
    | false => rw [drain_not hw, drain_not hw]
    | true =>
      have h1 := take1_short hw
      rw [drain_whole hw h, drain_whole hw hg]
      exact drain_fuel f (g - 1) _ (by omega) (by omega)

/-- What Atoi's error variables hold, and that they are none of the terminal's. -/
def Gl (w : World) (F : Nat → Prop) : Prop := Glob w ∧ ¬ F 0 ∧ ¬ F 1
theorem Holds.lt {w : World} {g : Nat} (h : Holds w g) : g < w.heap.size := by obtain ⟨_, h, _⟩ := h; exact World.block_lt_of_cell? w _ h
theorem Gl.turn {w w' : World} {F F' : Nat → Prop} (h : Gl w F) (hc : Chg F w w') (hn : ∀ b, F' b → F b ∨ w.heap.size ≤ b) : Gl w' F' :=
  ⟨h.1.chg hc h.2.1 h.2.2, fun hf => by
    rcases hn _ hf with h1 | h1
    · exact h.2.1 h1
    · have := h.1.1.lt; omega, fun hf => by
    rcases hn _ hf with h1 | h1
    · exact h.2.2 h1
    · have := h.1.2.lt; omega⟩
theorem Gl.chg {w w' : World} {F G : Nat → Prop} (h : Gl w F) (hc : Chg G w w') (hG : ∀ b, b < w.heap.size → G b → F b) : Gl w' F :=
  ⟨h.1.chg (hc.mono hG) h.2.1 h.2.2, h.2.1, h.2.2⟩

/-- The waiting bytes are others. -/
theorem Rep.putB {w w2 : World} {p : Nat} {t : Term} {F : Nat → Prop} {lv gv bv : Value} {vs gs : List Value} {bs gb : List Nat} (h : Rep w p t F lv gv bv vs gs bs gb) {b' : List Int} {bv' : Value}
    (hc : Chg (wbk bv) w w2) (hs : Sl w2 5 1 bv' b'.length (b'.map (Value.int .u8)) (fun b => F b ∨ w.heap.size ≤ b)) : Turned w p F { t with b := b' } (w2.setCell ⟨p, 10, none⟩ bv') := by
  have s2 := hc.size
  have hb2 := h.blk.chg hc (fun hb => absurd (h.b.wbT hb h.blk) (by decide))
  have hb3 := hb2.set 10 bv'
  have hcp := (Chg.at0 p w2).at_ 10 bv'
  have hF : Chg F w (w2.setCell ⟨p, 10, none⟩ bv') := (hc.mono (fun b _ hb => h.b.wbF' hb)).then (chgP h.own hcp)
  have keepRows : ∀ {rows : List (List Cell)} {us : List Value} {ks : List Nat}, RowsIn w rows us ks F → RowsIn (w2.setCell ⟨p, 10, none⟩ bv') rows us ks F := fun hr =>
    (hr.chgT hc (fun b l _ hl hb => absurd (h.b.wbT hb hl) (by decide))).chgT hcp (fun b l _ hl e => hl.ne hb2 (by decide) e)
  have keepSl : ∀ {E sz n : Nat} {v : Value} {cs : List Value}, Sl w E sz v n cs F → E ≠ 5 → E ≠ 57 → Sl (w2.setCell ⟨p, 10, none⟩ bv') E sz v n cs F := fun hr hE hE2 =>
    (hr.chgT hc (fun b l _ hl hb => absurd (h.b.wbT hb hl).symm hE)).chgT hcp (fun b l _ hl e => hl.ne hb2 hE2 e)
  have hmono : ∀ b, b < (w2.setCell ⟨p, 10, none⟩ bv').heap.size → F b → (F b ∨ w.heap.size ≤ b) ∧ b < (w2.setCell ⟨p, 10, none⟩ bv').heap.size := fun b h1 h2 => ⟨.inl h2, h1⟩
  refine ⟨fun b => (F b ∨ w.heap.size ≤ b) ∧ b < (w2.setCell ⟨p, 10, none⟩ bv').heap.size, ⟨lv, gv, bv', vs, gs, bs, gb, ?_⟩, hF, fun b hb => hb.1⟩
  exact
  { blk := hb3
    l := (keepSl h.l (by decide) (by decide)).mono hmono
    rows := (keepRows h.rows).mono hmono
    nodup := h.nodup
    g := (keepSl h.g (by decide) (by decide)).mono hmono
    grows := (keepRows h.grows).mono hmono
    apart := h.apart
    lg := h.lg
    b := (hs.chgT hcp (fun k l _ hk e => hk.ne hb2 (by decide) e)).mono (fun b h1 h2 => ⟨h2, h1⟩)
    own := ⟨.inl h.own, hb3.lt⟩
    lt := fun b hb => hb.2 }

theorem Rep.chgN {w w' : World} {p : Nat} {t : Term} {F : Nat → Prop} {lv gv bv : Value} {vs gs : List Value} {bs gb : List Nat} (h : Rep w p t F lv gv bv vs gs bs gb) (hc : Chg Non w w') : Rep w' p t F lv gv bv vs gs bs gb := h.chg hc (fun _ _ h => h)

set_option maxRecDepth 100000 in
set_option maxHeartbeats 2000000 in
theorem byte_high {p : Nat} {w : World} {t : Term} {F : Nat → Prop} {o n : Nat} (h : IsTerm w p t F) (hk : Ok o n t) (hb : t.b.length ≤ 3) (ho : o ≤ 1000000) (hn : n ≤ 10000000) (x : Nat) (hx : x < 256) (h0 : t.ins = 0) (hx8 : 128 ≤ x) :
    Calls Tryz.prog 29 #[.pointer (some ⟨p, 0, none⟩), .int .u8 x] w fun e w' => e = .returned (.tuple #[]) ∧ Turned w p F (drain (t.b.length + 1) { t with b := t.b ++ [(x : Int)] }) w' := by
  have hI := h
  obtain ⟨lv, gv, bv, vs, gs, bs, gb, h⟩ := h
  obtain ⟨Ab, cb, rfl, hb1, hb2⟩ := h.b.shape
  obtain ⟨c0, c1, c2, c3, c4, c5, c6, c7, c8, c9, c10⟩ := h.cells
  rw [h0] at c8
  have f10 := h.frozen 10
  have hpl := h.blk.lt
  have hxI : (128 : Int) ≤ (x : Int) := by omega
  have HB := Lib.hid hb
  have HK := Lib.hid hk
  have hsb := h.b.chg ((Chg.refl Non w).alloc (.cells #[.int .u8 (x : Int)] 5)) (fun _ _ h => h)
  have hnew : Rd (w.alloc (.cells #[.int .u8 (x : Int)] 5)) 1 (.slice (some ⟨w.heap.size, 0, none⟩) 1 1) 1 [.int .u8 (x : Int)] (fun _ => True) := Rd.new _ [_] _ _ (by simp) (by omega)
  have H := Lib.hid h
  have HX := Lib.hid hx
  clear h hI hk c0 c1 c2 c3 c4 c5 c6 c7 c9 hb1 hb2 hx hx8
  obtain ⟨T, hT⟩ : ∃ T, T = drain (t.b.length + 1) { t with b := t.b ++ [(x : Int)] } := ⟨_, rfl⟩
  rw [← hT]
  have HT := Lib.hid hT
  clear hT
  go_enter Tryz.func29, Tryz.ntmps29
  go_wp2_with (refine wpList_append_sl (by rfl) _ _ 34 (by rfl) eiByte (by rfl) hsb (by rfl) hnew (by simp [Value.oneCell']) (by omega) ?_; intro A3 c3 w2 hs3 hc2 hl2 hz2; have hb2 := (H.out.blk.alloc (.cells #[.int .u8 (x : Int)] 5)).chg hc2 (fun hb => absurd (hsb.wbT hb (H.out.blk.alloc _)) (by decide)); have d10 := hb2.cell 10; have df10 := hb2.frozen 10)
  have hT0 : Turned w p F { t with b := t.b ++ [(x : Int)] } (w2.setCell ⟨p, 10, none⟩ (.slice A3 (t.b.length + 1) c3)) := by
    have h1 := Rep.putB (b' := t.b ++ [(x : Int)]) (bv' := .slice A3 (t.b.length + 1) c3) (H.out.chgN ((Chg.refl Non w).alloc (.cells #[.int .u8 (x : Int)] 5))) hc2 (by
      rw [List.length_append, List.map_append]
      exact hs3.mono (fun k _ hk => hk.imp id (fun e => by omega)))
    exact Turned.then ((Chg.refl F w).alloc _) (fun b hb => .inl hb) h1
  have HT0 := Lib.hid hT0
  clear hT0 hsb hnew hs3 hc2 hl2 hz2 hb2 d10 df10
  go_loopg [] (t.b.length + 1) (fun k wr => ∃ t', Turned w p F t' wr ∧ t'.b.length = k ∧ Hid (T = drain k t') ∧ ∃ j, Ok (o + 2 * j) (n + 4 * j) t' ∧ j + k ≤ 4)
  case atStart => exact ⟨_, HT0.out, by simp, HT, 0, { HK.out with b := by show (t.b ++ [(x : Int)]).length ≤ 4; have := HB.out; simp; omega }, by have := HB.out; omega⟩
  case round =>
    obtain ⟨t', ⟨F', hI, hC, hN⟩, hk, hT', j, hK', hj⟩ := hrel
    have hI0 := hI
    obtain ⟨lv, gv, bv, vs, gs, bs, gb, h⟩ := hI
    obtain ⟨Ab', cb', rfl, hb1, hb2⟩ := h.b.shape
    obtain ⟨_, _, _, _, _, _, _, _, _, _, c10'⟩ := h.cells
    have hrd := h.b.rd (G := F') (fun _ h => h)
    have HI := Lib.hid hI0
    have HK' := Lib.hid hK'
    have hlen : t'.b.length ≤ 1000000 := by omega
    have hWh := Sg.Whole_calls hrd hlen
    have Hlen := Lib.hid hlen
    have Hk := Lib.hid (And.intro hk hj)
    have HC := Lib.hid (And.intro hC hN)
    clear h hI0 hK' hC hN c8 c10 hlen hk hj
    cases hw : Sg.wholeR t'.b with
    | false =>
      have Hw := Lib.hid hw
      clear hw
      go_wp2_with fail
      refine hWh.mono ?_
      rintro e w1 ⟨rfl, hc1⟩
      rw [Hw.out]
      go_wp2_with fail
      go_end0
      rw [hT'.out, drain_not Hw.out]
      exact ⟨rfl, Turned.then HC.out.1 HC.out.2 (Turned.same (HI.out.chg hc1 (fun _ _ h => h)) (hc1.mono (fun _ _ h => h.elim)))⟩
    | true =>
      have Hw := Lib.hid hw
      clear hw
      go_wp2_with fail
      refine hWh.mono ?_
      rintro e w1 ⟨rfl, hc1⟩
      rw [Hw.out]
      have c10a := hc1.cell c10' (fun h => h)
      have hNx := Sg.Next_calls (hrd.chg hc1 (fun _ _ _ h => h)) Hlen.out
      obtain ⟨r, hr⟩ : ∃ r, r = (Sg.nxt t'.b).1 := ⟨_, rfl⟩
      obtain ⟨d, hd⟩ : ∃ d, d = (Sg.nxt t'.b).2 := ⟨_, rfl⟩
      rw [← hr, ← hd] at hNx
      have hdi : 1 ≤ d ∧ d ≤ t'.b.length := by rw [hd]; exact nxt_in (whole_pos Hw.out)
      have Hr := Lib.hid (And.intro hr hd)
      clear hr hd hrd
      go_wp2_with fail
      refine hNx.mono ?_
      rintro e w2 ⟨rfl, hc2⟩
      have hI2 := (HI.out.chg hc1 (fun _ _ h => h)).chg hc2 (fun _ _ h => h)
      have hSg := sign_calls hI2 HK'.out (by have := Hk.out; omega) (by have := Hk.out; omega) r
      clear hI2 hNx hWh
      go_wp2_with fail
      refine hSg.mono ?_
      rintro e w3 ⟨rfl, F3, hI3, hC3, hN3⟩
      obtain ⟨lv3, gv3, bv3, vs3, gs3, bs3, gb3, h3⟩ := hI3
      have hb3 := h3.b
      rw [(Kp.sign t' r).b] at hb3
      obtain ⟨ab, hFab, hat⟩ := hb3.pos (by omega)
      obtain ⟨ao, cb3, rfl, g1, g2, _⟩ := hat.cells
      obtain ⟨_, _, _, _, _, _, _, _, _, _, d10⟩ := h3.cells
      have df10 := h3.frozen 10
      have hsl := hb3.drop d hdi.2
      have hP := fun bv' hs => Rep.putB (b' := t'.b.drop d) (bv' := bv') h3 (Chg.refl (wbk (.slice (some ⟨ab, ao, none⟩) t'.b.length cb3)) w3) hs
      have hd1 : (0 : Int) ≤ (d : Int) := by omega
      have hd2 : (d : Int) ≤ (t'.b.length : Int) := by omega
      have hd3 : (t'.b.length : Int) ≤ (cb3 : Int) := by omega
      have htk : (signR t' r).b = t'.b := (Kp.sign t' r).b
      have e1 : { signR t' r with b := t'.b.drop d } = take1 t' := by rw [take1, Hr.out.1, Hr.out.2]
      rw [e1] at hP
      have hlt : (take1 t').b.length = t'.b.length - d := by rw [take1_b, List.length_drop, Hr.out.2]
      have fin : ∀ bv', bv' = Value.slice (if cb3 = d then (some ⟨ab, ao, none⟩ : Option Addr) else Option.map (fun x : Addr => x.add (d * 1)) (some ⟨ab, ao, none⟩)) (t'.b.length - d) (cb3 - d) →
          Turned w p F (take1 t') (w3.setCell ⟨p, 10, none⟩ bv') := fun bv' hbv => by
        subst hbv
        have h5 := hP (Value.slice (if cb3 = d then (some ⟨ab, ao, none⟩ : Option Addr) else Option.map (fun x : Addr => x.add (d * 1)) (some ⟨ab, ao, none⟩)) (t'.b.length - d) (cb3 - d)) (by rw [List.length_drop, List.map_drop]; rw [Nat.mul_one d] at hsl ⊢; exact hsl.mono (fun _ _ hk => .inl hk))
        have h6 := Turned.then hC3 hN3 h5
        exact Turned.then (HC.out.1.thenN (hc1.thenN hc2)) (fun b hb => HC.out.2 b hb) (Turned.then (Chg.refl F' _) (fun b hb => .inl hb) h6)
      have Fin := Lib.hid fin
      have Hlt := Lib.hid hlt
      have Hdi := Lib.hid hdi
      clear h3 hsl hP hC3 hN3 hSg c10a c10' hb3 hat htk e1 fin hlt
      by_cases hcd : cb3 = d
      · have Hcd := Lib.hid hcd
        go_wp2_with fail
        go_roundg (t'.b.length - d)
        case measure => have h7 := Hk.out; have h8 := Hdi.out; omega
        case rel =>
          refine ⟨take1 t', Fin.out _ ?_, Hlt.out, Lib.hid ?_, j + 1, (HK'.out.take1).mono (by omega) (by omega), by have h7 := Hk.out; have h8 := Hdi.out; omega⟩
          · rw [if_pos Hcd.out, Hcd.out, Nat.sub_self]
          · have h7 := Hk.out
            have h9 := hT'.out
            rw [drain_whole Hw.out (by omega)] at h9
            rw [h9]
            have h10 := Hlt.out
            have h8 := Hdi.out
            exact drain_fuel _ _ _ (by omega) (by omega)
      · have Hcd := Lib.hid hcd
        go_wp2_with fail
        go_roundg (t'.b.length - d)
        case measure => have h7 := Hk.out; have h8 := Hdi.out; omega
        case rel =>
          refine ⟨take1 t', Fin.out _ ?_, Hlt.out, Lib.hid ?_, j + 1, (HK'.out.take1).mono (by omega) (by omega), by have h7 := Hk.out; have h8 := Hdi.out; omega⟩
          · rw [if_neg Hcd.out]; simp [add_mid]
          · have h7 := Hk.out
            have h9 := hT'.out
            rw [drain_whole Hw.out (by omega)] at h9
            rw [h9]
            have h10 := Hlt.out
            have h8 := Hdi.out
            exact drain_fuel _ _ _ (by omega) (by omega)

set_option maxRecDepth 100000 in
set_option maxHeartbeats 2000000 in
theorem byte_low {p : Nat} {w : World} {t : Term} {F : Nat → Prop} {o n : Nat} (h : IsTerm w p t F) (hk : Ok o n t) (hb : t.b.length ≤ 3) (ho : o ≤ 1000000) (hn : n ≤ 10000000) (x : Nat) (hx : x < 256) (h0 : t.ins = 0 ∧ x < 128 ∨ t.ins ≠ 0 ∧ x = 27) :
    Calls Tryz.prog 29 #[.pointer (some ⟨p, 0, none⟩), .int .u8 x] w fun e w' => e = .returned (.tuple #[]) ∧ Turned w p F (plainR { signsR t (Sg.runes t.b) with b := [] } x) w' := by
  have hI := h
  obtain ⟨lv, gv, bv, vs, gs, bs, gb, h⟩ := h
  obtain ⟨c0, c1, c2, c3, c4, c5, c6, c7, c8, c9, c10⟩ := h.cells
  have hrd := h.b.rd (G := F) (fun _ h => h)
  have hRn := Sg.Runes_calls hrd (by omega)
  have hr3 : (Sg.runes t.b).length ≤ 3 := Nat.le_trans (Sg.rnsFrom_length _ _ _) hb
  have HR3 := Lib.hid hr3
  have hlt := h.lt
  have hK2 : Ok (o + 6) (n + 12) (signsR t (Sg.runes t.b)) := (hk.signs _).mono (by omega) (by omega)
  have hK3 : Ok (o + 6) (n + 12) { signsR t (Sg.runes t.b) with b := [] } := { hK2 with b := Nat.zero_le _ }
  have HK := Lib.hid hk
  have HK3 := Lib.hid hK3
  have HI := Lib.hid hI
  have Hlt := Lib.hid hlt
  have HX := Lib.hid hx
  obtain ⟨R, hR⟩ : ∃ R, R = Sg.runes t.b := ⟨_, rfl⟩
  rw [← hR] at hRn HR3 HK3 ⊢
  have hin : ∃ (k : Int) (v : Bool), t.ins = k ∧ v = (k == 0) ∧ ((v = true ∧ (x : Int) < 128) ∨ (v = false ∧ x = 27)) := by
    rcases h0 with ⟨h1, h2⟩ | ⟨h1, h2⟩
    · exact ⟨0, true, h1, rfl, .inl ⟨rfl, by omega⟩⟩
    · exact ⟨t.ins, false, rfl, by simpa using h1, .inr ⟨rfl, h2⟩⟩
  obtain ⟨k, v, e1, e2, e3⟩ := hin
  rw [e1] at c8
  clear h hI hk hrd hr3 hlt hK2 hK3 hx c0 c1 c2 c3 c4 c5 c6 c7 c9 hR h0 e1
  have rest : ∀ w1 A' c', Sl w1 21 1 (.slice A' R.length c') R.length (R.map (Value.int .i32)) (fun b => w.heap.size ≤ b) → Chg Non w w1 →
      Calls Tryz.prog 37 #[.pointer (some ⟨p, 0, none⟩), .slice A' R.length c'] w1 fun e w2 => e = .returned (.tuple #[]) ∧ ∃ bv3, w2.cell? ⟨p, 10, none⟩ = some bv3 ∧ w2.frozen? ⟨p, 10, none⟩ = false ∧
        ∃ F3, IsTerm (w2.setCell ⟨p, 10, none⟩ (.slice none 0 0)) p { signsR t R with b := [] } F3 ∧ Chg F w (w2.setCell ⟨p, 10, none⟩ (.slice none 0 0)) ∧ ∀ b, F3 b → F b ∨ w.heap.size ≤ b := fun w1 A' c' hs hc => by
    refine (signs_calls (HI.out.chg hc (fun _ _ h => h)) HK.out (by omega) (by omega) (m := R.length) (by have := HR3.out; omega) (hs.rd (G := fun b => w.heap.size ≤ b) (fun _ h => h)) (fun b hb hf => by have := Hlt.out b hf; omega)).mono ?_
    rintro e w2 ⟨rfl, hT⟩
    obtain ⟨F2, ⟨lv, gv, bv, vs, gs, bs, gb, h⟩, hC, hN⟩ := hT
    have h5 := Rep.putB (b' := []) (bv' := .slice none 0 0) h (Chg.refl _ w2) (Sl.nil _ _ _ _)
    exact ⟨rfl, bv, h.cells.2.2.2.2.2.2.2.2.2.2, h.frozen 10, Turned.then (hc.mono (fun _ _ h => h.elim)) (fun b hb => .inl hb) (Turned.then hC hN h5)⟩
  have Rest := Lib.hid rest
  clear rest
  rcases e3 with ⟨rfl, hlo⟩ | ⟨rfl, rfl⟩
  · have hk0 : k = 0 := by simpa using e2.symm
    subst hk0
    clear e2
    have hlo' : ¬ (128 : Int) ≤ (x : Int) := by omega
    go_enter Tryz.func29, Tryz.ntmps29
    go_wp2_with fail
    refine hRn.mono ?_
    rintro e w1 ⟨A', c', rfl, hs, hc⟩
    go_wp2_with fail
    refine (Rest.out w1 A' c' hs hc).mono ?_
    rintro e w2 ⟨rfl, bv3, d10, f10, F3, hI3, hC3, hN3⟩
    have HI3 := Lib.hid hI3
    clear hI3
    go_wp2_with fail
    refine (plain_calls HI3.out HK3.out (by omega) (by omega) x HX.out).mono ?_
    rintro e w3 ⟨rfl, hT⟩
    go_wp2_with fail
    go_end0
    exact ⟨rfl, Turned.then hC3 hN3 hT⟩
  · have e2' : (k == 0) = false := e2.symm
    clear e2
    go_enter Tryz.func29, Tryz.ntmps29
    go_wp2_with fail
    refine hRn.mono ?_
    rintro e w1 ⟨A', c', rfl, hs, hc⟩
    go_wp2_with fail
    refine (Rest.out w1 A' c' hs hc).mono ?_
    rintro e w2 ⟨rfl, bv3, d10, f10, F3, hI3, hC3, hN3⟩
    have HI3 := Lib.hid hI3
    clear hI3
    go_wp2_with fail
    refine (plain_calls HI3.out HK3.out (by omega) (by omega) 27 (by decide)).mono ?_
    rintro e w3 ⟨rfl, hT⟩
    go_wp2_with fail
    go_end0
    exact ⟨rfl, Turned.then hC3 hN3 hT⟩

theorem seq_one (x : Nat) : (Sg.toB [(x : Int)]).extract 0 1 = ⟨#[UInt8.ofNat x]⟩ := by
  have e : Sg.toB [(x : Int)] = ⟨#[UInt8.ofNat x]⟩ := by simp [Sg.toB]
  rw [e]; rfl
theorem seq_end {w : World} {p : Nat} {t : Term} {F : Nat → Prop} {lv gv bv : Value} {vs gs : List Value} {bs gb : List Nat} (h : Rep w p t F lv gv bv vs gs bs gb) {s s' : ByteArray} (hs : s' = s) {o : Obj} :
    Turned w p F { t with seq := s' } (((w.setCell ⟨p, 9, none⟩ (.string s)).alloc o).drew) := by
  subst hs
  have hc : Chg (fun b => b = p) w (w.setCell ⟨p, 9, none⟩ (.string s')) := (Chg.at0 p w).at_ _ _
  have hI : IsTerm (w.setCell ⟨p, 9, none⟩ (.string s')) p { t with seq := s' } F := ⟨_, _, _, _, _, _, _, h.head (t' := { t with seq := s' }) hc (h.blk.set 9 (.string s')) rfl rfl rfl⟩
  exact Turned.same (hI.chg (((Chg.refl Non _).alloc o).drew) (fun _ _ h => h)) (((chgP h.own hc).alloc o).drew)

set_option maxRecDepth 100000 in
set_option maxHeartbeats 2000000 in
theorem byte_seq {p : Nat} {w : World} {t : Term} {F : Nat → Prop} {o n : Nat} (h : IsTerm w p t F) (hk : Ok o n t) (ho : o ≤ 1000000) (hn : n ≤ 10000000) (hG : Gl w F) (x : Nat) (hx : x < 256) (h0 : t.ins ≠ 0) (h27 : x ≠ 27) :
    Calls Tryz.prog 29 #[.pointer (some ⟨p, 0, none⟩), .int .u8 x] w fun e w' => e = .returned (.tuple #[]) ∧ Turned w p F (byteR t x) w' := by
  have hI := h
  obtain ⟨lv, gv, bv, vs, gs, bs, gb, h⟩ := h
  obtain ⟨c0, c1, c2, c3, c4, c5, c6, c7, c8, c9, c10⟩ := h.cells
  have f8 := h.frozen 8
  have f9 := h.frozen 9
  have hpl := h.blk.lt
  have i0 : (t.ins == 0) = false := by simpa using h0
  have j0 : ((x : Int) == 27) = false := by simp; omega
  have H := Lib.hid h
  have HI := Lib.hid hI
  have HK := Lib.hid hk
  have HG := Lib.hid hG
  have HX := Lib.hid hx
  have H0 := Lib.hid h0
  have H27 := Lib.hid h27
  have e0 : byteR t x = if t.ins = 1 ∧ x = 91 then { t with ins := 2, seq := ByteArray.empty }
      else if t.ins = 2 ∧ 32 ≤ x ∧ x < 64 then { t with seq := seqC t.seq x }
      else if t.ins = 2 ∧ 64 ≤ x ∧ x ≤ 126 then endsR { t with ins := 0 } t.seq x
      else { t with ins := 0 } := by unfold byteR; rw [if_neg (fun h => h0 h.1), if_neg (fun h => h.elim h0 h27)]
  have E0 := Lib.hid e0
  clear h hI hk hG hx h0 h27 e0
  by_cases h1 : t.ins = 1 ∧ x = 91
  · have E1 := Lib.hid (E0.out.trans (if_pos h1))
    obtain ⟨h1, rfl⟩ := h1
    rw [h1] at c8
    have hc1 : Chg (fun b => b = p) w ((w.setCell ⟨p, 8, none⟩ (.int .i64 2)).setCell ⟨p, 9, none⟩ (.string ByteArray.empty)) := ((Chg.at0 p w).at_ _ _).at_ _ _
    have hT := Turned.same (w := w) (F := F) ⟨_, _, _, _, _, _, _, H.out.head (t' := { t with ins := 2, seq := ByteArray.empty }) hc1 ((H.out.blk.set 8 (.int .i64 2)).set 9 (.string ByteArray.empty)) rfl rfl rfl⟩ (chgP H.out.own hc1)
    have HT := Lib.hid hT
    clear hT hc1 i0 h1
    go_enter Tryz.func29, Tryz.ntmps29
    go_wp2_with fail
    go_end0
    rw [E1.out]
    exact ⟨rfl, HT.out⟩
  · have E1 := Lib.hid (E0.out.trans (if_neg h1))
    have hcz : Chg (fun b => b = p) w (w.setCell ⟨p, 8, none⟩ (.int .i64 0)) := (Chg.at0 p w).at_ _ _
    have hIz : IsTerm (w.setCell ⟨p, 8, none⟩ (.int .i64 0)) p { t with ins := 0 } F := ⟨_, _, _, _, _, _, _, H.out.head (t' := { t with ins := 0 }) hcz (H.out.blk.set 8 (.int .i64 0)) rfl rfl rfl⟩
    have HTz := Lib.hid (Turned.same (w := w) (F := F) hIz (chgP H.out.own hcz))
    have HIz := Lib.hid hIz
    have HCz := Lib.hid hcz
    have HGz := Lib.hid (HG.out.1.chg (chgP H.out.own hcz) HG.out.2.1 HG.out.2.2)
    clear hIz hcz
    by_cases k1 : t.ins = 1
    · have h91 : ((x : Int) == 91) = false := by have : x ≠ 91 := fun e => h1 ⟨k1, e⟩; simp; omega
      have E2 : Hid (byteR t x = { t with ins := 0 }) := Lib.hid (by rw [E1.out, if_neg (by rw [k1]; exact fun h => absurd h.1 (by decide)), if_neg (by rw [k1]; exact fun h => absurd h.1 (by decide))])
      rw [k1] at c8
      clear i0 h1 k1
      go_enter Tryz.func29, Tryz.ntmps29
      go_wp2_with fail
      go_end0
      rw [E2.out]
      exact ⟨rfl, HTz.out⟩
    · have i1 : (t.ins == 1) = false := by simpa using k1
      by_cases k2 : t.ins = 2
      · by_cases g1 : 32 ≤ x ∧ x < 64
        · have E2 : Hid (byteR t x = { t with seq := seqC t.seq x }) := Lib.hid (by rw [E1.out, if_pos ⟨k2, g1⟩])
          have l1 : (32 : Int) ≤ (x : Int) := by omega
          have l2 : (x : Int) < 64 := by omega
          rw [k2] at c8
          have hcv : ∀ w2 : World, w2.cell? ⟨w.heap.size, 0, none⟩ = some (.int .u8 (x : Int)) → (convert 34 9 (.slice (some ⟨w.heap.size, 0, none⟩) 1 1)).run Tryz.prog w2 = .ok (.string (Sg.toB [(x : Int)])) w2 := fun w2 hw2 =>
            Sg.run_convert_rd (ns := [(x : Int)]) (G := fun _ => True) Tryz.underlying34 Tryz.underlying5 Tryz.underlying9 ⟨by simp, _, _, rfl, by omega, by unfold maxLen; omega, .inr ⟨_, 0, rfl, trivial, fun j hj => by
              obtain rfl : j = 0 := by omega
              exact hw2⟩⟩
          have hcv1 := hcv (w.alloc (.cells #[.int .u8 (x : Int)] 5)).drew ((Blk.new w.drew [.int .u8 (x : Int)] 5).cell 0)
          have hsz : (Sg.toB [(x : Int)]).size = 1 := Sg.size_toB _
          have hb1 := (H.out.blk.drew).alloc (.cells #[.int .u8 (x : Int)] 5)
          have c9' := hb1.cell 9
          have f9' := hb1.frozen 9
          have hs16 : t.seq.size ≤ 16 := HK.out.seq
          clear i0 i1 h1 k1 k2 hcv
          go_enter Tryz.func29, Tryz.ntmps29
          by_cases hs : t.seq.size < 16
          · have hm : max (min (16 - (t.seq.size : Int)) 1) 0 = 1 := by omega
            go_upto_region 17 with (fail)
            go_region
            go_wp2_with fail
            go_end0
            rw [E2.out]
            exact ⟨rfl, seq_end H.out (by rw [seqC, if_pos hs, seq_one])⟩
          · have hm : max (min (16 - (t.seq.size : Int)) 1) 0 = 0 := by omega
            go_upto_region 17 with (fail)
            go_region
            go_wp2_with fail
            go_end0
            rw [E2.out]
            exact ⟨rfl, seq_end H.out (by rw [seqC, if_neg hs])⟩
        · by_cases g2 : 64 ≤ x ∧ x ≤ 126
          · have E2 : Hid (byteR t x = endsR { t with ins := 0 } t.seq x) := Lib.hid (by rw [E1.out, if_neg (fun h => g1 h.2), if_pos ⟨k2, g2⟩])
            have l1 : (64 : Int) ≤ (x : Int) := by omega
            have l2 : (x : Int) ≤ 126 := by omega
            have l3 : ¬ (x : Int) < 64 := by omega
            have l4 : (32 : Int) ≤ (x : Int) := by omega
            have hs16 : t.seq.size ≤ 1000 := Nat.le_trans HK.out.seq (by decide)
            have hE := ends_calls HIz.out (o := o) (n := n) (t := { t with ins := 0 }) { HK.out with } (by omega) t.seq hs16 HGz.out x HX.out
            rw [k2] at c8
            clear i0 i1 h1 k1 k2 g1 g2 hs16
            go_enter Tryz.func29, Tryz.ntmps29
            go_wp2_with fail
            refine hE.mono ?_
            rintro e w2 ⟨rfl, hT⟩
            go_wp2_with fail
            go_end0
            rw [E2.out]
            exact ⟨rfl, Turned.then (chgP H.out.own HCz.out) (fun b hb => .inl hb) hT⟩
          · have E2 : Hid (byteR t x = { t with ins := 0 }) := Lib.hid (by rw [E1.out, if_neg (fun h => g1 h.2), if_neg (fun h => g2 h.2)])
            rw [k2] at c8
            by_cases m1 : x < 32
            · have l1 : ¬ (32 : Int) ≤ (x : Int) := by omega
              have l2 : ¬ (64 : Int) ≤ (x : Int) := by omega
              clear i0 i1 h1 k1 k2 g1 g2 m1
              go_enter Tryz.func29, Tryz.ntmps29
              go_wp2_with fail
              go_end0
              rw [E2.out]
              exact ⟨rfl, HTz.out⟩
            · have l1 : (32 : Int) ≤ (x : Int) := by omega
              have l2 : ¬ (x : Int) < 64 := by omega
              have l3 : (64 : Int) ≤ (x : Int) := by omega
              have l4 : ¬ (x : Int) ≤ 126 := by omega
              clear i0 i1 h1 k1 k2 g1 g2 m1
              go_enter Tryz.func29, Tryz.ntmps29
              go_wp2_with fail
              go_end0
              rw [E2.out]
              exact ⟨rfl, HTz.out⟩
      · have i2 : (t.ins == 2) = false := by simpa using k2
        have E2 : Hid (byteR t x = { t with ins := 0 }) := Lib.hid (by rw [E1.out, if_neg (fun h => k2 h.1), if_neg (fun h => k2 h.1)])
        clear h1 k1 k2
        go_enter Tryz.func29, Tryz.ntmps29
        go_wp2_with fail
        go_end0
        rw [E2.out]
        exact ⟨rfl, HTz.out⟩
theorem byte_calls {p : Nat} {w : World} {t : Term} {F : Nat → Prop} {o n : Nat} (h : IsTerm w p t F) (hk : Ok o n t) (hb : t.b.length ≤ 3) (ho : o ≤ 1000000) (hn : n ≤ 10000000) (hG : Gl w F) (x : Nat) (hx : x < 256) :
    Calls Tryz.prog 29 #[.pointer (some ⟨p, 0, none⟩), .int .u8 x] w fun e w' => e = .returned (.tuple #[]) ∧ Turned w p F (byteR t x) w' := by
  by_cases h0 : t.ins = 0
  · by_cases h1 : 128 ≤ x
    · have e : byteR t x = drain (t.b.length + 1) { t with b := t.b ++ [(x : Int)] } := by unfold byteR; rw [if_pos ⟨h0, h1⟩]
      rw [e]
      exact byte_high h hk hb ho hn x hx h0 h1
    · have e : byteR t x = plainR { signsR t (Sg.runes t.b) with b := [] } x := by unfold byteR; rw [if_neg (fun h => h1 h.2), if_pos (.inl h0)]
      rw [e]
      exact byte_low h hk hb ho hn x hx (.inl ⟨h0, by omega⟩)
  · by_cases h1 : x = 27
    · have e : byteR t x = plainR { signsR t (Sg.runes t.b) with b := [] } x := by unfold byteR; rw [if_neg (fun h => h0 h.1), if_pos (.inr h1)]
      rw [e]
      exact byte_low h hk hb ho hn x hx (.inr ⟨h0, h1⟩)
    · exact byte_seq h hk ho hn hG x hx h0 h1

/-- Feed takes bytes. -/
theorem Feed_calls {p : Nat} {w : World} {t : Term} {F : Nat → Prop} {o n : Nat} (h : IsTerm w p t F) (hk : Fed o n t) (hG : Gl w F) {v : Value} {m : Nat} {l : List Int} {G : Nat → Prop} (ho : o + 8 * m ≤ 1000000) (hn : n + 16 * m ≤ 10000000)
    (hl : ∀ x ∈ l, 0 ≤ x ∧ x < 256) (hr : Rd w 1 v m (l.map (Value.int .u8)) G) (hGF : ∀ b, G b → ¬ F b) :
    Calls Tryz.prog 17 #[.pointer (some ⟨p, 0, none⟩), v] w fun e w' => e = .returned (.tuple #[]) ∧ Turned w p F (feedR t l) w' := by
  have hlen := hr.length
  rw [List.length_map, Nat.mul_one] at hlen
  obtain ⟨A, c, rfl, h2, h3⟩ := hr.shape
  unfold maxLen at h3
  have HI := Lib.hid h
  have HK := Lib.hid hk
  have HR := Lib.hid hr
  have HL := Lib.hid hlen
  have HG := Lib.hid hG
  have Hl := Lib.hid hl
  have HO := Lib.hid (And.intro ho hn)
  have hm : m ≤ 1000000 := by omega
  clear h hk hr hlen hG hl ho hn
  go_enter Tryz.func17, Tryz.ntmps17
  go_wp2
  go_loopw [8] (fun i wr => ∃ k : Nat, i = .int .i64 k ∧ k ≤ m ∧ Turned w p F (feedR t (l.take k)) wr) (fun i _ => m - (intOf i).toNat)
  case atStart => exact ⟨0, rfl, Nat.zero_le _, Turned.same HI.out (Chg.refl _ _)⟩
  case round =>
    obtain ⟨k, rfl, hk, hT⟩ := hrel
    by_cases hlt : k < m
    · have hlt' : (k : Int) < (m : Int) := by omega
      obtain ⟨lb, lo, rfl, hGb, hcell⟩ := HR.out.pos (by omega)
      obtain ⟨F1, hI1, hC1, hN1⟩ := hT
      obtain ⟨x, hx⟩ : ∃ x, l[k]? = some x := ⟨l[k]'(by have := HL.out; omega), List.getElem?_eq_getElem _⟩
      obtain ⟨y, rfl⟩ : ∃ y : Nat, x = y := ⟨x.toNat, by have := Hl.out x (List.mem_of_getElem? hx); omega⟩
      have hy : y < 256 := by have := Hl.out y (List.mem_of_getElem? hx); omega
      have c1 : wr.cell? ⟨lb, lo + k, none⟩ = some (.int .u8 (y : Int)) := hC1.cell (by rw [hcell k (by omega), List.getElem?_map, hx]; rfl) (hGF lb hGb)
      have hk1 := Fed.feed (l.take k) HK.out
      have hle : (l.take k).length ≤ m := by rw [List.length_take]; omega
      have hb := byte_calls hI1 hk1.ok hk1.b (by have := HO.out; omega) (by have := HO.out; omega) (HG.out.turn hC1 hN1) y hy
      have HX := Lib.hid hx
      have Hb := Lib.hid hb
      have HC := Lib.hid (And.intro hC1 hN1)
      clear hcell hI1 hk1 hx hb hC1 hN1 hle
      go_wp2_with fail
      refine Hb.out.mono ?_
      rintro e w1 ⟨rfl, hT1⟩
      go_wp2_with fail
      go_roundw
      case rel =>
        refine ⟨k + 1, by go_num, by omega, ?_⟩
        have e : l.take (k + 1) = l.take k ++ [(y : Int)] := by rw [List.take_add_one, HX.out]; rfl
        rw [e, feedR_append]
        exact Turned.then HC.out.1 HC.out.2 hT1
      case measure => simp [intOf]; omega
    · have hge : ¬ (k : Int) < (m : Int) := by omega
      go_wp2_with fail
      go_end0
      have e : l.take k = l := List.take_of_length_le (by have := HL.out; omega)
      rw [e] at hT
      exact ⟨rfl, hT⟩
end T
end Go.Proofs.YtoegjmeoeefllaaGreatDoor
