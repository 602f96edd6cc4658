/- What stands behind the steps of Resize. -/
import Derived.Test.YtoegjmeoeefllaaGreatDoorTermV
namespace Go.Proofs.YtoegjmeoeefllaaGreatDoor
open Go Go.RowKit
namespace T

theorem sl_chgW {w w' : World} {E sz n : Nat} {v : Value} {cs : List Value} {F G : Nat → Prop} (h : Sl w E sz v n cs F) (hc : Chg G w w') (hn : ∀ b, wbk v b → ¬ G b) : Sl w' E sz v n cs F := by
  refine ⟨h.1, ?_⟩
  rcases h.2 with h2 | ⟨b, hb, h2⟩
  · exact .inl h2
  · obtain ⟨o, cap, l, rfl, hl, h3, h4, h5⟩ := id h2
    by_cases h0 : cap = 0
    · have hn0 : n = 0 := by omega
      subst h0; subst hn0
      exact .inl ⟨_, rfl, rfl⟩
    · exact .inr ⟨b, hb, h2.chg hc (hn b ⟨_, _, _, rfl, by omega, rfl⟩)⟩
theorem wbk_own {A : Option Addr} {n c b : Nat} {lb lo : Nat} (hA : A = some ⟨lb, lo, none⟩) (h : wbk (.slice A n c) b) : b = lb := by
  obtain ⟨A', _, _, hv, _, e⟩ := h
  subst hA
  injection hv with e1 _ _
  injection e1 with e1
  subst e1; exact e.symm

section
variable {w w2 : World} {p : Nat} {t t' : Term} {F G : Nat → Prop} {lv gv bv lv' gv' : Value} {vs gs vs' gs' : List Value} {bs gb bs' gb' : List Nat}

theorem Rep.renew (h : Rep w p t F lv gv bv vs gs bs gb)
    (hc : Chg G w w2) (hG : ∀ b, b < w.heap.size → G b → b = p ∨ wbk lv b ∨ wbk gv b ∨ b ∈ bs)
    (hb : Blk w2 p (headC t' lv' gv' bv) 57) (hbb : t'.b = t.b)
    (hl : Sl w2 29 1 lv' t'.l.length vs' (fun b => F b ∨ w.heap.size ≤ b)) (hrows : RowsIn w2 t'.l vs' bs' (fun b => F b ∨ w.heap.size ≤ b)) (hnd : bs'.Nodup)
    (hg : Sl w2 29 1 gv' t'.gone.length gs' (fun b => F b ∨ w.heap.size ≤ b)) (hgr : RowsIn w2 t'.gone gs' gb' (fun b => F b ∨ w.heap.size ≤ b)) (hap : ∀ b, b ∈ bs' → b ∉ gb') (hlg : ∀ b, wbk lv' b → ¬ wbk gv' b) :
    Rep w2 p t' (fun b => (F b ∨ w.heap.size ≤ b) ∧ b < w2.heap.size) lv' gv' bv vs' gs' bs' gb' ∧ Chg F w w2 := by
  have hF : Chg F w w2 := hc.mono (fun b hb hg => by
    rcases hG b hb hg with rfl | h1 | h1 | h1
    · exact h.own
    · exact h.l.wbF' h1
    · exact h.g.wbF' h1
    · exact h.rows.F h1)
  have hmono : ∀ b, b < w2.heap.size → (F b ∨ w.heap.size ≤ b) → (F b ∨ w.heap.size ≤ b) ∧ b < w2.heap.size := fun b h1 h2 => ⟨h2, h1⟩
  have hB := h.b.chgT hc (fun k l _ hl hg => by
    rcases hG k hl.lt hg with rfl | h1 | h1 | h1
    · exact hl.ne h.blk (by decide) rfl
    · exact absurd (h.l.wbT h1 hl) (by decide)
    · exact absurd (h.g.wbT h1 hl) (by decide)
    · obtain ⟨l', hl'⟩ := h.rows.blk h1; exact hl.ne hl' (by decide) rfl)
  exact ⟨{ blk := hb, l := hl.mono hmono, rows := hrows.mono hmono, nodup := hnd, g := hg.mono hmono, grows := hgr.mono hmono, apart := hap, lg := hlg,
           b := by rw [hbb]; exact hB.mono (fun b h1 h2 => ⟨.inl h2, h1⟩), own := ⟨.inl h.own, hb.lt⟩, lt := fun b hb => hb.2 }, hF⟩

/-- The rows are others. -/
theorem Rep.newL (h : Rep w p t F lv gv bv vs gs bs gb) {l' : List (List Cell)}
    (hc : Chg G w w2) (hG : ∀ b, b < w.heap.size → G b → b = p ∨ wbk lv b ∨ b ∈ bs)
    (hb : Blk w2 p (headC t lv' gv bv) 57)
    (hl : Sl w2 29 1 lv' l'.length vs' (fun b => F b ∨ w.heap.size ≤ b)) (hrows : RowsIn w2 l' vs' bs' (fun b => F b ∨ w.heap.size ≤ b)) (hnd : bs'.Nodup)
    (hap : ∀ b, b ∈ bs' → w.heap.size ≤ b ∨ b ∈ bs) (hlg : ∀ b, wbk lv' b → w.heap.size ≤ b ∨ wbk lv b) :
    Rep w2 p { t with l := l' } (fun b => (F b ∨ w.heap.size ≤ b) ∧ b < w2.heap.size) lv' gv bv vs' gs bs' gb ∧ Chg F w w2 := by
  have hg := (sl_chgW h.g hc (fun b hw hg => by
    have hlt := h.lt b (h.g.wbF' hw)
    rcases hG b hlt hg with rfl | h1 | h1
    · exact absurd (h.g.wbT hw h.blk) (by decide)
    · exact h.lg b h1 hw
    · obtain ⟨l', hl'⟩ := h.rows.blk h1; exact absurd (h.g.wbT hw hl') (by decide))).mono (G := fun b => F b ∨ w.heap.size ≤ b) (fun _ _ h => .inl h)
  have hgr := (h.grows.chg hc (fun b hb hg => by
    obtain ⟨l0, hl0⟩ := h.grows.blk hb
    rcases hG b hl0.lt hg with rfl | h1 | h1
    · exact hl0.ne h.blk (by decide) rfl
    · exact absurd (h.l.wbT h1 hl0) (by decide)
    · exact h.apart b h1 hb)).mono (G := fun b => F b ∨ w.heap.size ≤ b) (fun _ _ h => .inl h)
  exact h.renew (t' := { t with l := l' }) hc (fun b h1 h2 => by rcases hG b h1 h2 with h | h | h; exact .inl h; exact .inr (.inl h); exact .inr (.inr (.inr h))) hb rfl hl hrows hnd hg hgr
    (fun b hb hb' => by
      rcases hap b hb with h1 | h1
      · have := h.grows.lt hb'; omega
      · exact h.apart b h1 hb')
    (fun b hb hb' => by
      rcases hlg b hb with h1 | h1
      · have := h.lt b (h.g.wbF' hb'); omega
      · exact h.lg b h1 hb')
end

/-- A row has gone off. -/
theorem shift_end {p : Nat} {w wc w7 : World} {t : Term} {F : Nat → Prop} {lb lo cap rb ro rc cg ab ao c2 d : Nat} {Ag : Option Addr} {bv : Value} {vs gs lB : List Value} {bs gb : List Nat}
    (h : Rep w p t F (.slice (some ⟨lb, lo, none⟩) t.l.length cap) (.slice Ag t.gone.length cg) bv vs gs bs gb) (hl2 : 2 ≤ t.l.length)
    (g4 : vs[0]? = some (.slice (some ⟨rb, ro, none⟩) (rowAt t.l 0).length rc)) (g5 : bs[0]? = some rb)
    (hC : Chg (fun x => x = p ∨ wbk (.slice Ag t.gone.length cg) x) w wc)
    (hFab : F ab ∨ w.heap.size ≤ ab) (hat : SlAt wc 29 1 (.slice (some ⟨ab, ao, none⟩) (t.gone.length + 1) c2) (t.gone.length + 1) (gs ++ [.slice (some ⟨rb, ro, none⟩) (rowAt t.l 0).length rc]) ab)
    (hL : ∀ b, wbk (.slice (some ⟨ab, ao, none⟩) (t.gone.length + 1) c2) b → wbk (.slice Ag t.gone.length cg) b ∨ w.heap.size ≤ b)
    (hd : d = t.gone.length + 1 - 1000) (hC7 : Chg (fun x => x = p) wc w7) (hB : Blk wc p lB 57)
    (hb7 : Blk w7 p (headC (shift1 t) (.slice (some ⟨lb, lo + 1, none⟩) (t.l.length - 1) (cap - 1)) (.slice (some ⟨ab, ao + d, none⟩) (t.gone.length + 1 - d) (c2 - d)) bv) 57) :
    Turned w p F (shift1 t) w7 := by
  have hcap : t.gone.length + 1 ≤ c2 := by obtain ⟨_, _, _, hv, _, h1, _⟩ := hat; injection hv with _ _ e; omega
  have hgl : (shift1 t).gone.length = t.gone.length + 1 - d := by simp [shift1, keep, hd]
  have hll : (shift1 t).l.length = t.l.length - 1 := by show (t.l.drop 1).length = _; rw [List.length_drop]
  have hlat : SlAt w 29 1 (.slice (some ⟨lb, lo, none⟩) t.l.length cap) t.l.length vs lb := by
    obtain ⟨b, hF, hat0⟩ := h.l.pos (by omega)
    have e := hat0.own; injection e with e; subst e
    exact hat0
  have hlcap : t.l.length ≤ cap := by obtain ⟨_, _, _, hv, _, h1, _⟩ := hlat; injection hv with _ _ e; omega
  have hwl : wbk (.slice (some ⟨lb, lo, none⟩) t.l.length cap) lb := ⟨_, _, _, rfl, by omega, rfl⟩
  have hlb : lb < w.heap.size := h.lt _ (h.l.wbF' hwl)
  have hl7 : SlAt w7 29 1 (.slice (some ⟨lb, lo, none⟩) t.l.length cap) t.l.length vs lb :=
    (hlat.chg hC (by
      rintro (e | h1)
      · exact hlat.neBlk h.blk (by decide) e
      · exact h.lg _ hwl h1)).chg hC7 (fun e => hlat.neBlk h.blk (by decide) e)
  have hl8 := hl7.drop 1 (by omega) (by omega)
  simp only [Option.map_some, add_mid, Nat.mul_one] at hl8
  have ne8 : ∀ {w : World} {b : Nat} {l l' : List Value}, Blk w b l 32 → Blk w b l' 57 → False := fun h h' => absurd rfl (h.ne h' (by decide))
  have hX : Chg (fun x => x = p ∨ wbk (.slice Ag t.gone.length cg) x) w w7 := hC.then (hC7.mono (fun _ _ e => .inl e))
  have keepRows : ∀ {rows : List (List Cell)} {us : List Value} {ks : List Nat}, RowsIn w rows us ks F → RowsIn w7 rows us ks F := fun {rows us ks} hr =>
    hr.chgT hX (fun b l _ hl hb => by rcases hb with e | hb; exact ne8 hl (e ▸ h.blk); exact absurd (h.g.wbT hb hl) (by decide))
  have hR := keepRows h.rows
  have hGr := keepRows h.grows
  have hat7 := hat.chg hC7 (fun e => by obtain ⟨_, _, l, _, hl, _⟩ := hat; exact absurd rfl (hl.ne (e ▸ hB) (by decide)))
  have hg7 := hat7.drop d (by omega) (by omega)
  simp only [Option.map_some, add_mid, Nat.mul_one] at hg7
  have hrow0 : SlAt w7 32 3 (.slice (some ⟨rb, ro, none⟩) (rowAt t.l 0).length rc) (rowAt t.l 0).length (flat (rowAt t.l 0)) rb := by
    obtain ⟨u, b, e1, e2, e3, _⟩ := hR.2.2 0 (by omega)
    rw [g4] at e1; rw [g5] at e2
    injection e1 with e1; injection e2 with e2
    rw [e1, e2]; exact e3
  have hFrb : F rb := h.rows.F (List.mem_of_getElem? g5)
  have hrb1 : rb ∉ bs.drop 1 := by
    have hn := h.nodup
    cases bs with
    | nil => simp at g5
    | cons x xs => simp at g5; subst g5; simpa using (List.nodup_cons.1 hn).1
  have eg : (shift1 t).gone = (t.gone ++ [rowAt t.l 0]).drop d := by
    have e2 : (t.gone ++ [rowAt t.l 0]).length = t.gone.length + 1 := by simp
    rw [hd, ← e2]; simp only [shift1, keep]
  obtain ⟨hRep, hF⟩ := h.renew (t' := shift1 t) (vs' := vs.drop 1) (bs' := bs.drop 1) (gs' := (gs ++ [Value.slice (some ⟨rb, ro, none⟩) (rowAt t.l 0).length rc]).drop d) (gb' := (gb ++ [rb]).drop d) hX
    (fun b _ hb => by rcases hb with e | hb; exact .inl e; exact .inr (.inr (.inl hb))) hb7 rfl (by rw [hll]; exact Sl.of hl8 (.inl (h.l.wbF' hwl))) ((hR.drop 1).mono (fun _ _ h => .inl h)) (h.nodup.sublist (List.drop_sublist 1 bs))
    (by rw [hgl]; exact Sl.of hg7 hFab) (by rw [eg]; exact ((hGr.snoc hrow0 hFrb).mono (fun _ _ h => .inl h)).drop d)
    (fun b hb hb' => by
      have hb2 := List.mem_of_mem_drop hb'
      rw [List.mem_append, List.mem_singleton] at hb2
      rcases hb2 with hb2 | rfl
      · exact h.apart b (List.mem_of_mem_drop hb) hb2
      · exact hrb1 hb)
    (fun b hb hb' => by
      obtain rfl := wbk_own rfl hb
      obtain e := wbk_own rfl hb'
      subst e
      rcases hL _ ⟨_, _, _, rfl, by omega, rfl⟩ with h1 | h1
      · exact h.lg _ hwl h1
      · have h2 : b < w.heap.size := hlb; have h3 : w.heap.size ≤ b := h1; omega)
  exact ⟨_, ⟨_, _, _, _, _, _, _, hRep⟩, hF, fun b hb => hb.1⟩

theorem RowsIn.take {w : World} {rows : List (List Cell)} {vs : List Value} {bs : List Nat} {F : Nat → Prop} (h : RowsIn w rows vs bs F) (i : Nat) : RowsIn w (rows.take i) (vs.take i) (bs.take i) F := by
  refine ⟨by simp [h.1], by simp [h.2.1], fun k hk => ?_⟩
  rw [List.length_take] at hk
  obtain ⟨u, b, h1, h2, h3, h4⟩ := h.2.2 k (by omega)
  have e : rowAt (rows.take i) k = rowAt rows k := by simp [rowAt, List.getD, show k < i by omega]
  refine ⟨u, b, by rw [List.getElem?_take, if_pos (by omega)]; exact h1, by rw [List.getElem?_take, if_pos (by omega)]; exact h2, ?_, h4⟩
  rw [e]; exact h3
theorem nodup_set : ∀ {l : List Nat} {k a : Nat}, l.Nodup → a ∉ l → (l.set k a).Nodup
  | [], _, _, h, _ => by simp
  | x :: l, 0, a, h, ha => by
    rw [List.set_cons_zero, List.nodup_cons]
    exact ⟨fun h1 => ha (List.mem_cons_of_mem _ h1), (List.nodup_cons.1 h).2⟩
  | x :: l, k + 1, a, h, ha => by
    rw [List.set_cons_succ, List.nodup_cons]
    refine ⟨fun h1 => ?_, nodup_set (List.nodup_cons.1 h).2 (fun h1 => ha (List.mem_cons_of_mem _ h1))⟩
    rcases List.mem_or_eq_of_mem_set h1 with h1 | h1
    · exact (List.nodup_cons.1 h).1 h1
    · exact ha (by rw [← h1]; simp)
theorem splice_one (l : List Value) (i : Nat) (v : Value) (h : i < l.length) : splice l i [v] = l.set i v := by rw [splice_cons l i v [] h, splice_nil]

/-- A row has been fitted. -/
theorem fit_end {p : Nat} {w w4 : World} {t : Term} {F : Nat → Prop} {lb lo cap rb c4 : Nat} {A4 : Option Addr} {gv bv : Value} {vs gs : List Value} {bs gb : List Nat} {k : Nat} {r' : List Cell}
    (h : Rep w p t F (.slice (some ⟨lb, lo, none⟩) t.l.length cap) gv bv vs gs bs gb) (hk : k < t.l.length) (hb : bs[k]? = some rb)
    (hc4 : Chg (fun b => b = rb) w w4) (hs4 : Sl w4 32 3 (.slice A4 r'.length c4) r'.length (flat r') (fun b => b = rb ∨ w.heap.size ≤ b)) (hpos : 0 < r'.length) :
    ∃ vs' bs' F', Rep (w4.setCell ⟨lb, lo + k, none⟩ (.slice A4 r'.length c4)) p { t with l := t.l.set k r' } F' (.slice (some ⟨lb, lo, none⟩) t.l.length cap) gv bv vs' gs bs' gb ∧
      Chg F w (w4.setCell ⟨lb, lo + k, none⟩ (.slice A4 r'.length c4)) ∧ (∀ b, F' b → F b ∨ w.heap.size ≤ b) ∧ vs'.drop (k + 1) = vs.drop (k + 1) ∧ bs'.drop (k + 1) = bs.drop (k + 1) := by
  have hlat : SlAt w 29 1 (.slice (some ⟨lb, lo, none⟩) t.l.length cap) t.l.length vs lb := by
    obtain ⟨b, hF, hat0⟩ := h.l.pos (by omega)
    have e := hat0.own; injection e with e; subst e
    exact hat0
  have hlcap : t.l.length ≤ cap := by obtain ⟨_, _, _, hv, _, h1, _⟩ := hlat; injection hv with _ _ e; omega
  have hwl : wbk (.slice (some ⟨lb, lo, none⟩) t.l.length cap) lb := ⟨_, _, _, rfl, by omega, rfl⟩
  have hrbm : rb ∈ bs := List.mem_of_getElem? hb
  obtain ⟨l0, hl0⟩ := h.rows.blk hrbm
  have hlr : lb ≠ rb := fun e => hlat.neBlk hl0 (by decide) e
  obtain ⟨nb, hnb, hnat⟩ := hs4.pos hpos
  have hlat4 := hlat.chg hc4 hlr
  have hvl : vs.length = t.l.length := h.rows.1
  have hbl : bs.length = t.l.length := h.rows.2.1
  have hc5 : Chg (fun b => b = lb) w4 (w4.setCell ⟨lb, lo + k, none⟩ (.slice A4 r'.length c4)) := (Chg.at0 lb w4).at_ _ _
  have hlat5 : SlAt (w4.setCell ⟨lb, lo + k, none⟩ (.slice A4 r'.length c4)) 29 1 (.slice (some ⟨lb, lo, none⟩) t.l.length cap) t.l.length (vs.set k (.slice A4 r'.length c4)) lb := by
    obtain ⟨o, cp, l, hv, hbl, q1, q2, q3, q4⟩ := id hlat4
    injection hv with e1 _ e3
    injection e1 with e1; injection e1 with _ e1 _; subst e1 e3
    have := hlat4.store hbl (i := k) (cells := [.slice A4 r'.length c4]) (by simp; omega) (w' := w4.setCell ⟨lb, lo + k, none⟩ (.slice A4 r'.length c4)) (by rw [splice_one _ _ _ (by omega)]; exact hbl.set (lo + k) _)
    rw [splice_one _ _ _ (by omega)] at this
    exact this
  have hX : Chg (fun b => b = lb ∨ b = rb) w (w4.setCell ⟨lb, lo + k, none⟩ (.slice A4 r'.length c4)) := (hc4.mono (fun _ _ e => .inr e)).then (hc5.mono (fun _ _ e => .inl e))
  have hnat5 := hnat.chg hc5 (fun e => by
    obtain ⟨_, _, l, _, hl, _⟩ := hlat4
    exact hnat.neBlk (e ▸ hl) (by decide) rfl)
  have hrows : RowsIn (w4.setCell ⟨lb, lo + k, none⟩ (.slice A4 r'.length c4)) (t.l.set k r') (vs.set k (.slice A4 r'.length c4)) (bs.set k nb) (fun b => F b ∨ w.heap.size ≤ b) := by
    refine ⟨by simp [hvl], by simp [hbl], fun j hj => ?_⟩
    rw [List.length_set] at hj
    by_cases e : j = k
    · subst e
      refine ⟨_, nb, by rw [List.getElem?_set_self (by omega)], by rw [List.getElem?_set_self (by omega)], ?_, ?_⟩
      · have e2 : rowAt (t.l.set j r') j = r' := by simp [rowAt, List.getD, hj]
        rw [e2]; exact hnat5
      · rcases hnb with e | e
        · exact .inl (e ▸ h.rows.F hrbm)
        · exact .inr e
    · obtain ⟨u, b, h1, h2, h3, h4⟩ := h.rows.2.2 j hj
      have e3 : rowAt (t.l.set k r') j = rowAt t.l j := by simp [rowAt, List.getD, Ne.symm e]
      refine ⟨u, b, by rw [List.getElem?_set_ne (Ne.symm e)]; exact h1, by rw [List.getElem?_set_ne (Ne.symm e)]; exact h2, ?_, .inl h4⟩
      rw [e3]
      refine h3.chg hX ?_
      rintro (e5 | e5)
      · obtain ⟨_, _, l, _, hl, _⟩ := hlat
        exact h3.neBlk (e5 ▸ hl) (by decide) rfl
      · subst e5
        obtain ⟨hj1, hj2⟩ := List.getElem?_eq_some_iff.1 h2
        obtain ⟨hk1, hk2⟩ := List.getElem?_eq_some_iff.1 hb
        exact e ((List.getElem_inj h.nodup).1 (hj2.trans hk2.symm))
  have hnd : (bs.set k nb).Nodup := by
    rcases hnb with e | e
    · subst e
      obtain ⟨hk1, hk2⟩ := List.getElem?_eq_some_iff.1 hb
      rw [← hk2, List.set_getElem_self]; exact h.nodup
    · exact nodup_set h.nodup (fun hm => by have := h.rows.lt hm; omega)
  have hbp : Blk (w4.setCell ⟨lb, lo + k, none⟩ (.slice A4 r'.length c4)) p (headC t (.slice (some ⟨lb, lo, none⟩) t.l.length cap) gv bv) 57 := h.blk.chg hX (by
    rintro (e | e)
    · exact hlat.neBlk h.blk (by decide) e.symm
    · exact hl0.ne h.blk (by decide) e.symm)
  obtain ⟨hRep, hF⟩ := h.newL (l' := t.l.set k r') hX (fun b _ hb => by rcases hb with rfl | rfl; exact .inr (.inl hwl); exact .inr (.inr hrbm)) hbp (by rw [List.length_set]; exact Sl.of hlat5 (.inl (h.l.wbF' hwl))) hrows hnd
    (fun b hb => by
      rcases List.mem_or_eq_of_mem_set hb with h1 | rfl
      · exact .inr h1
      · rcases hnb with rfl | e
        · exact .inr hrbm
        · exact .inl e) (fun b hb => .inr hb)
  exact ⟨_, _, _, hRep, hF, fun b hb => hb.1, by rw [List.drop_set_of_lt (by omega)], by rw [List.drop_set_of_lt (by omega)]⟩

/-- A row more stands at the end. -/
theorem snoc_end {p : Nat} {w w1 w2 : World} {t : Term} {F : Nat → Prop} {c1 c2 : Nat} {A1 A2 : Option Addr} {lv gv bv : Value} {vs gs : List Value} {bs gb : List Nat} {r : List Cell}
    (h : Rep w p t F lv gv bv vs gs bs gb) (hu : Sl w1 32 3 (.slice A1 r.length c1) r.length (flat r) (fun b => w.heap.size ≤ b)) (hc1 : Chg Non w w1) (hpos : 0 < r.length)
    (hs2 : Sl w2 29 1 (.slice A2 (t.l.length + 1) c2) (t.l.length + 1) (vs ++ [.slice A1 r.length c1]) (fun b => F b ∨ b = (w1.alloc (.cells #[.slice A1 r.length c1] 29)).heap.size))
    (hc2 : Chg (wbk lv) (w1.alloc (.cells #[.slice A1 r.length c1] 29)) w2) (hL : Lies (w1.alloc (.cells #[.slice A1 r.length c1] 29)) lv (.slice A2 (t.l.length + 1) c2)) :
    Turned w p F { t with l := t.l ++ [r] } (w2.setCell ⟨p, 1, none⟩ (.slice A2 (t.l.length + 1) c2)) := by
  have s1 := hc1.size
  have s2 := hc2.size
  have sA : (w1.alloc (.cells #[.slice A1 r.length c1] 29)).heap.size = w1.heap.size + 1 := by simp
  rw [sA] at s2
  have h1 := h.chgN (hc1.alloc (.cells #[.slice A1 r.length c1] 29))
  have hb2 := h1.blk.chg hc2 (fun hb => absurd (h1.l.wbT hb h1.blk) (by decide))
  have hb3 : Blk (w2.setCell ⟨p, 1, none⟩ (.slice A2 (t.l.length + 1) c2)) p (headC t (.slice A2 (t.l.length + 1) c2) gv bv) 57 := hb2.set 1 _
  have hcp := (Chg.at0 p w2).at_ 1 (.slice A2 (t.l.length + 1) c2)
  have hX : Chg (fun b => b = p ∨ wbk lv b) w (w2.setCell ⟨p, 1, none⟩ (.slice A2 (t.l.length + 1) c2)) :=
    (((hc1.alloc _).mono (fun _ _ h => h.elim)).then (hc2.mono (fun _ _ h => .inr h))).then (hcp.mono (fun _ _ h => .inl h))
  obtain ⟨nb, hnb, hat⟩ := hu.pos hpos
  have hnlt := hat.lt
  have hat3 : SlAt (w2.setCell ⟨p, 1, none⟩ (.slice A2 (t.l.length + 1) c2)) 32 3 (.slice A1 r.length c1) r.length (flat r) nb := by
    have q1 := hat.chg ((Chg.refl Non w1).alloc (.cells #[.slice A1 r.length c1] 29)) (fun h => h)
    have q2 := q1.chg hc2 (fun hb => by obtain ⟨_, _, l, _, hl, _⟩ := q1; exact absurd (h1.l.wbT hb hl) (by decide))
    exact q2.chg hcp (fun e => by obtain ⟨_, _, l, _, hl, _⟩ := q2; exact absurd rfl (hl.ne (e ▸ hb2) (by decide)))
  have hrows : RowsIn (w2.setCell ⟨p, 1, none⟩ (.slice A2 (t.l.length + 1) c2)) (t.l ++ [r]) (vs ++ [.slice A1 r.length c1]) (bs ++ [nb]) (fun b => F b ∨ w.heap.size ≤ b) :=
    ((h.rows.chgT hX (fun b l _ hl hb => by
      rcases hb with e | hb
      · exact absurd rfl (hl.ne (e ▸ h.blk) (by decide))
      · exact absurd (h.l.wbT hb hl) (by decide))).mono (G := fun b => F b ∨ w.heap.size ≤ b) (fun _ _ h => .inl h)).snoc hat3 (.inr hnb)
  obtain ⟨hRep, hF⟩ := h.newL (l' := t.l ++ [r]) hX (fun b _ hb => by rcases hb with e | hb; exact .inl e; exact .inr (.inl hb)) hb3
    (by rw [List.length_append]; exact (hs2.chgT hcp (fun k l _ hk e => hk.ne hb2 (by decide) e)).mono (fun b _ h => h.imp id (fun e => by omega))) hrows
    (by rw [List.nodup_append]; exact ⟨h.nodup, by simp, fun x hx y hy e => by have := h.rows.lt hx; simp at hy; omega⟩)
    (fun b hb => by
      rw [List.mem_append, List.mem_singleton] at hb
      rcases hb with hb | rfl
      · exact .inr hb
      · exact .inl hnb)
    (fun b hb => by
      rcases hL b hb with h1 | h1
      · exact .inr h1
      · exact .inl (by omega))
  exact ⟨_, ⟨_, _, _, _, _, _, _, hRep⟩, hF, fun b hb => hb.1⟩

/-- The rows while they are fitted. -/
def fitted (C : Nat) (L : List (List Cell)) (k : Nat) : List (List Cell) := (L.take k).map (fitRow C) ++ L.drop k
theorem fitted_zero (C : Nat) (L : List (List Cell)) : fitted C L 0 = L := by simp [fitted]
theorem fitted_all (C : Nat) (L : List (List Cell)) {k : Nat} (h : L.length ≤ k) : fitted C L k = L.map (fitRow C) := by
  rw [fitted, List.take_of_length_le h, List.drop_of_length_le h, List.append_nil]
theorem fitted_len (C : Nat) (L : List (List Cell)) (k : Nat) : (fitted C L k).length = L.length := by simp [fitted]; omega
theorem fitted_at (C : Nat) (L : List (List Cell)) {k : Nat} (h : k < L.length) : rowAt (fitted C L k) k = rowAt L k := by
  have e : ((L.take k).map (fitRow C)).length = k := by simp; omega
  unfold fitted rowAt
  rw [List.getD_eq_getElem?_getD, List.getD_eq_getElem?_getD, List.getElem?_append_right (by omega), e, Nat.sub_self, List.getElem?_drop, Nat.add_zero]
theorem fitted_set (C : Nat) (L : List (List Cell)) {k : Nat} (h : k < L.length) : (fitted C L k).set k (fitRow C (rowAt L k)) = fitted C L (k + 1) := by
  have e : ((L.take k).map (fitRow C)).length = k := by simp; omega
  unfold fitted
  rw [List.set_append_right _ _ (by omega), e, Nat.sub_self, List.drop_eq_getElem_cons h, List.set_cons_zero, List.take_succ_eq_append_getElem h, List.map_append, List.append_assoc]
  congr 1
  simp [rowAt, h]
theorem fitRow_len {C : Nat} {r : List Cell} : (fitRow C r).length = C := by
  unfold fitRow
  split
  · have e : (if (cellAt r C).wide = 0 then r.set (C - 1) Blank else r).length = r.length := by
      split
      · rw [List.length_set]
      · rfl
    rw [List.length_take, e]; omega
  · simp [blankRow]; omega
end T
end Go.Proofs.YtoegjmeoeefllaaGreatDoor
