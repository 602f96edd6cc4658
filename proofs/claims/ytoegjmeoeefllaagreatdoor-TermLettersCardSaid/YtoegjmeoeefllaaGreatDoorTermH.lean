/- Walks: scroll. -/
import Derived.Test.YtoegjmeoeefllaaGreatDoorTermG
namespace Go.Proofs.YtoegjmeoeefllaaGreatDoor
open Go Go.RowKit
namespace T
attribute [local go_sem ↓] Go.wp_at_zero Go.wp_at_succ
attribute [local go_sem high] run_max_2 run_min_2

/-- What is kept of the rows that have gone off. -/
def keep (l : List (List Cell)) : List (List Cell) := l.drop (l.length - 1000)
def scroll (t : Term) : Term := { t with gone := keep (t.gone ++ [rowAt t.l 0]), off := t.off + 1, l := t.l.drop 1 ++ [blankRow t.cols] }

theorem RowsIn.drop {w : World} {rows : List (List Cell)} {vs : List Value} {bs : List Nat} {F : Nat → Prop} (h : RowsIn w rows vs bs F) (i : Nat) : RowsIn w (rows.drop i) (vs.drop i) (bs.drop i) F := by
  refine ⟨by simp [h.1], by simp [h.2.1], fun k hk => ?_⟩
  rw [List.length_drop] at hk
  obtain ⟨u, b, h1, h2, h3, h4⟩ := h.2.2 (i + k) (by omega)
  refine ⟨u, b, by rw [List.getElem?_drop]; exact h1, by rw [List.getElem?_drop]; exact h2, ?_, h4⟩
  have e : rowAt (rows.drop i) k = rowAt rows (i + k) := by simp [rowAt, List.getD, List.getElem?_drop]
  rw [e]; exact h3

/-- What stands behind scroll. -/
theorem scroll_end {p : Nat} {w wc w3 w4 w5 w6 w7 : World} {t : Term} {F : Nat → Prop} {lb lo cap rb ro rc cg cb ab ao c2 cK cB cap5 d : Nat} {Ag Ab AK AB A5 : Option Addr} {vs gs : List Value} {bs gb : List Nat}
    (h : Rep w p t F (.slice (some ⟨lb, lo, none⟩) t.l.length cap) (.slice Ag t.gone.length cg) (.slice Ab t.b.length cb) vs gs bs gb) (hl0 : 1 ≤ t.l.length)
    (g4 : vs[0]? = some (.slice (some ⟨rb, ro, none⟩) (rowAt t.l 0).length rc)) (g5 : bs[0]? = some rb)
    (hC : Chg (fun x => x = p ∨ wbk (.slice Ag t.gone.length cg) x) w wc)
    (hS : Sl wc 29 1 (.slice (some ⟨ab, ao, none⟩) (t.gone.length + 1) c2) (t.gone.length + 1) (gs ++ [.slice (some ⟨rb, ro, none⟩) (rowAt t.l 0).length rc]) (fun b => F b ∨ w.heap.size ≤ b))
    (hFab : F ab ∨ w.heap.size ≤ ab) (hat : SlAt wc 29 1 (.slice (some ⟨ab, ao, none⟩) (t.gone.length + 1) c2) (t.gone.length + 1) (gs ++ [.slice (some ⟨rb, ro, none⟩) (rowAt t.l 0).length rc]) ab)
    (hc0 : 1 ≤ t.cols) (hd : d = t.gone.length + 1 - 1000) (hC3 : Chg (fun x => x = p) wc w3)
    (hsK : Sl w4 29 1 (.slice AK (t.l.length - 1) cK) (t.l.length - 1) (vs.drop 1) (fun b => w3.drew.heap.size ≤ b)) (hcK : Chg Non w3.drew w4)
    (hsB : Sl w5 32 3 (.slice AB t.cols cB) t.cols (flat (blankRow t.cols)) (fun b => w4.heap.size ≤ b)) (hcB : Chg Non w4 w5)
    (hs6 : Sl w6 29 1 (.slice A5 t.l.length cap5) t.l.length (vs.drop 1 ++ [.slice AB t.cols cB]) (fun b => w3.drew.heap.size ≤ b ∨ b = (w5.alloc (.cells #[.slice AB t.cols cB] 29)).heap.size))
    (hc6 : Chg (wbk (.slice AK (t.l.length - 1) cK)) (w5.alloc (.cells #[.slice AB t.cols cB] 29)) w6)
    (hb7 : Blk w7 p (headC (scroll t) (.slice A5 t.l.length cap5) (.slice (some ⟨ab, ao + d, none⟩) (t.gone.length + 1 - d) (c2 - d)) (.slice Ab t.b.length cb)) 57) (hc7 : Chg (fun x => x = p) w6 w7) {lB l6 : List Value} (hB : Blk wc p lB 57) (hb6 : Blk w6 p l6 57) :
    ∃ F', IsTerm w7 p (scroll t) F' ∧ Chg F w w7 ∧ ∀ b, F' b → F b ∨ w.heap.size ≤ b := by
  have s1 := hC.size
  have s3 := hC3.size
  have sK : w3.heap.size ≤ w4.heap.size := hcK.size
  have sB := hcB.size
  have sA : (w5.alloc (.cells #[.slice AB t.cols cB] 29)).heap.size = w5.heap.size + 1 := by simp
  have s6 := hc6.size
  have s7 := hc7.size
  rw [sA] at s6
  have ne9 : ∀ {w : World} {b : Nat} {l l' : List Value}, Blk w b l 29 → Blk w b l' 57 → False := fun h h' => absurd rfl (h.ne h' (by decide))
  have ne8 : ∀ {w : World} {b : Nat} {l l' : List Value}, Blk w b l 32 → Blk w b l' 57 → False := fun h h' => absurd rfl (h.ne h' (by decide))
  have hX : Chg (fun x => x = p ∨ w3.heap.size ≤ x) wc w7 :=
    ((((((hC3.mono (fun _ _ e => .inl e)).drew).thenN hcK).thenN hcB).alloc _).trans hc6 (fun b hb => .inl (.inr (hsK.wbF' hb)))).trans hc7 (fun b e => .inl (.inl e))
  have hAll : Chg F w w7 := (hC.mono (fun b _ hb => by rcases hb with e | hb; exact e ▸ h.own; exact h.g.wbF' hb)).trans hX (fun b hb => by rcases hb with e | hb; exact .inl (e ▸ h.own); exact .inr (by omega))
  have keepRows : ∀ {rows : List (List Cell)} {us : List Value} {ks : List Nat}, RowsIn w rows us ks F → RowsIn w7 rows us ks F := fun {rows us ks} hr =>
    (hr.chgT hC (fun b l _ hl hb => by rcases hb with e | hb; exact ne8 hl (e ▸ h.blk); exact absurd (h.g.wbT hb hl) (by decide))).chg hX (fun b hb hb' => by
      have h1 := hr.lt hb
      rcases hb' with e | hb'
      · obtain ⟨l, hl⟩ := hr.blk hb; exact ne8 hl (e ▸ h.blk)
      · omega)
  have hR := keepRows h.rows
  have hG := keepRows h.grows
  obtain ⟨nb, hnb, hB0⟩ := hsB.pos (by omega)
  have hnew : SlAt w7 32 3 (.slice AB t.cols cB) t.cols (flat (blankRow t.cols)) nb := by
    have h1 := hB0.chg ((Chg.refl Non w5).alloc (.cells #[.slice AB t.cols cB] 29)) (fun h => h)
    have h2 := h1.chg hc6 (fun hb => by
      obtain ⟨_, _, l, _, hl, _⟩ := h1
      have hk := (hsK.chg hcB (fun _ _ h => h)).chg ((Chg.refl Non w5).alloc (.cells #[.slice AB t.cols cB] 29)) (fun _ _ h => h)
      exact absurd (hk.wbT hb hl) (by decide))
    exact h2.chg hc7 (fun e => by obtain ⟨_, _, l, _, hl, _⟩ := h2; exact ne8 hl (e ▸ hb6))
  have hbl : (blankRow t.cols).length = t.cols := by simp [blankRow]
  have hgl : (scroll t).gone.length = t.gone.length + 1 - d := by simp [scroll, keep, hd]
  have hll : (scroll t).l.length = t.l.length := by simp [scroll]; omega
  have hat7 : SlAt w7 29 1 (.slice (some ⟨ab, ao, none⟩) (t.gone.length + 1) c2) (t.gone.length + 1) (gs ++ [.slice (some ⟨rb, ro, none⟩) (rowAt t.l 0).length rc]) ab :=
    hat.chg hX (fun hb => by
      have := hat.lt
      rcases hb with e | hb
      · obtain ⟨_, _, l, _, hl, _⟩ := hat; exact ne9 hl (e ▸ hB)
      · omega)
  have hcap : t.gone.length + 1 ≤ c2 := by obtain ⟨_, _, _, hv, _, h1, _⟩ := hat; injection hv with _ _ e; omega
  have hg7 := hat7.drop d (by omega) (by omega)
  simp only [Option.map_some, add_mid, Nat.mul_one] at hg7
  have hrow0 : SlAt w7 32 3 (.slice (some ⟨rb, ro, none⟩) (rowAt t.l 0).length rc) (rowAt t.l 0).length (flat (rowAt t.l 0)) rb := by
    obtain ⟨u, b, e1, e2, e3, _⟩ := hR.2.2 0 hl0
    rw [g4] at e1; rw [g5] at e2
    injection e1 with e1; injection e2 with e2
    rw [e1, e2]; exact e3
  have hFrb : F rb := h.rows.F (List.mem_of_getElem? g5)
  refine ⟨fun b => (F b ∨ w.heap.size ≤ b) ∧ b < w7.heap.size, ⟨.slice A5 t.l.length cap5, .slice (some ⟨ab, ao + d, none⟩) (t.gone.length + 1 - d) (c2 - d), .slice Ab t.b.length cb, vs.drop 1 ++ [Value.slice AB t.cols cB], (gs ++ [Value.slice (some ⟨rb, ro, none⟩) (rowAt t.l 0).length rc]).drop d, bs.drop 1 ++ [nb], (gb ++ [rb]).drop d, ?_⟩, hAll, fun b hb => hb.1⟩
  have hFlt := h.lt
  have hmono : ∀ b, b < w7.heap.size → F b → (F b ∨ w.heap.size ≤ b) ∧ b < w7.heap.size := fun b h1 h2 => ⟨.inl h2, h1⟩
  have hrows7 : RowsIn w7 (scroll t).l (vs.drop 1 ++ [Value.slice AB t.cols cB]) (bs.drop 1 ++ [nb]) (fun b => (F b ∨ w.heap.size ≤ b) ∧ b < w7.heap.size) :=
    ((hR.drop 1).mono hmono).snoc (r := blankRow t.cols) (by rw [hbl]; exact hnew) ⟨.inr (by omega), hnew.lt⟩
  have hgrows7 : RowsIn w7 (scroll t).gone ((gs ++ [Value.slice (some ⟨rb, ro, none⟩) (rowAt t.l 0).length rc]).drop d) ((gb ++ [rb]).drop d) (fun b => (F b ∨ w.heap.size ≤ b) ∧ b < w7.heap.size) := by
    have e : (scroll t).gone = (t.gone ++ [rowAt t.l 0]).drop d := by
      have e2 : (t.gone ++ [rowAt t.l 0]).length = t.gone.length + 1 := by simp
      rw [hd, ← e2]; simp only [scroll, keep]
    rw [e]
    exact ((hG.snoc hrow0 hFrb).mono hmono).drop d
  have hnd1 : (bs.drop 1).Nodup := h.nodup.sublist (List.drop_sublist 1 bs)
  have hrb1 : rb ∉ bs.drop 1 := by
    have hn := h.nodup
    cases bs with
    | nil => simp at g5
    | cons x xs => simp at g5; subst g5; simpa using (List.nodup_cons.1 hn).1
  exact { blk := hb7, l := (by
            rw [hll]
            exact (hs6.chgT hc7 (fun k l _ hk e => ne9 hk (e ▸ hb6))).mono (fun b h1 h2 => ⟨.inr (by rcases h2 with h2 | h2; (have : w3.heap.size ≤ b := h2; omega); (rw [sA] at h2; omega)), h1⟩)),
          rows := hrows7,
          nodup := (by
            rw [List.nodup_append]
            refine ⟨hnd1, by simp, fun x hx y hy e => ?_⟩
            have := h.rows.lt (List.mem_of_mem_drop hx)
            simp at hy; omega),
          g := (by rw [hgl]; exact (Sl.of hg7 ⟨hFab, hat7.lt⟩)),
          grows := hgrows7,
          apart := (fun b hb hb' => by
            have hb2 := List.mem_of_mem_drop hb'
            simp at hb hb2
            rcases hb with hb | hb
            · rcases hb2 with hb2 | hb2
              · exact h.apart b (List.mem_of_mem_tail hb) hb2
              · subst hb2; exact hrb1 (by simpa using hb)
            · have : b < w.heap.size := by rcases hb2 with hb2 | hb2; exact h.grows.lt hb2; (rw [hb2]; exact hFlt _ hFrb)
              omega),
          lg := (fun b hb hb' => by
            have h1 : w3.heap.size ≤ b := by
              have := hs6.wbF' hb
              rcases this with h2 | h2
              · exact h2
              · rw [sA] at h2; omega
            have h2 : b = ab := by
              obtain ⟨A', _, _, hv, _, e⟩ := hb'
              have e3 := congrArg Value.ownBlock hv
              simp only [Value.ownBlock, Option.some.injEq] at e3
              rw [← e, ← e3]
            have := hat.lt
            omega),
          b := ((h.b.chgT hC (fun k l _ hl hb => by rcases hb with e | hb; exact absurd rfl ((e ▸ hl : Blk w p l _).ne h.blk (by decide)); exact absurd (h.g.wbT hb hl) (by decide))).chgT hX (fun k l hF hl hb => by
            rcases hb with e | hb
            · subst e; exact absurd rfl (hl.ne hB (by decide))
            · have := hFlt _ hF; omega)).mono hmono,
          own := ⟨.inl h.own, hb7.lt⟩, lt := fun b hb => hb.2 }

set_option maxHeartbeats 1000000 in
theorem scroll_calls {p : Nat} {w : World} {t : Term} {F : Nat → Prop} (h : IsTerm w p t F) (hl0 : 1 ≤ t.l.length) (hl : t.l.length ≤ 60) (hg : t.gone.length ≤ 1000) (hc : t.cols ≤ 120) (hc0 : 1 ≤ t.cols) (hoff : 0 ≤ t.off ∧ t.off ≤ 1099511627776)
    :
    Calls Tryz.prog 57 #[.pointer (some ⟨p, 0, none⟩)] w fun e w' => e = .returned (.tuple #[]) ∧ ∃ F', IsTerm w' p (scroll t) F' ∧ Chg F w w' ∧ ∀ b, F' b → F b ∨ w.heap.size ≤ b := by
  obtain ⟨lv, gv, bv, vs, gs, bs, gb, h⟩ := h
  obtain ⟨lb, lo, cap, rb, ro, rc, rfl, g1, g2, g3, g4, g5, g6, g7, g8⟩ := h.row hl0
  obtain ⟨Ag, cg, rfl, hg1, hg2⟩ := h.g.shape
  obtain ⟨Ab, cb, rfl, hb1, hb2⟩ := h.b.shape
  obtain ⟨c0, c1, c2, c3, _⟩ := h.cells
  have hfr := h.frozen
  have f1 := hfr 1
  have f2 := hfr 2
  have f3 := hfr 3
  have hp := h.blk.lt
  have hlb := World.block_lt_of_cell? w _ g3
  simp only at hlb
  simp only [Nat.add_zero] at g3
  have hpl : lb ≠ p := by
    obtain ⟨_, hF, hat⟩ := h.l.pos (by omega)
    have e := hat.own; injection e with e; subst e
    exact fun e => hat.neBlk h.blk (by decide) e
  have hl1 : 0 < t.l.length := hl0
  have hl2 : (0 : Int) < (t.l.length : Int) := by omega
  have H := Lib.hid h
  have G4 := Lib.hid g4
  have G5 := Lib.hid g5
  clear h hfr g4 g5
  go_enter Tryz.func57, Tryz.ntmps57
  go_upto_region 0 with (fail)
  go_cut [] (fun wc => ∃ A2 c2, Blk wc p (headC t (.slice (some ⟨lb, lo, none⟩) t.l.length cap) (.slice A2 (t.gone.length + 1) c2) (.slice Ab t.b.length cb)) 57 ∧
    Sl wc 29 1 (.slice A2 (t.gone.length + 1) c2) (t.gone.length + 1) (gs ++ [.slice (some ⟨rb, ro, none⟩) (rowAt t.l 0).length rc]) (fun b => F b ∨ w.heap.size ≤ b) ∧
    Chg (fun x => x = p ∨ wbk (.slice Ag t.gone.length cg) x) w wc ∧ (∀ b, wbk (.slice A2 (t.gone.length + 1) c2) b → wbk (.slice Ag t.gone.length cg) b ∨ w.heap.size ≤ b))
  case first =>
    go_region_law (first | (refine step_append_sl (o := ⟨some 14, _, _, _, _, _⟩) (by rfl) _ _ 55 (by rfl) eiRow (by rfl) (H.out.g.chg (((Chg.refl Non w).drew).alloc (.cells #[.slice (some ⟨rb, ro, none⟩) (rowAt t.l 0).length rc] 29)) (fun _ _ h => h)) (by rfl) (Rd.new _ [_] _ _ (by rfl) (by omega)) (by simp [Value.oneCell']) (by omega) ?_; intro A2 cap2 w2 hs2 hc2 hL2 hz2; have hb2 := ((H.out.blk.drew).chg ((Chg.refl Non w.drew).alloc (.cells #[.slice (some ⟨rb, ro, none⟩) (rowAt t.l 0).length rc] 29)) (fun h => h)).chg hc2 (fun hw => absurd (H.out.g.wbT hw H.out.blk) (by decide)); have c2' := hb2.cell 2; have f2' := hb2.frozen 2))
    all_goals
      go_wp2_with fail
      go_meet
      have hb3 := hb2.set 2 (.slice A2 (t.gone.length + 1) cap2)
      have hsz := H.out.blk.lt
      refine ⟨A2, cap2, hb3, ?_, ?_, fun b hb => ?_⟩
      · exact (hs2.mono (fun b _ hb => by rcases hb with hb | hb; exact .inl hb; simp at hb; exact .inr (by omega))).chgT (Chg.at_ (Chg.at0 p w2) 2 _) (fun k l _ hk e => hk.ne hb2 (by decide) e)
      · exact ((((Chg.refl (fun x => x = p ∨ wbk (.slice Ag t.gone.length cg) x) w).drew).alloc _).trans hc2 (fun b hb => .inl (.inr hb))).setCell ⟨p, 2, none⟩ _ (.inl (.inl rfl))
      · rcases hL2 b hb with h | h
        · exact .inl h
        · simp at h; exact .inr (by omega)
  case rest =>
    obtain ⟨A2, c2', hB, hS, hC, hL⟩ := hcut
    obtain ⟨ab, hFab, hat⟩ := hS.pos (by omega)
    obtain ⟨ao, cap2, hv, k1, k2, _⟩ := hat.cells
    injection hv with e1 _ e3; subst e1 e3
    have d1 : wc.cell? ⟨p, 1, none⟩ = some (.slice (some ⟨lb, lo, none⟩) t.l.length cap) := hB.cell 1
    have d2 : wc.cell? ⟨p, 2, none⟩ = some (.slice (some ⟨ab, ao, none⟩) (t.gone.length + 1) c2') := hB.cell 2
    have d3 : wc.cell? ⟨p, 3, none⟩ = some (.int .i64 t.off) := hB.cell 3
    have d0 : wc.cell? ⟨p, 0, none⟩ = some (.int .i64 t.cols) := hB.cell 0
    have df2 := hB.frozen 2
    have df3 := hB.frozen 3
    obtain ⟨d, hd⟩ : ∃ d : Nat, d = t.gone.length + 1 - 1000 := ⟨_, rfl⟩
    have hd1 : max ((t.gone.length : Int) + 1 - 1000) 0 = (d : Int) := by omega
    have hd2 : (d : Int) ≤ (t.gone.length : Int) + 1 := by omega
    have hd3 : ¬ c2' = d := by omega
    have hd4 : (0 : Int) ≤ (d : Int) := by omega
    have hd5 : ((t.gone.length : Int) + 1) ≤ (c2' : Int) := by omega
    unfold maxLen at k2
    have Hd := Lib.hid hd
    clear hd c0 c1 c2 c3 f1 f2 f3 g3
    go_upto_region 1 with (fail)
    go_region
    go_wp2_with fail
    have hB3 := ((hB.set 2 (.slice (some ⟨ab, ao + d, none⟩) (t.gone.length + 1 - d) (c2' - d))).set 3 (.int .i64 (t.off + 1))).drew
    have hC3 : Chg (fun x => x = p) wc ((wc.setCell ⟨p, 2, none⟩ (.slice (some ⟨ab, ao + d, none⟩) (t.gone.length + 1 - d) (c2' - d))).setCell ⟨p, 3, none⟩ (.int .i64 (t.off + 1))).drew := (((Chg.at0 p wc).at_ _ _).at_ _ _).drew
    generalize hW : ((wc.setCell ⟨p, 2, none⟩ (.slice (some ⟨ab, ao + d, none⟩) (t.gone.length + 1 - d) (c2' - d))).setCell ⟨p, 3, none⟩ (.int .i64 (t.off + 1))).drew = w3 at *
    clear hW
    have q1 : w3.cell? ⟨p, 1, none⟩ = some (.slice (some ⟨lb, lo, none⟩) t.l.length cap) := hB3.cell 1
    have q0 : w3.cell? ⟨p, 0, none⟩ = some (.int .i64 t.cols) := hB3.cell 0
    have qf1 := hB3.frozen 1
    have hp3 := hB3.lt
    obtain ⟨A1, hA1⟩ : ∃ A1, (if cap = 1 then some ⟨lb, lo, none⟩ else some ⟨lb, lo + 1, none⟩ : Option Addr) = A1 := ⟨_, rfl⟩
    have hlat : SlAt w3 29 1 (.slice (some ⟨lb, lo, none⟩) t.l.length cap) t.l.length vs lb := by
      obtain ⟨b, hF, hat0⟩ := H.out.l.pos (by omega)
      have e := hat0.own; injection e with e; subst e
      have hx := hat0.neBlk H.out.blk (by decide)
      refine (hat0.chg hC ?_).chg hC3 hx
      rintro (h | h)
      · exact hx h
      · exact H.out.lg _ ⟨_, _, _, rfl, by omega, rfl⟩ h
    have hrd : Rd w3 1 (.slice A1 (t.l.length - 1) (cap - 1)) (t.l.length - 1) (vs.drop 1) (fun _ => True) := by
      have := (hlat.rd (G := fun _ => True) trivial).drop 1 (by omega)
      simpa [add_mid, hA1] using this
    have hone : ∀ u ∈ vs.drop 1, u.oneCell' = true := fun u hu => by
      obtain ⟨k, hk, rfl⟩ := List.getElem_of_mem (List.mem_of_mem_drop hu)
      obtain ⟨u', b', e1, _, e3, _⟩ := H.out.rows.2.2 k (by rw [← H.out.rows.1]; exact hk)
      rw [List.getElem?_eq_getElem hk] at e1; injection e1 with e1
      obtain ⟨_, _, _, rfl, _⟩ := e3
      rw [e1]; rfl
    have hl60 : (1 : Int) ≤ (t.l.length : Int) := by omega
    have hcapI : (t.l.length : Int) ≤ (cap : Int) := by omega
    clear d1 d2 d3 d0 df2 df3 hd1 hd2 hd3 hd4 hd5 k2
    go_region_law (first | (have hgd := hcK; have hgd2 := hcB; refine step_append_sl (o := ⟨some 52, _, _, _, _, _⟩) (by rfl) _ _ 55 (by rfl) eiRow (by rfl) ((hsK.chg hcB (fun _ _ h => h)).chg ((Chg.refl Non _).alloc (.cells #[.slice AB t.cols cB] 29)) (fun _ _ h => h)) (by rfl) (Rd.new _ [_] _ _ (by rfl) (by omega)) (by simp [Value.oneCell']) (by omega) ?_; intro A5 cap5 w6 hs6 hc6 hL6 hz6; have hb6 := ((((hB3.drew).chg hcK (fun h => h)).chg hcB (fun h => h)).alloc (.cells #[.slice AB t.cols cB] 29)).chg hc6 (fun hw => absurd (Sl.wbT ((hsK.chg hcB (fun _ _ h => h)).chg ((Chg.refl Non _).alloc (.cells #[.slice AB t.cols cB] 29)) (fun _ _ h => h)) hw ((((hB3.drew).chg hcK (fun h => h)).chg hcB (fun h => h)).alloc (.cells #[.slice AB t.cols cB] 29))) (by decide)); have c6' : w6.cell? ⟨p, 1, none⟩ = some (.slice (some ⟨lb, lo, none⟩) t.l.length cap) := hb6.cell 1; have f6' := hb6.frozen 1) | (go_simp; go_at_call 63; refine (CloneRows_calls _ _ _ _ _ (hrd.chg ((Chg.refl Non w3).drew) (fun _ _ _ h => h)) hone (by omega)).mono ?_; rintro e w4 ⟨AK, cK, rfl, hsK, hcK⟩; have q0' := hcK.cell q0 (fun h => h); have hpK := Nat.lt_of_lt_of_le hp3 hcK.size) | (go_simp; go_at_call 28; refine (blank_calls _ t.cols (by omega)).mono ?_; rintro e w5 ⟨AB, cB, rfl, hsB, hcB⟩))
    all_goals go_wp2_with fail
    all_goals go_end0
    all_goals
      have en : t.l.length - 1 + 1 = t.l.length := by omega
      rw [en] at hs6 hL6
      have hb7 := hb6.set 1 (.slice A5 t.l.length cap5)
      have hc7 := Chg.at_ (Chg.at0 p w6) 1 (.slice A5 t.l.length cap5)
      exact ⟨rfl, scroll_end H.out hl0 G4.out G5.out hC hS hFab hat hc0 Hd.out hC3 hsK hcK hsB hcB hs6 hc6 hb7 hc7 hB hb6⟩
end T
end Go.Proofs.YtoegjmeoeefllaaGreatDoor
