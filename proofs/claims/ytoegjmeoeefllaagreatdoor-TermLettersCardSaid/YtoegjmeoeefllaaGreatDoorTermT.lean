/- What a terminal keeps at a letter; what a byte does, and what it keeps. Plain Lean. -/
import Derived.Test.YtoegjmeoeefllaaGreatDoorTermR
import Derived.Test.YtoegjmeoeefllaaGreatDoorTermS
import Derived.Test.YtoegjmeoeefllaaGreatDoorTermE
import Derived.Test.YtoegjmeoeefllaaGreatDoorSign
namespace Go.Proofs.YtoegjmeoeefllaaGreatDoor
open Go Go.RowKit
namespace T

theorem Ok.moveTo {o n : Nat} {t : Term} (h : Ok o n t) (r c : Int) : Ok o n (moveTo t r c) :=
  { h with
    row := by show (min (max r 0) (t.l.length - 1 : Int)).toNat < t.l.length; have := h.l0; omega
    col := by show (min (max c 0) (t.cols - 1 : Int)).toNat < t.cols; have := h.c0; omega }
theorem Ok.home {o n : Nat} {t : Term} (h : Ok o n t) (s : ByteArray) : Ok o n (home t s) := by
  unfold T.home
  split
  · exact h
  · exact h.moveTo _ _
theorem Ok.eraseAll {o n : Nat} {t : Term} (h : Ok o n t) : Ok o n (eraseAll t) :=
  (h.erase h.row (Nat.le_of_lt h.col)).eraseFrom _ _ (by rw [erase_len]; have := h.row; omega)
theorem Ok.acts {o n : Nat} {t : Term} (h : Ok o n t) (q : Int) (x : Nat) : Ok o n (acts t q x) := by
  have h1 := h.eraseAll
  have h2 := h.erase h.row (Nat.le_of_lt h.col)
  unfold T.acts
  repeat' split
  all_goals first | exact h | exact h1 | exact h2 | exact h.moveTo _ _ | exact { h with }
theorem Ok.ends {o n : Nat} {t : Term} (h : Ok o n t) (s : ByteArray) (x : Nat) : Ok o n (endsR t s x) := by
  unfold endsR
  repeat' split
  · exact h.home s
  · exact h
  · exact h.acts _ x

/-! ### what is kept -/
structure Kp (t u : Term) : Prop where
  cols : u.cols = t.cols
  len : 1 ≤ t.l.length → u.l.length = t.l.length
  ins : u.ins = t.ins
  seq : u.seq = t.seq
  b : u.b = t.b
theorem Kp.refl (t : Term) : Kp t t := ⟨rfl, fun _ => rfl, rfl, rfl, rfl⟩
theorem Kp.trans {t u v : Term} (h : Kp t u) (k : Kp u v) : Kp t v := ⟨k.cols.trans h.cols, fun h0 => (k.len (by rw [h.len h0]; exact h0)).trans (h.len h0), k.ins.trans h.ins, k.seq.trans h.seq, k.b.trans h.b⟩
theorem Kp.setRow (t : Term) (k : Nat) (r : List Cell) : Kp t (setRow t k r) := ⟨rfl, fun _ => by simp [T.setRow], rfl, rfl, rfl⟩
theorem Kp.put (t : Term) (k c : Nat) (x : Cell) : Kp t (put t k c x) := Kp.setRow t k _
theorem Kp.down (t : Term) : Kp t (down t) := by
  unfold T.down
  split
  · exact ⟨rfl, fun _ => rfl, rfl, rfl, rfl⟩
  · exact ⟨rfl, fun h => by simp [scroll]; omega, rfl, rfl, rfl⟩
theorem Kp.zero (t : Term) : Kp t { t with col := 0 } := ⟨rfl, fun _ => rfl, rfl, rfl, rfl⟩
theorem Kp.join (t : Term) (s : ByteArray) : Kp t (join t s) := by
  unfold T.join
  repeat' split
  · exact Kp.setRow _ _ _
  · exact Kp.setRow _ _ _
  · exact Kp.refl t
theorem Kp.wrapped (t : Term) : Kp t (wrapped t) := by
  unfold T.wrapped
  split
  · exact (Kp.down t).trans (Kp.zero _)
  · exact Kp.refl t
theorem Kp.room (t : Term) (w : Int) : Kp t (room t w) := by
  unfold T.room
  split
  · exact ((Kp.put t _ _ _).trans (Kp.down _)).trans (Kp.zero _)
  · exact Kp.refl t
theorem Kp.printed (t : Term) (r w : Int) : Kp t (printed t r w) := by
  unfold T.printed
  split
  · exact (Kp.put t _ _ _).trans (Kp.put _ _ _ _)
  · exact Kp.put t _ _ _
theorem Kp.moved (t : Term) (w : Int) : Kp t (moved t w) := by
  unfold T.moved
  split <;> exact ⟨rfl, fun _ => rfl, rfl, rfl, rfl⟩
theorem Kp.sign (t : Term) (r : Int) : Kp t (signR t r) := by
  unfold signR
  repeat' split
  · exact Kp.refl t
  · exact Kp.join t _
  · exact (((Kp.wrapped t).trans (Kp.room _ _)).trans (Kp.printed _ _ _)).trans (Kp.moved _ _)
theorem Kp.signs : ∀ (l : List Int) (t : Term), Kp t (signsR t l)
  | [], t => Kp.refl t
  | r :: l, t => (Kp.sign t r).trans (Kp.signs l _)
theorem Kp.control (t : Term) (x : Nat) : Kp t (control t x) := by
  unfold T.control
  repeat' split
  · exact ⟨rfl, fun _ => rfl, rfl, rfl, rfl⟩
  · exact Kp.down t
  · exact ⟨rfl, fun _ => rfl, rfl, rfl, rfl⟩
  · exact Kp.refl t

/-- Where the line is full the cursor stands in the last column. -/
def Fl (t : Term) : Prop := t.full = true → t.col + 1 = t.cols
theorem Fl.of {t : Term} (h : t.full = false) : Fl t := fun h2 => by rw [h] at h2; cases h2
theorem down_full (t : Term) : (down t).full = false := by unfold down; split <;> rfl
theorem wrapped_full (t : Term) : (wrapped t).full = false := by
  unfold wrapped
  split
  · exact down_full t
  · rename_i h; simpa using h
theorem room_full {t : Term} (w : Int) (h : t.full = false) : (room t w).full = false := by
  unfold room
  split
  · exact down_full _
  · exact h
theorem printed_full {t : Term} (r w : Int) (h : t.full = false) : (printed t r w).full = false := by
  unfold printed
  split <;> exact h
theorem Fl.moved {t : Term} (w : Int) (h0 : 1 ≤ t.cols) (h : t.full = false) : Fl (moved t w) := by
  unfold T.moved
  split
  · intro _; show t.cols - 1 + 1 = t.cols; omega
  · exact Fl.of h
theorem Fl.sign {t : Term} (h : Fl t) (h0 : 1 ≤ t.cols) (r : Int) : Fl (signR t r) := by
  unfold signR
  repeat' split
  · exact h
  · unfold T.join; repeat' split
    all_goals exact h
  · refine Fl.moved _ ?_ (printed_full _ _ (room_full _ (wrapped_full t)))
    rw [(((Kp.wrapped t).trans (Kp.room _ _)).trans (Kp.printed _ _ _)).cols]; exact h0
theorem Fl.signs : ∀ (l : List Int) {t : Term}, Fl t → 1 ≤ t.cols → Fl (signsR t l)
  | [], _, h, _ => h
  | r :: l, t, h, h0 => Fl.signs l (h.sign h0 r) (by rw [(Kp.sign t r).cols]; exact h0)
theorem Fl.control {t : Term} (h : Fl t) (x : Nat) : Fl (control t x) := by
  unfold T.control
  repeat' split
  · exact Fl.of rfl
  · exact Fl.of (down_full t)
  · exact Fl.of rfl
  · exact h
theorem Fl.ends {t : Term} (h : Fl t) (s : ByteArray) (x : Nat) : Fl (endsR t s x) := by
  have he : ∀ (m k : Nat) (t : Term), (eraseFrom t k m).full = t.full ∧ (eraseFrom t k m).col = t.col ∧ (eraseFrom t k m).cols = t.cols := by
    intro m
    induction m with
    | zero => intro k t; exact ⟨rfl, rfl, rfl⟩
    | succ m ih => intro k t; exact ih (k + 1) (erase t k 0)
  have h3 : Fl (eraseAll t) := by
    unfold eraseAll
    intro h2
    obtain ⟨e1, e2, e3⟩ := he (t.l.length - (t.row + 1)) (t.row + 1) (erase t t.row t.col)
    rw [e1] at h2; rw [e2, e3]; exact h h2
  have h4 : Fl (erase t t.row t.col) := h
  have h5 : Fl (T.home t s) := by
    unfold T.home
    split
    · exact h
    · exact Fl.of rfl
  have h6 : ∀ q, Fl (T.acts t q x) := fun q => by
    unfold T.acts
    repeat' split
    all_goals first | exact h | exact h3 | exact h4 | exact Fl.of rfl
  unfold endsR
  repeat' split
  · exact h5
  · exact h
  · exact h6 _

/-! ### a byte -/
theorem wloop_short : ∀ (r : List Int) (n : Nat) (lo hi : Int), Sg.wloop r n lo hi = false → r.length < n
  | _, 0, _, _, h => by simp [Sg.wloop] at h
  | [], n + 1, _, _, _ => Nat.succ_pos n
  | y :: r, n + 1, lo, hi, h => by
    unfold Sg.wloop at h
    split at h
    · cases h
    · have := wloop_short r n 128 191 h; simp; omega
theorem whole_short {b : List Int} (h : Sg.wholeR b = false) : b.length ≤ 3 := by
  cases b with
  | nil => simp
  | cons x r =>
    have h1 := wloop_short r _ _ _ h
    have h2 := Sg.tailsR_le x
    simp only [List.length_cons]; omega
theorem whole_pos {b : List Int} (h : Sg.wholeR b = true) : 1 ≤ b.length := by
  cases b with
  | nil => simp [Sg.wholeR] at h
  | cons x r => simp
theorem nxt_in {b : List Int} (h : 1 ≤ b.length) : 1 ≤ (Sg.nxt b).2 ∧ (Sg.nxt b).2 ≤ b.length := by
  unfold Sg.nxt
  rw [if_neg (by omega)]
  have h1 := Sg.width_pos (Sg.toB (b.take 4)) 0 (by rw [Sg.size_toB, List.length_take]; omega)
  constructor
  · show 1 ≤ min _ (min b.length 4); omega
  · show min _ (min b.length 4) ≤ b.length; omega

def take1 (t : Term) : Term := { signR t (Sg.nxt t.b).1 with b := t.b.drop (Sg.nxt t.b).2 }
def drain : Nat → Term → Term
  | 0, t => t
  | f + 1, t => if Sg.wholeR t.b = true then drain f (take1 t) else t
theorem drain_not {t : Term} (h : Sg.wholeR t.b = false) : ∀ f, drain f t = t
  | 0 => rfl
  | f + 1 => by rw [drain, if_neg (by rw [h]; decide)]
theorem drain_whole {t : Term} (h : Sg.wholeR t.b = true) {f : Nat} (hf : t.b.length ≤ f) : drain f t = drain (f - 1) (take1 t) := by
  have := whole_pos h
  cases f with
  | zero => omega
  | succ f => rw [drain, if_pos h]; rfl
theorem take1_b (t : Term) : (take1 t).b = t.b.drop (Sg.nxt t.b).2 := rfl
theorem take1_short {t : Term} (h : Sg.wholeR t.b = true) : (take1 t).b.length + 1 ≤ t.b.length := by
  have := nxt_in (whole_pos h)
  rw [take1_b, List.length_drop]; omega
theorem Ok.take1 {o n : Nat} {t : Term} (h : Ok o n t) : Ok (o + 2) (n + 4) (take1 t) :=
  { h.sign (Sg.nxt t.b).1 with b := by rw [take1_b, List.length_drop]; have := h.b; omega }
theorem Ok.drain {o n : Nat} : ∀ (f : Nat) {t : Term}, Ok o n t → Ok (o + 2 * f) (n + 4 * f) (drain f t)
  | 0, _, h => h
  | f + 1, t, h => by
    rw [T.drain]
    split
    · exact (Ok.drain (o := o + 2) (n := n + 4) f h.take1).mono (by omega) (by omega)
    · exact h.mono (by omega) (by omega)
theorem drain_whole_not : ∀ (f : Nat) (t : Term), t.b.length ≤ f → Sg.wholeR (drain f t).b = false
  | 0, t, h => by
    have : t.b = [] := List.length_eq_zero_iff.1 (by omega)
    rw [drain, this]; rfl
  | f + 1, t, h => by
    rw [drain]
    split
    · rename_i hw
      exact drain_whole_not f _ (by have := take1_short hw; omega)
    · rename_i hw; simpa using hw
theorem Kp'.drain : ∀ (f : Nat) (t : Term), (drain f t).ins = t.ins ∧ (drain f t).cols = t.cols ∧ (1 ≤ t.l.length → (drain f t).l.length = t.l.length)
  | 0, t => ⟨rfl, rfl, fun _ => rfl⟩
  | f + 1, t => by
    rw [T.drain]
    split
    · obtain ⟨h1, h2, h3⟩ := Kp'.drain f (T.take1 t)
      have hk := Kp.sign t (Sg.nxt t.b).1
      exact ⟨h1.trans hk.ins, h2.trans hk.cols, fun h0 => (h3 (by show 1 ≤ (signR t _).l.length; rw [hk.len h0]; exact h0)).trans (hk.len h0)⟩
    · exact ⟨rfl, rfl, fun _ => rfl⟩
theorem Fl.drain : ∀ (f : Nat) {t : Term}, Fl t → 1 ≤ t.cols → Fl (drain f t)
  | 0, _, h, _ => h
  | f + 1, t, h, h0 => by
    rw [T.drain]
    split
    · exact Fl.drain f (t := T.take1 t) (h.sign h0 (Sg.nxt t.b).1) (by show 1 ≤ (signR t _).cols; rw [(Kp.sign t _).cols]; exact h0)
    · exact h

def seqC (s : ByteArray) (x : Nat) : ByteArray := if s.size < 16 then s ++ ⟨#[UInt8.ofNat x]⟩ else s
def byteR (t : Term) (x : Nat) : Term :=
  if t.ins = 0 ∧ 128 ≤ x then drain (t.b.length + 1) { t with b := t.b ++ [(x : Int)] }
  else if t.ins = 0 ∨ x = 27 then plainR { signsR t (Sg.runes t.b) with b := [] } x
  else if t.ins = 1 ∧ x = 91 then { t with ins := 2, seq := ByteArray.empty }
  else if t.ins = 2 ∧ 32 ≤ x ∧ x < 64 then { t with seq := seqC t.seq x }
  else if t.ins = 2 ∧ 64 ≤ x ∧ x ≤ 126 then endsR { t with ins := 0 } t.seq x
  else { t with ins := 0 }
/-- What is fed. -/
def feedR (t : Term) (l : List Int) : Term := l.foldl (fun t x => byteR t x.toNat) t
theorem feedR_append (t : Term) (a b : List Int) : feedR t (a ++ b) = feedR (feedR t a) b := by simp [feedR]
theorem feedR_cons (t : Term) (x : Int) (b : List Int) : feedR t (x :: b) = feedR (byteR t x.toNat) b := rfl
theorem feedR_nil (t : Term) : feedR t [] = t := rfl

theorem seqC_size {s : ByteArray} (x : Nat) (h : s.size ≤ 16) : (seqC s x).size ≤ 16 := by
  unfold seqC
  split
  · rw [size_append]
    have : (⟨#[UInt8.ofNat x]⟩ : ByteArray).size = 1 := rfl
    omega
  · exact h
theorem Ok.byte {o n : Nat} {t : Term} (h : Ok o n t) (hb : t.b.length ≤ 3) (x : Nat) : Ok (o + 8) (n + 16) (byteR t x) := by
  have hr : (Sg.runes t.b).length ≤ 3 := Nat.le_trans (Sg.rnsFrom_length _ _ _) hb
  have h' : Ok (o + 8) (n + 16) t := h.mono (by omega) (by omega)
  unfold byteR
  repeat' split
  · refine (Ok.drain (o := o) (n := n) (t.b.length + 1) (t := { t with b := t.b ++ [(x : Int)] }) { h with b := ?_ }).mono (by omega) (by omega)
    show (t.b ++ [(x : Int)]).length ≤ 4
    simp; omega
  · exact (Ok.plain (o := o + 6) (n := n + 12) (t := { signsR t (Sg.runes t.b) with b := [] }) { (h.signs (Sg.runes t.b)).mono (o' := o + 6) (n' := n + 12) (by omega) (by omega) with b := Nat.zero_le _ } x)
  · exact { h' with seq := by show ByteArray.empty.size ≤ 16; decide }
  · exact { h' with seq := seqC_size x h.seq }
  · exact Ok.ends (t := { t with ins := 0 }) { h' with } _ _
  · exact { h' with }
theorem Kp.ends (t : Term) (s : ByteArray) (x : Nat) : Kp t (endsR t s x) := by
  have he : ∀ (m k : Nat) (t : Term), Kp t (eraseFrom t k m) := by
    intro m
    induction m with
    | zero => intro k t; exact Kp.refl t
    | succ m ih => intro k t; exact (Kp.setRow t k _).trans (ih (k + 1) (erase t k 0))
  have h1 : Kp t (eraseAll t) := (Kp.setRow t t.row _).trans (he _ _ _)
  have h2 : Kp t (erase t t.row t.col) := Kp.setRow t t.row _
  have h5 : Kp t (T.home t s) := by
    unfold T.home
    split
    · exact Kp.refl t
    · exact ⟨rfl, fun _ => rfl, rfl, rfl, rfl⟩
  have h6 : ∀ q, Kp t (T.acts t q x) := fun q => by
    unfold T.acts
    repeat' split
    all_goals first | exact Kp.refl t | exact h1 | exact h2 | exact ⟨rfl, fun _ => rfl, rfl, rfl, rfl⟩
  unfold endsR
  repeat' split
  · exact h5
  · exact Kp.refl t
  · exact h6 _
theorem byteR_b {t : Term} (hb : t.b.length ≤ 3) (x : Nat) : (byteR t x).b.length ≤ 3 := by
  unfold byteR
  repeat' split
  · exact whole_short (drain_whole_not _ _ (by simp))
  · unfold plainR
    repeat' split
    · exact Nat.zero_le _
    · rw [(Kp.control _ x).b]; exact Nat.zero_le _
    · rw [(Kp.sign _ _).b]; exact Nat.zero_le _
  · exact hb
  · exact hb
  · rw [(Kp.ends _ _ _).b]; exact hb
  · exact hb
/-- The number of columns, and of rows. -/
theorem byteR_size {t : Term} (h0 : 1 ≤ t.l.length) (x : Nat) : (byteR t x).cols = t.cols ∧ (byteR t x).l.length = t.l.length := by
  unfold byteR
  repeat' split
  · obtain ⟨_, h1, h2⟩ := Kp'.drain (t.b.length + 1) { t with b := t.b ++ [(x : Int)] }
    exact ⟨h1, h2 h0⟩
  · have h1 := Kp.signs (Sg.runes t.b) t
    have h2 : 1 ≤ (signsR t (Sg.runes t.b)).l.length := by rw [h1.len h0]; exact h0
    unfold plainR
    repeat' split
    · exact ⟨h1.cols, h1.len h0⟩
    · have k := Kp.control { signsR t (Sg.runes t.b) with b := [] } x
      exact ⟨k.cols.trans h1.cols, (k.len h2).trans (h1.len h0)⟩
    · have k := Kp.sign { signsR t (Sg.runes t.b) with b := [] } x
      exact ⟨k.cols.trans h1.cols, (k.len h2).trans (h1.len h0)⟩
  · exact ⟨rfl, rfl⟩
  · exact ⟨rfl, rfl⟩
  · have k := Kp.ends { t with ins := 0 } t.seq x
    exact ⟨k.cols, k.len h0⟩
  · exact ⟨rfl, rfl⟩
theorem Fl.byte {t : Term} (h : Fl t) (h0 : 1 ≤ t.cols) (x : Nat) : Fl (byteR t x) := by
  unfold byteR
  repeat' split
  · exact Fl.drain _ (t := { t with b := t.b ++ [(x : Int)] }) h h0
  · have h1 := Fl.signs (Sg.runes t.b) h h0
    have h2 : 1 ≤ (signsR t (Sg.runes t.b)).cols := by rw [(Kp.signs (Sg.runes t.b) t).cols]; exact h0
    unfold plainR
    repeat' split
    · exact h1
    · exact Fl.control (t := { signsR t (Sg.runes t.b) with b := [] }) h1 x
    · exact Fl.sign (t := { signsR t (Sg.runes t.b) with b := [] }) h1 h2 x
  · exact h
  · exact h
  · exact Fl.ends (t := { t with ins := 0 }) h _ _
  · exact h

/-- All that a terminal keeps that has been fed. -/
structure Fed (o n : Nat) (t : Term) : Prop where
  ok : Ok o n t
  b : t.b.length ≤ 3
  fl : Fl t
theorem Fed.mono {o n o' n' : Nat} {t : Term} (h : Fed o n t) (ho : o ≤ o') (hn : n ≤ n') : Fed o' n' t := ⟨h.ok.mono ho hn, h.b, h.fl⟩
theorem Fed.byte {o n : Nat} {t : Term} (h : Fed o n t) (x : Nat) : Fed (o + 8) (n + 16) (byteR t x) := ⟨h.ok.byte h.b x, byteR_b h.b x, h.fl.byte h.ok.c0 x⟩
theorem Fed.feed : ∀ (l : List Int) {o n : Nat} {t : Term}, Fed o n t → Fed (o + 8 * l.length) (n + 16 * l.length) (feedR t l)
  | [], _, _, _, h => h
  | x :: l, _, _, _, h => (Fed.feed l (h.byte x.toNat)).mono (by simp; omega) (by simp; omega)
theorem feedR_size : ∀ (l : List Int) {t : Term}, 1 ≤ t.l.length → (feedR t l).cols = t.cols ∧ (feedR t l).l.length = t.l.length
  | [], _, _ => ⟨rfl, rfl⟩
  | x :: l, t, h0 => by
    obtain ⟨h1, h2⟩ := byteR_size h0 x.toNat
    obtain ⟨h3, h4⟩ := feedR_size l (t := byteR t x.toNat) (by rw [h2]; exact h0)
    exact ⟨h3.trans h1, h4.trans h2⟩
theorem Ok.new (r c : Int) : Ok 0 0 (New r c) := by
  have hR := cutR_in r
  have hC := cutC_in c
  unfold New
  refine { l0 := ?_, l1 := ?_, c0 := hC.1, c1 := hC.2, g := Nat.zero_le _, row := ?_, col := hC.1, off := ⟨Int.le_refl _, by simp⟩, rows := ?_, gone := ?_, b := Nat.zero_le _, seq := ?_ }
  · show 1 ≤ (List.replicate _ _).length; rw [List.length_replicate]; exact hR.1
  · show (List.replicate _ _).length ≤ 60; rw [List.length_replicate]; exact hR.2
  · show 0 < (List.replicate _ _).length; rw [List.length_replicate]; exact hR.1
  · intro x hx
    rw [List.eq_of_mem_replicate hx]
    exact RowOk.blank _ _
  · intro x hx; simp at hx
  · show ByteArray.empty.size ≤ 16; decide
theorem Fed.new (r c : Int) : Fed 0 0 (New r c) := ⟨Ok.new r c, Nat.zero_le _, Fl.of rfl⟩

/-! ### resize -/
def fitRow (C : Nat) (r : List Cell) : List Cell :=
  if C < r.length then (if (cellAt r C).wide = 0 then r.set (C - 1) Blank else r).take C else r ++ blankRow (C - r.length)
def shift1 (t : Term) : Term := { t with gone := keep (t.gone ++ [rowAt t.l 0]), off := t.off + 1, l := t.l.drop 1, row := t.row - 1 }
def shiftN : Nat → Term → Term
  | 0, t => t
  | k + 1, t => shiftN k (shift1 t)
def sized (t : Term) (R C : Nat) : Term := { t with cols := C, l := (t.l.take R).map (fitRow C) ++ List.replicate (R - t.l.length) (blankRow C) }
def resizeR (t : Term) (r c : Int) : Term :=
  moveTo (sized (shiftN (t.row + 1 - cutR r) t) (cutR r) (cutC c)) (shiftN (t.row + 1 - cutR r) t).row (shiftN (t.row + 1 - cutR r) t).col

theorem RowOk.fit {cols n : Nat} {r : List Cell} (h : RowOk cols n r) {C : Nat} (hC : 1 ≤ C) : RowOk C n (fitRow C r) := by
  obtain ⟨hu, hl, hs⟩ := h
  unfold fitRow
  split
  · rename_i hlt
    obtain ⟨a, b, ha, hb, ⟨x, e1, e2, rfl, rfl⟩ | ⟨x, k, e1, e2, e3, e4, rfl, e5⟩⟩ := hu.at C hlt
    · have hx : (cellAt (a ++ x :: b) a.length).wide = 1 := by rw [cellAt_mid, e1]
      rw [if_neg (by rw [hx]; decide), List.take_left]
      exact ⟨ha, rfl, fun c hc => hs c (by simp [hc])⟩
    · rcases e5 with rfl | rfl
      · have hx : (cellAt (a ++ x :: k :: b) a.length).wide = 2 := by rw [cellAt_mid, e1]
        rw [if_neg (by rw [hx]; decide), List.take_left]
        exact ⟨ha, rfl, fun c hc => hs c (by simp [hc])⟩
      · have hx : (cellAt (a ++ x :: k :: b) (a.length + 1)).wide = 0 := by rw [cellAt_append a (x :: k :: b) 1]; exact e3
        rw [if_pos hx, Nat.add_sub_cancel, set_mid]
        have e : (a ++ Blank :: k :: b).take (a.length + 1) = a ++ [Blank] := by
          rw [List.take_append, List.take_of_length_le (by omega)]; simp
        rw [e]
        refine ⟨ha.append (Blank_one .nil), by simp, fun c hc => ?_⟩
        rw [List.mem_append, List.mem_singleton] at hc
        rcases hc with hc | rfl
        · exact hs c (by simp [hc])
        · rw [Blank_size]; omega
  · refine ⟨hu.append (blankRow_units _), by simp [blankRow]; omega, fun c hc => ?_⟩
    rw [List.mem_append] at hc
    rcases hc with hc | hc
    · exact hs c hc
    · rw [List.eq_of_mem_replicate hc, Blank_size]; omega

/-- What is kept while rows go off. -/
structure Sh (o n : Nat) (t : Term) : Prop where
  l1 : t.l.length ≤ 60
  g : t.gone.length ≤ 1000
  row : t.row < t.l.length
  off : 0 ≤ t.off ∧ t.off ≤ o
  rows : ∀ r ∈ t.l, RowOk t.cols n r
  gone : ∀ r ∈ t.gone, 1 ≤ r.length ∧ r.length ≤ 120
  c0 : 1 ≤ t.cols
  c1 : t.cols ≤ 120
theorem Ok.sh {o n : Nat} {t : Term} (h : Ok o n t) : Sh o n t := ⟨h.l1, h.g, h.row, h.off, h.rows, h.gone, h.c0, h.c1⟩
theorem Sh.shift1 {o n : Nat} {t : Term} (h : Sh o n t) (h1 : 1 ≤ t.row) : Sh (o + 1) n (shift1 t) := by
  have hl := h.row
  have eg : (T.shift1 t).gone = keep (t.gone ++ [rowAt t.l 0]) := by simp only [T.shift1]
  refine ⟨?_, ?_, ?_, ?_, ?_, ?_, h.c0, h.c1⟩
  · show (t.l.drop 1).length ≤ 60; rw [List.length_drop]; have := h.l1; omega
  · rw [eg]
    have := h.g; simp only [keep, List.length_drop, List.length_append, List.length_singleton]; omega
  · show t.row - 1 < (t.l.drop 1).length; rw [List.length_drop]; omega
  · show 0 ≤ t.off + 1 ∧ t.off + 1 ≤ ((o + 1 : Nat) : Int); have := h.off; omega
  · intro r hr; exact h.rows r (List.mem_of_mem_drop hr)
  · intro r hr
    rw [eg] at hr
    have hr := List.mem_of_mem_drop hr
    rw [List.mem_append, List.mem_singleton] at hr
    rcases hr with hr | rfl
    · exact h.gone r hr
    · have := (h.rows _ (rowAt_mem (k := 0) (by omega))).2.1; have := h.c0; have := h.c1; omega
theorem shiftN_row : ∀ (k : Nat) (t : Term), (shiftN k t).row = t.row - k ∧ (shiftN k t).col = t.col ∧ (shiftN k t).cols = t.cols ∧ (shiftN k t).l = t.l.drop k
  | 0, t => ⟨rfl, rfl, rfl, rfl⟩
  | k + 1, t => by
    obtain ⟨h1, h2, h3, h4⟩ := shiftN_row k (shift1 t)
    refine ⟨h1.trans ?_, h2, h3, h4.trans ?_⟩
    · show t.row - 1 - k = t.row - (k + 1); omega
    · show (t.l.drop 1).drop k = t.l.drop (k + 1); rw [List.drop_drop, Nat.add_comm 1 k]
theorem Sh.shiftN {n : Nat} : ∀ (k : Nat) {o : Nat} {t : Term}, Sh o n t → k ≤ t.row → Sh (o + k) n (shiftN k t)
  | 0, _, _, h, _ => h
  | k + 1, o, t, h, hk => by
    have h1 := Sh.shiftN k (h.shift1 (by omega)) (show k ≤ t.row - 1 by omega)
    rw [show o + (k + 1) = o + 1 + k by omega]
    exact h1
theorem sized_len (t : Term) (R C : Nat) : (sized t R C).l.length = R := by
  show ((t.l.take R).map (fitRow C) ++ List.replicate (R - t.l.length) (blankRow C)).length = R
  simp; omega
theorem Sh.resize {o n : Nat} {t : Term} (h : Sh o n t) (hb : t.b.length ≤ 4) (hs : t.seq.size ≤ 16) {R C : Nat} (hR : 1 ≤ R ∧ R ≤ 60) (hC : 1 ≤ C ∧ C ≤ 120) (r c : Int) : Ok o n (moveTo (sized t R C) r c) := by
  have hl := sized_len t R C
  refine { l0 := ?_, l1 := ?_, c0 := hC.1, c1 := hC.2, g := h.g, row := ?_, col := ?_, off := h.off, rows := ?_, gone := h.gone, b := hb, seq := hs }
  · show 1 ≤ (sized t R C).l.length; rw [hl]; exact hR.1
  · show (sized t R C).l.length ≤ 60; rw [hl]; exact hR.2
  · show (min (max r 0) ((sized t R C).l.length - 1 : Int)).toNat < (sized t R C).l.length; rw [hl]; omega
  · show (min (max c 0) (C - 1 : Int)).toNat < C; omega
  · intro x hx
    have hx : x ∈ (t.l.take R).map (fitRow C) ++ List.replicate (R - t.l.length) (blankRow C) := hx
    rw [List.mem_append, List.mem_map] at hx
    rcases hx with ⟨y, hy, rfl⟩ | hx
    · exact (h.rows y (List.mem_of_mem_take hy)).fit hC.1
    · rw [List.eq_of_mem_replicate hx]; exact RowOk.blank _ _
theorem shiftN_rest : ∀ (k : Nat) (t : Term), (shiftN k t).b = t.b ∧ (shiftN k t).seq = t.seq ∧ (shiftN k t).ins = t.ins
  | 0, t => ⟨rfl, rfl, rfl⟩
  | k + 1, t => shiftN_rest k (shift1 t)
theorem Fed.resize {o n : Nat} {t : Term} (h : Fed o n t) (r c : Int) : Fed (o + 60) n (resizeR t r c) := by
  have h1 := h.ok.row
  have h2 := h.ok.l1
  have h3 := cutR_in r
  have hk := shiftN_rest (t.row + 1 - cutR r) t
  refine ⟨Ok.mono (Sh.resize (h.ok.sh.shiftN _ (by omega)) ?_ ?_ h3 (cutC_in c) _ _) (by omega) (Nat.le_refl n), ?_, Fl.of rfl⟩
  · rw [hk.1]; exact h.ok.b
  · rw [hk.2.1]; exact h.ok.seq
  · show (shiftN (t.row + 1 - cutR r) t).b.length ≤ 3
    rw [hk.1]; exact h.b
theorem resizeR_size (t : Term) (r c : Int) : (resizeR t r c).cols = cutC c ∧ (resizeR t r c).l.length = cutR r := ⟨rfl, sized_len _ _ _⟩
end T
end Go.Proofs.YtoegjmeoeefllaaGreatDoor
