/- Walks: signs out of bytes. -/
import Derived.Test.YtoegjmeoeefllaaGreatDoorOps
import Derived.Test.YtoegjmeoeefllaaGreatDoorProg
import Derived.RegionTactic
import Derived.Deep.QuietTactic
import Derived.BigQuiet
import Derived.BigRegion
import Derived.Outline
import Derived.Deep.Cut
import Derived.Lib.OthersKept
import Derived.Laws.RangeAny
import Derived.Laws.BytesString
import Derived.WalkSmall
namespace Go.Proofs.YtoegjmeoeefllaaGreatDoor
open Go Go.RowKit
namespace Sg
attribute [local go_sem high] run_max_2 run_min_2

def toB (b : List Int) : ByteArray := ⟨(b.map (fun n => UInt8.ofNat n.toNat)).toArray⟩
theorem size_toB (b : List Int) : (toB b).size = b.length := by simp [toB, ByteArray.size]
theorem foldl_toB : ∀ (l : List Int) (r : ByteArray), l.foldl (fun r n => r.push (UInt8.ofNat n.toNat)) r = ⟨r.data ++ (toB l).data⟩
  | [], r => by simp [toB]
  | b :: l, r => by
    rw [List.foldl_cons, foldl_toB l]
    simp [toB, ByteArray.push]
theorem run_convert_rd {P : Program} {w : World} {src dst e : TypeId} (hs : P.underlying src = some (.slice e)) (he : P.underlying e = some (.int .u8)) (hd : P.underlying dst = some .string)
    {v : Value} {n : Nat} {ns : List Int} {G : Nat → Prop} (h : Rd w 1 v n (ns.map (Value.int .u8)) G) : (convert src dst v).run P w = .ok (.string (toB ns)) w := by
  have hlen := h.length
  rw [List.length_map] at hlen
  rcases h.src with ⟨A, c, rfl, rfl, h0⟩ | ⟨b, o, c, rfl, hn, _, hcell⟩
  · have e0 : ns = [] := by cases ns with | nil => rfl | cons a l => simp at h0
    subst e0
    rw [run_convert_bytes_string w src dst e A 0 c hs he hd]
    cases A with
    | none => rfl
    | some a => exact (run_bytesToString w a 0 c [] (by simp [loadCells, loadCellsFrom]))
  · rw [run_convert_bytes_string w src dst e _ n c hs he hd]
    have hl := run_loadCells_list (P := P) w ⟨b, o, none⟩ (ns.map (Value.int .u8)) (fun j v hv => hcell j v hv)
    rw [List.length_map, show ns.length = n by omega] at hl
    rw [run_bytesToString w _ n c ns hl, foldl_toB, show ByteArray.empty.data = #[] from rfl]
    simp [toB]

theorem Chg.iterAt {F : Nat → Prop} {w w1 : World} (h : Chg F w w1) {k : Nat} (hk : F k ∨ w.heap.size ≤ k) (s : ByteArray) (pos : Nat) : Chg F w (w1.iterAt k s pos) := by
  refine ⟨h.os, h.tape, h.output, ?_, fun b hb hn => ?_⟩
  · rw [Lib.iterAt_size]; exact h.size
  · have hbk : b ≠ k := fun e => by subst e; rcases hk with h1 | h1; exact hn h1; omega
    rw [Lib.iterAt_other w1 k b s pos hbk]
    exact h.block b hb hn
theorem width_pos (s : ByteArray) (pos : Nat) (h : pos < s.size) : 1 ≤ (Utf8.decode s pos).2 := by
  by_cases ha : (s[pos]'h).toNat < 128
  · rw [decode_ascii s pos h ha]
    exact Nat.le_refl _
  · exact (decode_high s pos h (by omega)).2

def nxt (b : List Int) : Int × Nat :=
  if b.length = 0 then (0, 0) else (((Utf8.decode (toB (b.take 4)) 0).1 : Nat), min (Utf8.decode (toB (b.take 4)) 0).2 (min b.length 4))

theorem Next_calls {w : World} {A : Option Addr} {c n : Nat} {b : List Int} {G : Nat → Prop} (h : Rd w 1 (.slice A n c) n (b.map (Value.int .u8)) G) (hn : n ≤ 1000000) :
    Calls Tryz.prog 35 #[.slice A n c] w fun e w' => e = .returned (.tuple #[.int .i32 (nxt b).1, .int .i64 (nxt b).2]) ∧ Chg Non w w' := by
  have hlen := h.length
  rw [List.length_map, Nat.mul_one] at hlen
  obtain ⟨_, _, e1, hnc, hc⟩ := h.shape
  cases e1
  obtain ⟨s, hs⟩ : ∃ s, s = toB (b.take 4) := ⟨_, rfl⟩
  have hsz : s.size = min n 4 := by rw [hs, size_toB, List.length_take, hlen]; omega
  have ht := h.take (min n 4) (Nat.min_le_left _ _)
  rw [← List.map_take, show min n 4 * 1 = min n 4 by omega, show b.take (min n 4) = b.take 4 by rw [← hlen, Nat.min_comm]; exact List.take_eq_take_min.symm] at ht
  have hcv := run_convert_rd (P := Tryz.prog) (src := 34) (dst := 9) Tryz.underlying34 Tryz.underlying5 Tryz.underlying9 ht
  rw [← hs] at hcv
  have hnx0 : nxt b = if n = 0 then ((0 : Int), (0 : Nat)) else ((((Utf8.decode s 0).1 : Nat) : Int), min (Utf8.decode s 0).2 (min n 4)) := by unfold nxt; rw [hlen, ← hs]
  obtain ⟨⟨q1, q2⟩, hq⟩ : ∃ q, q = nxt b := ⟨_, rfl⟩
  rw [← hq]
  rw [← hq] at hnx0
  have HA : Hid (n = 0 → q1 = 0 ∧ q2 = 0) := Lib.hid (fun e => by rw [if_pos e] at hnx0; simpa using hnx0)
  have HB : Hid (0 < n → q1 = ((Utf8.decode s 0).1 : Nat) ∧ q2 = min (Utf8.decode s 0).2 (min n 4)) := Lib.hid (fun e => by rw [if_neg (by omega)] at hnx0; simpa using hnx0)
  clear hnx0 hq hlen h ht hs
  show Calls _ _ _ _ (fun e w' => e = .returned (.tuple #[.int .i32 q1, .int .i64 q2]) ∧ Chg Non w w')
  obtain ⟨m, hm⟩ : ∃ m, m = min n 4 := ⟨_, rfl⟩
  rw [← hm] at hsz hcv HB
  have hm4 : (min (n : Int) 4) = (m : Int) := by omega
  have hm0 : (0 : Int) ≤ (m : Int) := by omega
  have hm1 : (m : Int) ≤ (c : Int) := by omega
  have Hm := Lib.hid hm
  clear hm
  go_enter Tryz.func35, Tryz.ntmps35
  go_wp2_with fail
  have Hz := Lib.hid hsz
  clear hsz hcv
  go_loopw [4, 5] (fun a f wr => ∃ pos, wr.heap[w.heap.size]? = some (.stringIter s pos) ∧ Chg Non w wr ∧ ((pos = 0 ∧ a = .int .i64 0 ∧ f = .int .i32 0) ∨ (pos = (Utf8.decode s 0).2 ∧ 0 < s.size ∧ a = .int .i64 1 ∧ f = .int .i32 (Utf8.decode s 0).1))) (fun _ _ wr => s.size - wr.iterPos w.heap.size)
  case atStart => exact ⟨0, World.iter_heap w s 0, (Chg.refl _ w).alloc _, .inl ⟨rfl, rfl, rfl⟩⟩
  case round =>
    obtain ⟨pos, hit, hch, hst⟩ := hrel
    by_cases hp : pos < s.size
    · have hnx : ∀ ty, (Instr.next (.pointer (some ⟨w.heap.size, 0, none⟩)) true ty).run Tryz.prog wr = _ := fun ty => Lib.run_next_any_at wr w.heap.size s pos ty hit hp
      have hit2 := Lib.iterAt_heap wr w.heap.size s pos (pos + (Utf8.decode s pos).2) hit
      have hch2 := Chg.iterAt hch (k := w.heap.size) (.inr (Nat.le_refl _)) s (pos + (Utf8.decode s pos).2)
      have hwd := width_pos s pos hp
      have Hp := Lib.hid hp
      clear hp
      rcases hst with ⟨rfl, rfl, rfl⟩ | ⟨rfl, h0, rfl, rfl⟩
      · rw [Nat.zero_add] at hit2 hch2
        go_wp2_with fail
        go_roundw
        case rel => exact ⟨_, hit2, hch2, .inr ⟨rfl, Hp.out, by go_num, by go_num⟩⟩
        case measure => have h1 : 0 < s.size := Hp.out; rw [iterPos_of hit2, iterPos_of hit]; omega
      · have hpos : (0 : Int) < ((Utf8.decode s 0).2 : Int) := by have := width_pos s 0 h0; omega
        go_wp2_with fail
        go_ret2
        refine ⟨?_, hch2⟩
        have h1 : s.size = m := Hz.out
        have h3 : m = min n 4 := Hm.out
        have h2 : (Utf8.decode s 0).2 < s.size := Hp.out
        obtain ⟨rfl, rfl⟩ := HB.out (by omega)
        rw [Nat.min_eq_left (by omega)]
        rfl
    · have hnx : ∀ ty, (Instr.next (.pointer (some ⟨w.heap.size, 0, none⟩)) true ty).run Tryz.prog wr = _ := fun ty => Lib.run_next_end_at wr w.heap.size s pos ty hit hp
      have Hp := Lib.hid hp
      clear hp
      rcases hst with ⟨rfl, rfl, rfl⟩ | ⟨rfl, h0, rfl, rfl⟩
      · go_wp2_with fail
        go_ret2
        have h1 : s.size = m := Hz.out
        have h3 : m = min n 4 := Hm.out
        have h2 : ¬ 0 < s.size := Hp.out
        obtain ⟨rfl, rfl⟩ := HA.out (by omega)
        exact ⟨rfl, hch⟩
      · go_wp2_with fail
        go_ret2
        refine ⟨?_, hch⟩
        have h1 : s.size = m := Hz.out
        have h3 : m = min n 4 := Hm.out
        have h2 : ¬ (Utf8.decode s 0).2 < s.size := Hp.out
        obtain ⟨rfl, rfl⟩ := HB.out (by omega)
        rw [Nat.min_eq_right (by omega)]
        rfl

theorem eiRune : EInfo Tryz.prog 70 21 1 4 (.int .i32 0) := ⟨Tryz.underlying70, by kernel_rfl, rfl, by omega, by omega⟩
def rnsFrom (s : ByteArray) : Nat → Nat → List Int
  | 0, _ => []
  | f + 1, pos => if pos < s.size then ((Utf8.decode s pos).1 : Nat) :: rnsFrom s f (pos + (Utf8.decode s pos).2) else []
theorem rnsFrom_end (s : ByteArray) (f pos : Nat) (h : ¬ pos < s.size) : rnsFrom s f pos = [] := by cases f <;> simp [rnsFrom, h]
theorem rnsFrom_length (s : ByteArray) : ∀ f pos, (rnsFrom s f pos).length ≤ f
  | 0, _ => by simp [rnsFrom]
  | f + 1, pos => by
    have ih := rnsFrom_length s f (pos + (Utf8.decode s pos).2)
    unfold rnsFrom
    split
    · rw [List.length_cons]; omega
    · simp
def runes (b : List Int) : List Int := rnsFrom (toB b) b.length 0

theorem Runes_calls {w : World} {v : Value} {n : Nat} {b : List Int} {G : Nat → Prop} (h : Rd w 1 v n (b.map (Value.int .u8)) G) (hn : n ≤ 1000000) :
    Calls Tryz.prog 38 #[v] w fun e w' => ∃ A' c', e = .returned (.slice A' (runes b).length c') ∧ Sl w' 21 1 (.slice A' (runes b).length c') (runes b).length ((runes b).map (Value.int .i32)) (fun b => w.heap.size ≤ b) ∧ Chg Non w w' := by
  have hlen := h.length
  rw [List.length_map, Nat.mul_one] at hlen
  have hcv := run_convert_rd (P := Tryz.prog) (src := 34) (dst := 9) Tryz.underlying34 Tryz.underlying5 Tryz.underlying9 h
  obtain ⟨s, hs⟩ : ∃ s, s = toB b := ⟨_, rfl⟩
  obtain ⟨R, hR⟩ : ∃ R, R = runes b := ⟨_, rfl⟩
  rw [← hR]
  rw [← hs] at hcv
  have hsz : s.size = n := by rw [hs, size_toB, hlen]
  have HR : Hid (R = rnsFrom s n 0) := Lib.hid (by rw [hR, runes, ← hs, hlen])
  have Hz := Lib.hid hsz
  clear hs hR h hsz hlen
  go_enter Tryz.func38, Tryz.ntmps38
  go_wp2_with fail
  go_loopw [3] (fun u wr => ∃ pos acc, wr.heap[w.heap.size]? = some (.stringIter s pos) ∧ Chg Non w wr ∧ Hid (∃ f, R = acc ++ rnsFrom s f pos ∧ acc.length + f ≤ n ∧ s.size ≤ pos + f) ∧ Sl wr 21 1 u acc.length (acc.map (Value.int .i32)) (fun b => w.heap.size < b)) (fun _ wr => s.size - wr.iterPos w.heap.size)
  case atStart => exact ⟨0, [], World.iter_heap w s 0, (Chg.refl _ w).alloc _, Lib.hid ⟨n, HR.out, by simp, by have := Hz.out; omega⟩, Sl.nil _ _ _ _⟩
  case round =>
    obtain ⟨pos, acc, hit, hch, hst, hsl⟩ := hrel
    by_cases hp : pos < s.size
    · have hnx : ∀ ty, (Instr.next (.pointer (some ⟨w.heap.size, 0, none⟩)) true ty).run Tryz.prog wr = _ := fun ty => Lib.run_next_any_at wr w.heap.size s pos ty hit hp
      have hit2 := Lib.iterAt_heap wr w.heap.size s pos (pos + (Utf8.decode s pos).2) hit
      have hch2 := Chg.iterAt hch (k := w.heap.size) (.inr (Nat.le_refl _)) s (pos + (Utf8.decode s pos).2)
      have hch3 := Chg.iterAt (F := fun b => b = w.heap.size) (Chg.refl _ wr) (k := w.heap.size) (.inl rfl) s (pos + (Utf8.decode s pos).2)
      have hwd := width_pos s pos hp
      have Hp := Lib.hid hp
      clear hp
      generalize (wr.iterAt w.heap.size s (pos + (Utf8.decode s pos).2)) = w1 at hnx hit2 hch2 hch3
      have hs2 := (hsl.chg hch3 (fun k hk e => by omega)).chg (Chg.alloc (Chg.refl Non w1) (.cells #[.int .i32 (Utf8.decode s pos).1] 21)) (fun _ _ h => h)
      have hnew : Rd (w1.alloc (.cells #[.int .i32 (Utf8.decode s pos).1] 21)) 1 (.slice (some ⟨w1.heap.size, 0, none⟩) 1 1) 1 [.int .i32 (Utf8.decode s pos).1] (fun _ => True) := Rd.new _ [_] _ _ (by simp) (by omega)
      have Hacc : acc.length ≤ 1000000 := by obtain ⟨f, h1, h2, h3⟩ := hst.out; omega
      go_wp2_with (refine wpList_append_sl (by rfl) _ _ 70 (by rfl) eiRune (by rfl) hs2 (by rfl) hnew (by simp [Value.oneCell']) (by omega) ?_; intro A3 c3 w2 hs3 hc2 hl2 hz2)
      have hlt1 : w.heap.size < w1.heap.size := (Array.getElem?_eq_some_iff.1 hit2).1
      have hit3 : w2.heap[w.heap.size]? = some (.stringIter s (pos + (Utf8.decode s pos).2)) := by
        rw [hc2.block _ (by rw [World.size_alloc]; omega) (fun hb => by have := hs2.wbF' hb; omega), Below.heap_alloc w1 _ _ hlt1, hit2]
      go_roundw
      case rel =>
        refine ⟨_, acc ++ [((Utf8.decode s pos).1 : Int)], hit3, (hch2.alloc _).trans hc2 (fun b hb => .inr (Nat.le_of_lt (hs2.wbF' hb))), ?_, ?_⟩
        · obtain ⟨f, h1, h2, h3⟩ := hst.out
          have h4 : pos < s.size := Hp.out
          obtain ⟨f, rfl⟩ : ∃ g, f = g + 1 := ⟨f - 1, by omega⟩
          refine Lib.hid ⟨f, ?_, by simp; omega, by omega⟩
          rw [h1, rnsFrom, if_pos h4]
          simp
        · rw [List.length_append, List.map_append]
          exact hs3.mono (fun k _ hk => by rcases hk with hk | hk; exact hk; rw [World.size_alloc] at hk; omega)
      case measure => have h4 : pos < s.size := Hp.out; rw [iterPos_of hit3, iterPos_of hit]; omega
    · have hnx : ∀ ty, (Instr.next (.pointer (some ⟨w.heap.size, 0, none⟩)) true ty).run Tryz.prog wr = _ := fun ty => Lib.run_next_end_at wr w.heap.size s pos ty hit hp
      have Hp := Lib.hid hp
      clear hp
      obtain ⟨A', c', rfl, _, _⟩ := hsl.shape
      go_wp2_with fail
      go_ret
      obtain ⟨f, h1, h2, h3⟩ := hst.out
      rw [rnsFrom_end s f pos Hp.out, List.append_nil] at h1
      subst h1
      exact ⟨_, _, rfl, hsl.mono (fun k _ hk => Nat.le_of_lt hk), hch⟩

def tailsR (x : Int) : Int × Int × Int :=
  if 194 ≤ x ∧ x ≤ 223 then (1, 128, 191) else if x = 224 then (2, 160, 191) else if x = 237 then (2, 128, 159) else if 225 ≤ x ∧ x ≤ 239 then (2, 128, 191)
  else if x = 240 then (3, 144, 191) else if 241 ≤ x ∧ x ≤ 243 then (3, 128, 191) else if x = 244 then (3, 128, 143) else (0, 0, 0)
theorem tails_calls (x : Int) (w : World) : Calls Tryz.prog 42 #[.int .u8 x] w fun e w' => e = .returned (.tuple #[.int .i64 (tailsR x).1, .int .u8 (tailsR x).2.1, .int .u8 (tailsR x).2.2]) ∧ w = w' := by
  obtain ⟨⟨q1, q2, q3⟩, hq⟩ : ∃ q, q = tailsR x := ⟨_, rfl⟩
  rw [← hq]
  have Hq : Hid (_ = _) := Lib.hid hq
  clear hq
  go_enter Tryz.func42, Tryz.ntmps42
  go_wp2
  all_goals (go_ret3; refine ⟨?_, rfl⟩; have h1 : (q1, q2, q3) = tailsR x := Hq.out; try simp only [beq_iff_eq, beq_eq_false_iff_ne, ne_eq] at *)
  all_goals (unfold tailsR at h1; (repeat' split at h1) <;> first | omega | (injection h1 with e1 e2; injection e2 with e2 e3; subst e1 e2 e3; rfl))

def wloop : List Int → Nat → Int → Int → Bool
  | _, 0, _, _ => true
  | [], _ + 1, _, _ => false
  | y :: r, n + 1, low, high => if y < low ∨ high < y then true else wloop r n 128 191
def wholeR : List Int → Bool
  | [] => false
  | x :: r => wloop r (tailsR x).1.toNat (tailsR x).2.1 (tailsR x).2.2
theorem tailsR_le (x : Int) : 0 ≤ (tailsR x).1 ∧ (tailsR x).1 ≤ 3 := by
  unfold tailsR
  repeat' split
  all_goals simp

theorem Whole_calls {w : World} {v : Value} {n : Nat} {b : List Int} {G : Nat → Prop} (h : Rd w 1 v n (b.map (Value.int .u8)) G) (hn : n ≤ 1000000) :
    Calls Tryz.prog 34 #[v] w fun e w' => e = .returned (.bool (wholeR b)) ∧ Chg Non w w' := by
  have hlen := h.length
  rw [List.length_map, Nat.mul_one] at hlen
  obtain ⟨A, c, rfl, hnc, hc⟩ := h.shape
  unfold maxLen at hc
  by_cases h0 : n = 0
  · subst h0
    have e0 : b = [] := List.length_eq_zero_iff.1 hlen
    subst e0
    clear h
    go_enter Tryz.func34, Tryz.ntmps34
    go_wp2
    go_ret
    exact ⟨rfl, Chg.refl _ _⟩
  · obtain ⟨lb, lo, rfl, hG, hcell⟩ := h.pos (by omega)
    have hel : ∀ j : Nat, j < n → w.cell? ⟨lb, lo + j, none⟩ = some (.int .u8 b[j]!) := fun j hj => by
      rw [hcell j (by omega), List.getElem?_map, List.getElem?_eq_getElem (by omega), getElem!_pos b j (by omega)]
      rfl
    obtain ⟨x, r, rfl⟩ : ∃ x r, b = x :: r := by cases b with | nil => simp at hlen; omega | cons x r => exact ⟨x, r, rfl⟩
    have c0 : w.cell? ⟨lb, lo, none⟩ = some (.int .u8 x) := hel 0 (by omega)
    have hn0 : (0 : Int) < (n : Int) := by omega
    have hn1 : ((n : Int) == 0) = false := by simpa using h0
    obtain ⟨q, hq⟩ : ∃ q, q = wholeR (x :: r) := ⟨_, rfl⟩
    have hle := tailsR_le x
    obtain ⟨⟨t1, t2, t3⟩, ht⟩ : ∃ t, t = tailsR x := ⟨_, rfl⟩
    have htc := tails_calls x
    rw [wholeR, ← ht] at hq
    rw [← ht] at htc hle
    simp only at htc hle hq
    obtain ⟨m, rfl⟩ : ∃ m : Nat, t1 = (m : Int) := ⟨t1.toNat, by omega⟩
    rw [show wholeR (x :: r) = q by rw [hq, wholeR, ← ht]]
    rw [Int.toNat_natCast] at hq
    have Hel := Lib.hid hel
    have Hq := Lib.hid hq
    have Hlen := Lib.hid hlen
    clear hel hcell h hlen hq ht h0
    go_enter Tryz.func34, Tryz.ntmps34
    go_wp2_with fail
    refine (htc w).mono ?_
    rintro e w1 ⟨rfl, rfl⟩
    go_wp2_with fail
    go_loopw [4, 5, 6] (fun a d i wr => ∃ (k : Nat) (low high : Int), a = .int .u8 low ∧ d = .int .u8 high ∧ i = .int .i64 k ∧ Chg Non w wr ∧ 1 ≤ k ∧ k ≤ m + 1 ∧ k ≤ n ∧ Hid (q = wloop ((x :: r).drop k) (m + 1 - k) low high)) (fun _ _ i _ => m + 1 - (intOf i).toNat)
    case atStart => exact ⟨1, _, _, rfl, rfl, rfl, Chg.refl _ _, Nat.le_refl _, by omega, by omega, Hq⟩
    case round =>
      obtain ⟨k, low, high, rfl, rfl, rfl, hch, hk1, hk2, hk3, HQ⟩ := hrel
      by_cases hkm : k ≤ m
      · have hkmi : (k : Int) ≤ (m : Int) := by omega
        by_cases hkn : k < n
        · have hkni : (k : Int) < (n : Int) := by omega
          obtain ⟨y, hy⟩ : ∃ y, y = (x :: r)[k]! := ⟨_, rfl⟩
          have c1 : wr.cell? ⟨lb, lo + k, none⟩ = some (.int .u8 y) := hch.cell (by rw [hy]; exact Hel.out k hkn) (fun h => h)
          have HQ2 : Hid (q = if y < low ∨ high < y then true else wloop ((x :: r).drop (k + 1)) (m - k) 128 191) := Lib.hid (by
            have h1 := HQ.out
            have h2 : (x :: r).length = n := Hlen.out
            rw [List.drop_eq_getElem_cons (by omega), ← getElem!_pos (x :: r) k (by omega), ← hy, show m + 1 - k = (m - k) + 1 by omega, wloop] at h1
            exact h1)
          clear hy
          by_cases hlow : y < low
          · go_wp2
            go_ret
            exact ⟨by rw [HQ2.out, if_pos (.inl hlow)]; rfl, hch⟩
          · by_cases hhigh : high < y
            · go_wp2
              go_ret
              exact ⟨by rw [HQ2.out, if_pos (.inr hhigh)]; rfl, hch⟩
            · go_wp2
              go_roundw
              case rel => exact ⟨k + 1, 128, 191, by go_num, by go_num, by go_num, hch, by omega, by omega, by omega, Lib.hid (by have h1 := HQ2.out; rw [if_neg (by omega)] at h1; rw [h1, show m + 1 - (k + 1) = m - k by omega])⟩
              case measure => simp [intOf]; omega
        · have hkni : ¬ (k : Int) < (n : Int) := by omega
          go_wp2
          go_ret
          have h2 : (x :: r).length = n := Hlen.out
          have h1 := HQ.out
          rw [List.drop_eq_nil_of_le (by omega), show m + 1 - k = (m - k) + 1 by omega, wloop] at h1
          exact ⟨by rw [h1]; rfl, hch⟩
      · have hkmi : ¬ (k : Int) ≤ (m : Int) := by omega
        go_wp2
        go_ret
        have h1 := HQ.out
        rw [show m + 1 - k = 0 by omega] at h1
        have h3 : q = true := by rw [h1]; cases List.drop k (x :: r) <;> rfl
        exact ⟨by rw [h3]; rfl, hch⟩
end Sg
end Go.Proofs.YtoegjmeoeefllaaGreatDoor
