/- Walks: number. -/
import Derived.Test.YtoegjmeoeefllaaGreatDoorBase
import Derived.Test.YtoegjmeoeefllaaGreatDoorProg
import Derived.Test.YtoegjmeoeefllaaGreatDoorShelf
import Derived.Shelf.Strings.SlTrimAscii
import Derived.Shelf.Strconv.AtoiAll
import Derived.RegionTactic
import Derived.Outline
import Derived.Deep.Cut
namespace Go.Proofs.YtoegjmeoeefllaaGreatDoor
open Go Go.RowKit
namespace T

/-- What the errors' own variables hold. -/
def Holds (w : World) (g : Nat) : Prop := ∃ ev, w.cell? ⟨g, 0, none⟩ = some ev ∧ (ev = .nilIface ∨ ∃ te pe, ev = .iface te pe)
def Glob (w : World) : Prop := Holds w 0 ∧ Holds w 1
theorem Holds.chg {w w' : World} {g : Nat} {F : Nat → Prop} (h : Holds w g) (hc : Chg F w w') (hn : ¬ F g) : Holds w' g := by
  obtain ⟨ev, h1, h2⟩ := h
  exact ⟨ev, hc.cell h1 hn, h2⟩
theorem Glob.chg {w w' : World} {F : Nat → Prop} (h : Glob w) (hc : Chg F w w') (h0 : ¬ F 0) (h1 : ¬ F 1) : Glob w' := ⟨h.1.chg hc h0, h.2.chg hc h1⟩

def digits : ByteArray := ⟨#[48, 49, 50, 51, 52, 53, 54, 55, 56, 57]⟩
def atoiV (s : ByteArray) : Int := match Lib.atoiAll s.data.toList with | .ok v => v | .range => Lib.atoiSat s.data.toList | _ => 0
def numR (s : ByteArray) : Int × Bool := if Lib.trimS s.data.toList digits.data.toList = [] ∧ s.size ≤ 3 then (atoiV s, true) else (0, false)

theorem Atoi_calls (s : ByteArray) (w : World) (hG : Glob w) (hs : s.size ≤ 1000000) :
    Calls Tryz.prog 59 #[.string s] w fun e w' => ∃ u, e = .returned (.tuple #[.int .i64 (atoiV s), u]) ∧ Chg Non w w' := by
  obtain ⟨⟨e0, h1, h2⟩, ⟨e1, h3, h4⟩⟩ := hG
  cases hq : Lib.atoiAll s.data.toList with
  | ok v =>
    refine (Any.strconv_Atoi_ok Tryz.laysC172 s (by omega) v hq w).mono ?_
    rintro e w' ⟨rfl, hw⟩
    refine ⟨_, by rw [atoiV, hq], ?_⟩
    rcases hw with rfl | ⟨t, rfl⟩
    · exact Chg.refl _ _
    · have hb : Below w.heap.size w (Lib.bytesWorld w (Tryz.laysC172_ren.t 5) t) := ⟨rfl, rfl, rfl, by rw [Lib.bytesWorld_size]; omega, fun j hj => Lib.bytesWorld_at_old w _ t j hj⟩
      exact Chg.of_below hb _
  | range =>
    refine (Any.strconv_Atoi_range Tryz.laysC172 s (by omega) hq e1 w h3 h4).mono ?_
    rintro e w' ⟨N, rfl, _, _, hb⟩
    exact ⟨_, by rw [atoiV, hq], Chg.of_below hb _⟩
  | _ =>
    refine (Any.strconv_Atoi_syntax Tryz.laysC172 s (by omega) hq e0 w h1 h2).mono ?_
    rintro e w' ⟨N, rfl, _, _, hb⟩
    exact ⟨_, by rw [atoiV, hq], Chg.of_below hb _⟩

theorem number_calls (s : ByteArray) (w : World) (hG : Glob w) (hs : s.size ≤ 1000000) :
    Calls Tryz.prog 49 #[.string s] w fun e w' => e = .returned (.tuple #[.int .i64 (numR s).1, .bool (numR s).2]) ∧ Chg Non w w' := by
  have htr := fun w => Any.strings_Trim_laid Tryz.lays160 (by kernel_rfl) s digits w (by omega) (by decide) (ascii_of_all (by decide))
  obtain ⟨l, hl⟩ : ∃ l, l = Lib.trimS s.data.toList digits.data.toList := ⟨_, rfl⟩
  rw [← hl] at htr
  change ∀ w, Calls Tryz.prog 58 _ _ _ at htr
  obtain ⟨⟨q1, q2⟩, hq⟩ : ∃ q, q = numR s := ⟨_, rfl⟩
  rw [← hq]
  show Calls _ _ _ _ (fun e w' => e = .returned (.tuple #[.int .i64 q1, .bool q2]) ∧ _)
  rw [numR, ← hl] at hq
  have HG := Lib.hid hG
  clear hG hl
  by_cases hx : l = []
  · subst hx
    by_cases h3 : s.size ≤ 3
    · rw [if_pos ⟨rfl, h3⟩] at hq
      obtain ⟨rfl, rfl⟩ := Prod.mk.inj hq
      have h3' : ¬ (3 : Int) < (s.size : Int) := by omega
      clear hq
      go_enter Tryz.func49, Tryz.ntmps49
      go_wp2_with fail
      refine (htr _).mono ?_
      rintro e w1 ⟨rfl, hb⟩
      have hc1 := Chg.of_below hb Non
      go_wp2_with fail
      refine (Atoi_calls s w1 (HG.out.chg hc1 (fun h => h) (fun h => h)) hs).mono ?_
      rintro e w2 ⟨u, rfl, hc2⟩
      go_wp2_with fail
      go_ret2
      exact ⟨rfl, hc1.then hc2⟩
    · rw [if_neg (fun h => h3 h.2)] at hq
      obtain ⟨rfl, rfl⟩ := Prod.mk.inj hq
      have h3' : (3 : Int) < (s.size : Int) := by omega
      clear hq
      go_enter Tryz.func49, Tryz.ntmps49
      go_wp2_with fail
      refine (htr _).mono ?_
      rintro e w1 ⟨rfl, hb⟩
      have hc1 := Chg.of_below hb Non
      go_wp2_with fail
      go_ret2
      exact ⟨rfl, hc1⟩
  · rw [if_neg (fun h => hx h.1)] at hq
    obtain ⟨rfl, rfl⟩ := Prod.mk.inj hq
    clear hq
    go_enter Tryz.func49, Tryz.ntmps49
    go_wp2_with fail
    refine (htr _).mono ?_
    rintro e w1 ⟨rfl, hb⟩
    have hc1 := Chg.of_below hb Non
    go_wp2_with fail
    go_ret2
    exact ⟨rfl, hc1⟩
end T
end Go.Proofs.YtoegjmeoeefllaaGreatDoor
