/-
  A row of floats in a block of its own, each word with a number of its own; two places change; the contracts of swapRange and rotate.
-/
import Derived.Test.YtlcfokndkkjklaaMomD
import Derived.Test.YtlcfokndkkjklaaChg
import Derived.Test.YtlcfokndkkjklaaSrtM
import Derived.RegionTactic
import Derived.ChangeAlike
import Derived.IntWalk
namespace Go.Proofs.Ytlcfokndkkjklaa
set_option linter.unusedVariables false
open Go.RowKit

/-- A word and where it stood at first. -/
abbrev Tag := Nat × Nat
instance : Inhabited Tag := ⟨(0, 0)⟩

/-- The order: by the word's key, of one key by where it stood. -/
def oT (x : Tag) : Nat := keyF x.1 * 1000000 + x.2

def fcell (x : Tag) : Value := .float .f64 x.1

def FlRow (w : World) (g : Nat) (l : List Tag) (R : List Value) : Prop := w.heap[g]? = some (.cells (l.map fcell ++ R).toArray 23 (0, 0))

theorem FlRow.cell {w : World} {g : Nat} {l : List Tag} {R : List Value} (h : FlRow w g l R) {k : Nat} (hk : k < l.length) : w.cell? ⟨g, k, none⟩ = some (.float .f64 (l.getD k default).1) := by
  rw [cell_of_heap h]
  simp only [List.getElem?_toArray]
  rw [List.getElem?_append_left (by simpa using hk), List.getElem?_map, List.getElem?_eq_getElem hk, List.getD_eq_getElem?_getD, List.getElem?_eq_getElem hk]
  rfl

theorem FlRow.free {w : World} {g : Nat} {l : List Tag} {R : List Value} (h : FlRow w g l R) (k : Nat) : w.frozen? ⟨g, k, none⟩ = false := free_of_heap h k

theorem FlRow.chg {w w' : World} {g : Nat} {l : List Tag} {R : List Value} {S : List Nat} (h : FlRow w g l R) (c : Chg S w w') (hg : g ∉ S) : FlRow w' g l R := c.heap h hg

theorem FlRow.set {w : World} {g : Nat} {l : List Tag} {R : List Value} (h : FlRow w g l R) {k : Nat} (hk : k < l.length) (x : Tag) : FlRow (w.setCell ⟨g, k, none⟩ (.float .f64 x.1)) g (l.set k x) R := by
  unfold FlRow
  rw [setCell_heap _ h]
  congr 2
  simp only [List.setIfInBounds_toArray]
  rw [List.set_append_left _ _ (by simpa using hk), List.map_set]
  rfl

/-- What the two stores of an exchange leave. -/
theorem FlRow.swap {w : World} {g : Nat} {l : List Tag} {R : List Value} (h : FlRow w g l R) {i j : Nat} (hi : i < l.length) (hj : j < l.length) (x y : Nat) (hx : x = (l.getD i default).1) (hy : y = (l.getD j default).1) :
    FlRow ((w.setCell ⟨g, i, none⟩ (.float .f64 y)).setCell ⟨g, j, none⟩ (.float .f64 x)) g (sw default l i j) R := by
  subst hx hy
  exact (h.set hi (l.getD j default)).set (by simpa using hj) (l.getD i default)

theorem swap_chg (w : World) (g i j : Nat) (x y : Value) : Chg [g] w ((w.setCell ⟨g, i, none⟩ x).setCell ⟨g, j, none⟩ y) :=
  ((Chg.refl [g] w).setCell (p := ⟨g, i, none⟩) (Or.inl List.mem_cons_self) x).setCell (p := ⟨g, j, none⟩) (Or.inl List.mem_cons_self) y

attribute [local go_sem] run_store_float'

/-- The slice. -/
abbrev flS (g n c : Nat) : Value := .slice (some ⟨g, 0, none⟩) n c

def SwPost (g : Nat) (l : List Tag) (R : List Value) (a b N : Nat) (w : World) (e : Ending) (w' : World) : Prop :=
  e = .returned (.tuple #[]) ∧ Chg [g] w w' ∧ ∃ l', SwR default l l' a b N ∧ FlRow w' g l' R

set_option maxHeartbeats 2000000 in
theorem swapR_any (g n c : Nat) (l : List Tag) (R : List Value) (a b N : Nat) (f : Value) (w : World) (h : FlRow w g l R) (hn : l.length = n) (hab : a + N ≤ b) (hb : b + N ≤ n) (hm : n ≤ 1000000) :
    Calls Try.prog 56 #[.slice (some ⟨g, 0, none⟩) n c, .int .i64 a, .int .i64 b, .int .i64 N, f] w (SwPost g l R a b N w) := by
  have HH := Lib.hid h
  have HN := Lib.hid hn
  clear h hn
  go_enter Try.func56, Try.ntmps56
  go_wp2_with fail
  go_loopw [10] (fun i wr => ∃ (k : Nat) (l' : List Tag), k ≤ N ∧ i = .int .i64 k ∧ SwR default l l' a b k ∧ FlRow wr g l' R ∧ Chg [g] w wr) (fun i _ => N - (intOf i).toNat)
  case atStart => exact ⟨0, l, by omega, rfl, SwR.start l a b, HH.out, Chg.refl _ _⟩
  case round =>
    obtain ⟨k, l', hk, rfl, hs, hf, hc⟩ := hrel
    by_cases hlt : k < N
    · have hl' : l'.length = n := hs.len.trans HN.out
      have c1 := hf.cell (k := a + k) (by omega)
      have c2 := hf.cell (k := b + k) (by omega)
      have f1 := hf.free (a + k)
      have f2 := hf.free (b + k)
      have HS := Lib.hid (hs.step hlt hab (by rw [HN.out]; exact hb))
      have HF := Lib.hid (hf.swap (i := a + k) (j := b + k) (by omega) (by omega) _ _ rfl rfl)
      generalize (l'.getD (a + k) default).1 = x at *
      generalize (l'.getD (b + k) default).1 = y at *
      have i1 : (a : Int) + (k : Int) < (n : Int) := by omega
      have i2 : (b : Int) + (k : Int) < (n : Int) := by omega
      have d1 : ¬ a + k = b + k := by omega
      have d2 : ¬ b + k = a + k := by omega
      clear hl' hs hf
      go_wp2_with fail
      go_region
      all_goals go_wp2_with fail
      go_roundw
      case rel => exact ⟨k + 1, _, by omega, by go_num, HS.out, HF.out, (hc.trans (swap_chg wr g (a + k) (b + k) _ _) (fun y hy => hy) (fun y hy _ => hy)).drew⟩
      case measure => simp [intOf]; omega
    · obtain rfl : k = N := by omega
      go_wp2_with fail
      go_end0
      exact ⟨rfl, hc, l', hs, hf⟩

def RotPost (g : Nat) (l : List Tag) (R : List Value) (a m b : Nat) (w : World) (e : Ending) (w' : World) : Prop :=
  e = .returned (.tuple #[]) ∧ Chg [g] w w' ∧ ∃ l', Rot default l l' a m b ∧ FlRow w' g l' R

set_option maxHeartbeats 2000000 in
theorem rotate_any (g n c : Nat) (l : List Tag) (R : List Value) (a m b : Nat) (f : Value) (w : World) (h : FlRow w g l R) (hn : l.length = n) (h1 : a < m) (h2 : m < b) (hb : b ≤ n) (hm : n ≤ 1000000) :
    Calls Try.prog 55 #[.slice (some ⟨g, 0, none⟩) n c, .int .i64 a, .int .i64 m, .int .i64 b, f] w (RotPost g l R a m b w) := by
  have HH := Lib.hid h
  have HN := Lib.hid hn
  clear h hn
  have e1 : IntKind.i64.wrap ((m : Int) - (a : Int)) = ((m - a : Nat) : Int) := by rw [IntWalk.i64_in _ (by omega)]; omega
  have e2 : IntKind.i64.wrap ((b : Int) - (m : Int)) = ((b - m : Nat) : Int) := by rw [IntWalk.i64_in _ (by omega)]; omega
  go_enter Try.func55, Try.ntmps55
  go_wp2_with fail
  go_loopw [10, 11] (fun i j wr => ∃ (p q : Nat) (l' : List Tag), i = .int .i64 p ∧ j = .int .i64 q ∧ Rtg default l l' a m b p q ∧ FlRow wr g l' R ∧ Chg [g] w wr) (fun i j _ => (intOf i).toNat + (intOf j).toNat)
  case atStart => exact ⟨m - a, b - m, l, rfl, rfl, Rtg.start l h1 h2, HH.out, Chg.refl _ _⟩
  case round =>
    clear e1 e2
    obtain ⟨p, q, l', rfl, rfl, hr, hf, hc⟩ := hrel
    have r1 := hr.h1
    have r2 := hr.h2
    have r3 := hr.h0
    have r4 := hr.h3
    have hl' := Lib.hid (hr.len.trans HN.out)
    rcases Nat.lt_trichotomy p q with hpq | hpq | hpq
    · have t1 : ((p : Int) != (q : Int)) = true := by simp; omega
      have t2 : ¬ ((q : Int) < (p : Int)) := by omega
      have e3 : (m : Int) - (p : Int) = ((m - p : Nat) : Int) := by omega
      have e4 : (m : Int) + (q : Int) - (p : Int) = ((m + q - p : Nat) : Int) := by omega
      go_wp2_with fail
      refine (swapR_any g n c l' R (m - p) (m + q - p) p f _ hf hl'.out (by omega) (by omega) hm).mono ?_
      rintro e w1 ⟨rfl, C1, l1, S1, F1⟩
      have HR := Lib.hid (hr.right hpq S1)
      have e5 : (q : Int) - (p : Int) = ((q - p : Nat) : Int) := by omega
      clear e3 e4 hr hf
      go_wp2_with fail
      go_roundw
      case rel => exact ⟨p, q - p, l1, rfl, rfl, HR.out, F1, hc.trans C1 (fun y hy => hy) (fun y hy _ => hy)⟩
      case measure => simp [intOf]; omega
    · subst hpq
      have e3 : (m : Int) - (p : Int) = ((m - p : Nat) : Int) := by omega
      go_wp2_with fail
      refine (swapR_any g n c l' R (m - p) m p f _ hf hl'.out (by omega) (by omega) hm).mono ?_
      rintro e w1 ⟨rfl, C1, l1, S1, F1⟩
      have HR := Lib.hid (hr.done S1)
      clear e3 hr hf
      go_wp2_with fail
      go_end0
      exact ⟨rfl, hc.trans C1 (fun y hy => hy) (fun y hy _ => hy), l1, HR.out, F1⟩
    · have t1 : ((p : Int) != (q : Int)) = true := by simp; omega
      have t2 : (q : Int) < (p : Int) := by omega
      have e3 : (m : Int) - (p : Int) = ((m - p : Nat) : Int) := by omega
      go_wp2_with fail
      refine (swapR_any g n c l' R (m - p) m q f _ hf hl'.out (by omega) (by omega) hm).mono ?_
      rintro e w1 ⟨rfl, C1, l1, S1, F1⟩
      have HR := Lib.hid (hr.left hpq S1)
      have e5 : (p : Int) - (q : Int) = ((p - q : Nat) : Int) := by omega
      clear e3 hr hf
      go_wp2_with fail
      go_roundw
      case rel => exact ⟨p - q, q, l1, rfl, rfl, HR.out, F1, hc.trans C1 (fun y hy => hy) (fun y hy _ => hy)⟩
      case measure => simp [intOf]; omega
end Go.Proofs.Ytlcfokndkkjklaa
