/-
  Layer 17: the law's text; the reference's Same of two lists of effects that tell the same.
-/
import Derived.Test.YtmcbgpjphjacjaaTtyS
import Derived.Test.YtmcbgpjphjacjaaArn
import Derived.Test.YtmcbgpjphjacjaaChg
import Derived.Laws.StructEq
namespace Go.Proofs.Ytmcbgpjphjacjaa
set_option linter.unusedVariables false
open Go.RowKit

/-- A world in which all that w0 has stands as it stood. -/
structure Calm (w0 : World) where
  w : World
  c : Chg [] w0 w

instance calmNonempty (w0 : World) : Nonempty (Calm w0) := ⟨⟨w0, Chg.refl _ _⟩⟩

theorem wp_region_calm {P : Program} {id : Nat} {Q : Exit → Act → World → Prop} {a : Act} {w : World} {l : List Oper} (hm : P.follows .mixedOrders = true) (hB : Region.lexB .any l.toArray = true)
    (h : wpQuiet P l.toArray (fun w' => ∃ n : Calm w, w' = n.w) (fun a' => ∀ w', (∃ n : Calm w, w' = n.w) → Q .normal a' w') l a) : (Code.region id l.toArray true).wp P Q a w :=
  wp_region_quiet (C := fun w' => ∃ n : Calm w, w' = n.w) hm hB ⟨⟨w.drew, (Chg.refl [] w).drew⟩, rfl⟩ (by simpa using h)

theorem calm_of {P : Program} {f : FuncId} {args : Array Value} {w0 : World} {n : Calm w0} {v : Value} (h : Calls P f args n.w fun e w' => e = .returned v ∧ Chg [] n.w w') :
    Calls P f args n.w fun e w'' => e = .returned v ∧ ∃ m : Calm w0, w'' = m.w :=
  h.mono fun e w' ⟨he, hc⟩ => ⟨he, ⟨w', n.c.trans hc (by simp) (by simp)⟩, rfl⟩

theorem calm_same {P : Program} {f : FuncId} {args : Array Value} {w0 : World} {n : Calm w0} {v : Value} (h : Calls P f args n.w fun e w' => e = .returned v ∧ n.w = w') :
    Calls P f args n.w fun e w'' => e = .returned v ∧ ∃ m : Calm w0, w'' = m.w :=
  h.mono fun e w' ⟨he, hc⟩ => ⟨he, n, hc.symm⟩
end Go.Proofs.Ytmcbgpjphjacjaa

namespace Go.Proofs.Ytmcbgpjphjacjaa
set_option linter.unusedVariables false
set_option linter.unusedSimpArgs false
set_option maxRecDepth 100000
open Go.RowKit

theorem splice_head (a b : List Value) : ∀ (j : Nat) (u : Value), b[j]? = some u → (splice a 0 b)[j]? = some u := by
  intro j u hu
  unfold splice
  have hlt := (List.getElem?_eq_some_iff.1 hu).1
  rw [List.take_zero, List.nil_append, List.getElem?_append_left hlt]
  exact hu

set_option maxHeartbeats 4000000 in
theorem text_any (bA bC N : Nat) (l : List Int) (w : World) (h : Arn.ArenaIs w bA bC N l) (hN : N ≤ 100) :
    Calls Try.prog 30 #[.pointer (some ⟨bA, 0, none⟩)] w fun e w' => e = .returned (.string (strOfNums l)) ∧ Chg [] w w' := by
  have hle := h.le
  have hmk : (Instr.makeSlice 42 (.int .i64 100) (.int .i64 100)).run Try.prog w = .ok (.slice (some ⟨w.heap.size, 0, none⟩) 100 100) (w.alloc (.cells (Arn.cellsOf 100 []).toArray 5)) := Arn.make_bytes 100 (by omega) w
  have C1 : Chg [] w (w.alloc (.cells (Arn.cellsOf 100 []).toArray 5)) := (Chg.refl _ _).alloc _
  have hB := alloc_heap w (.cells (Arn.cellsOf 100 []).toArray 5)
  have HA := Lib.hid (h.chg C1 (by simp) (by simp))
  have HC := Lib.hid C1
  have HB := Lib.hid hB
  clear C1 hB h
  go_enter Try.func30, Try.ntmps30
  go_wp2_with fail
  have hcp := Arn.copy_any bA bC N l w.heap.size 0 100 100 (Arn.cellsOf 100 []) 5 _ HA.out HB.out (by rw [Arn.cellsOf_length 100 [] (by simp)]; omega)
  refine hcp.mono ?_
  clear hcp
  rintro e w2 ⟨rfl, C2, H2⟩
  rw [List.take_of_length_le (show l.length ≤ 100 by omega)] at H2
  have hmn : min l.length 100 = l.length := by omega
  rw [hmn]
  have hS : SrcAt w2 (some ⟨w.heap.size, 0, none⟩) l.length 100 (valsOf .u8 l) := by
    refine ⟨by rw [valsOf_length], (fun e => by cases e), fun ad e j u hu => ?_⟩
    injection e with e
    subst e
    rw [Addr.add_lit, Nat.zero_add, cell_of_heap H2]
    have := splice_head (Arn.cellsOf 100 []) (l.map (Value.int .u8)) j u hu
    simpa using this
  have cv := tconv_at hS
  have HD := Lib.hid (HC.out.trans C2 (U := []) (by simp) (fun x hx hl => by rw [List.mem_singleton.1 hx] at hl; omega))
  clear hmn H2 C2 hS HC HB HA hmk
  have hl2 : (l.length : Int) ≤ 100 := by omega
  rcases Nat.eq_zero_or_pos l.length with h0 | h0
  · obtain rfl : l = [] := List.eq_nil_of_length_eq_zero h0
    clear h0 hl2 hle
    rw [show (([] : List Int).length : Nat) = 0 from rfl] at cv ⊢
    go_wp2_with fail
    go_ret
    exact ⟨rfl, HD.out⟩
  · have h1 : 0 < (l.length : Int) := by omega
    go_wp2_with fail
    go_ret
    exact ⟨rfl, HD.out⟩

set_option maxHeartbeats 8000000 in
theorem rSame_any (a b : Option Addr) (n c d : Nat) (E F : List EfD) (w : World) (h1 : EffR w a n E) (h2 : EffR w b n F) (hp : E.map EfD.pl = F.map EfD.pl) (hn : n ≤ 1000000) :
    Calls Try.prog 31 #[.slice a n c, .slice b n d] w fun e w' => e = .returned (.bool true) ∧ Chg [] w w' := by
  have H1 := Lib.hid h1
  have H2 := Lib.hid h2
  clear h1 h2
  go_enter Try.func31, Try.ntmps31
  go_wp2_with fail
  go_loopw [5] (fun i wr => ∃ k : Nat, k ≤ n ∧ i = .int .i64 k ∧ Chg [] w wr) (fun i _ => n - (intOf i).toNat)
  case atStart => exact ⟨0, Nat.zero_le _, rfl, Chg.refl _ _⟩
  case round =>
    obtain ⟨k, hk, rfl, hc⟩ := hrel
    by_cases hlt : k < n
    · obtain ⟨b1, o1, x, rfl, hx, x0, x1, x2, x3, x4, x5, x6, x7⟩ := (H1.out.chg hc).get hlt
      obtain ⟨b2, o2, y, rfl, hy, y0, y1, y2, y3, y4, y5, y6, y7⟩ := (H2.out.chg hc).get hlt
      have hxy : x.pl = y.pl := by
        have e := congrArg (fun l => l[k]?) hp
        simp only [List.getElem?_map, hx, hy] at e
        injection e
      obtain ⟨kind, ⟨fl, mn, tm⟩, ao, cap, zs, m, ok⟩ := x
      obtain ⟨kind', ⟨fl', mn', tm'⟩, ao', cap', zs', m', ok'⟩ := y
      unfold EfD.pl at hxy
      dsimp only at hxy x0 x1 x2 x3 x4 x5 x6 x7 y0 y1 y2 y3 y4 y5 y6 y7
      injection hxy with e1 hxy
      injection hxy with e2 hxy
      injection hxy with e3 hxy
      injection hxy with e4 hxy
      injection hxy with e5 hxy
      injection hxy with e6 e7
      subst e1 e2 e3 e4 e5 e6 e7
      have cv1 : ∀ n : Nat, _ := fun n => tconv_at (x7.chg0 ((Chg.refl [] wr).drewN n))
      have cv2 : ∀ n : Nat, _ := fun n => tconv_at (y7.chg0 ((Chg.refl [] wr).drewN n))
      have HC := Lib.hid hc
      clear hx hy hp hc x7 y7
      generalize strOfNums zs = sz at cv1 cv2
      cases ok <;> (
        go_wp2_with fail
        go_quiet (fail)
        go_wp2_with fail
        go_roundw
        case rel => exact ⟨k + 1, by omega, by go_num, HC.out.drewN _⟩
        case measure => simp [intOf]; omega)
    · obtain rfl : k = n := by omega
      go_wp2_with fail
      go_ret
      exact ⟨rfl, hc⟩
end Go.Proofs.Ytmcbgpjphjacjaa
