/-
  Bytes that may be turned one by one; 'string(b)' of bytes that can be read.
-/
import Derived.Test.YtmcbgpjphjacjaaWldA
namespace Go.Proofs.Ytmcbgpjphjacjaa
set_option linter.unusedVariables false
set_option maxRecDepth 100000
open Go.RowKit

def Flip (w : World) (a : Option Addr) (k : Nat) : Prop := k = 0 ∨ ∃ g cur, a = some ⟨g, 0, none⟩ ∧ w.heap[g]? = some (.cells cur 5 (0, 0)) ∧ ∀ j, j < k → ∃ y, cur[j]? = some (.int .u8 y)

theorem Flip.of_owns {w : World} {base : Nat} {ao : Option Addr} {n c : Nat} {zs : List Int} (h : w.ownsRow base 5 1 (.slice ao n c) n (valsOf .u8 zs)) : Flip w ao n := by
  rcases h.2 with ⟨_, h0⟩ | ⟨g, cap, cur, e, _, hg, h1, h2, h3, h4⟩
  · exact .inl h0
  · injection e with e1 _ e3
    subst e1 e3
    refine .inr ⟨g, cur, rfl, hg, fun j hj => ?_⟩
    have hl : (valsOf .u8 zs).length = n := by have := h.1; omega
    rw [valsOf_length] at hl
    have := h.cells (g := g) rfl j (.int .u8 (zs.getD j 0)) (by simp [valsOf, List.getElem?_eq_getElem (show j < zs.length by omega)])
    rw [Addr.add_lit, Nat.zero_add, cell_of_heap hg] at this
    exact ⟨_, this⟩

theorem Flip.get {w : World} {a : Option Addr} {k i : Nat} (h : Flip w a k) (hi : i < k) : ∃ g y, a = some ⟨g, 0, none⟩ ∧ w.cell? ⟨g, i, none⟩ = some (.int .u8 y) ∧ (∀ j, w.frozen? ⟨g, j, none⟩ = false) ∧ ∀ z, Flip (w.setCell ⟨g, i, none⟩ (.int .u8 z)) a k := by
  rcases h with h | ⟨g, cur, e, hg, hc⟩
  · omega
  · obtain ⟨y, hy⟩ := hc i hi
    refine ⟨g, y, e, by rw [cell_of_heap hg]; exact hy, fun j => free_of_heap hg j, fun z => .inr ⟨g, _, e, setCell_heap _ hg, fun j hj => ?_⟩⟩
    rw [Array.getElem?_setIfInBounds]
    by_cases c : i = j
    · subst c
      rw [if_pos rfl, if_pos (Array.getElem?_eq_some_iff.1 hy).1]
      exact ⟨z, rfl⟩
    · rw [if_neg c]; exact hc j hj

theorem Flip.chg {w w' : World} {a : Option Addr} {k : Nat} (h : Flip w a k) (c : Chg [] w w') : Flip w' a k := by
  rcases h with h | ⟨g, cur, e, hg, hc⟩
  · exact .inl h
  · exact .inr ⟨g, cur, e, c.heap hg (by simp), hc⟩

theorem tconv_at {w : World} {ao : Option Addr} {n c : Nat} {xs : List Int} (h : SrcAt w ao n c (valsOf .u8 xs)) : (convert 42 9 (.slice ao n c)).run Try.prog w = .ok (.string (strOfNums xs)) w := by
  have hl : xs.length = n := by have := h.1; rwa [valsOf_length] at this
  by_cases hm : n = 0
  · subst hm
    have hx : xs = [] := List.eq_nil_of_length_eq_zero hl
    subst hx
    cases ao with
    | none => exact run_convert_bytes_nil w _ 5 Try.underlying42 Try.underlying5 0 c _ Try.underlying9
    | some ad =>
      have hl : (loadCells ad 0).run Try.prog w = .ok (([] : List Int).map (Value.int .u8)).toArray w := rfl
      rw [run_convert_bytes_string w _ _ 5 _ 0 c Try.underlying42 Try.underlying5 Try.underlying9, run_bytesToString w ad 0 c [] hl]
      rfl
  · obtain ⟨b, off, rfl, _⟩ := h.int (j := 0) (by omega)
    refine run_convert_bytes_arg w _ 5 Try.underlying42 Try.underlying5 b off n c xs hl (fun i hi => ?_) _ Try.underlying9
    obtain ⟨b', off', e, hc⟩ := h.int (j := i) (by omega)
    injection e with e
    injection e with e1 e2 _
    subst e1 e2
    exact hc

end Go.Proofs.Ytmcbgpjphjacjaa
