/-
  Bytes as a string; a row that is known whole, as a source.
-/
import Derived.Test.YtojabenkhjgafaaAreD
namespace Go.Proofs.Ytojabenkhjgafaa
set_option linter.unusedVariables false
open Go.RowKit

/-- 'string(b)' of bytes that lie somewhere. -/
theorem conv_src {w : World} {ao : Option Addr} {m c : Nat} {xs : List Int} {S : List Nat} (h : SrcIs w ao m xs S) :
    (convert 45 9 (.slice ao m c)).run Try.prog w = .ok (.string (strOfNums xs)) w := by
  by_cases hm : m = 0
  · subst hm
    have hx : xs = [] := List.eq_nil_of_length_eq_zero h.1
    subst hx
    cases ao with
    | none => exact run_convert_bytes_nil w _ 5 Try.underlying45 Try.underlying5 0 c _ Try.underlying9
    | some ad =>
      have hl : (loadCells ad 0).run Try.prog w = .ok (([] : List Int).map (Value.int .u8)).toArray w := rfl
      rw [run_convert_bytes_string w _ _ 5 _ 0 c Try.underlying45 Try.underlying5 Try.underlying9, run_bytesToString w ad 0 c [] hl]
      rfl
  · obtain ⟨b, off, rfl, _, hc⟩ := src_cell h (k := 0) (by omega)
    exact run_convert_bytes_arg w _ 5 Try.underlying45 Try.underlying5 b off m c xs h.1 hc _ Try.underlying9

theorem splice_whole (cur cs : List Value) (h : cur.length = cs.length) : splice cur 0 cs = cs := by
  unfold splice; simp [h]

/-- A row that is known whole, as a source. -/
theorem src_of_heap {w : World} {g : Nat} {xs : List Int} {t : TypeId} {fr : Nat × Nat} (h : w.heap[g]? = some (.cells (xs.map (Value.int .u8)).toArray t fr)) : SrcIs w (some ⟨g, 0, none⟩) xs.length xs [] :=
  ⟨rfl, fun _ => ⟨_, rfl, by simp, fun j v hv => by rw [Addr.add_lit, cell_of_heap h, Nat.zero_add]; simpa using hv⟩⟩

/-- A row of the call's own, as a source. -/
theorem src_of_owns {w : World} {base : Nat} {t : TypeId} {v : Value} {n : Nat} {xs : List Int} (h : w.ownsRow base t 1 v n (xs.map (Value.int .u8))) : ∃ ao c, v = .slice ao n c ∧ SrcIs w ao n xs [] := by
  have hl : xs.length = n := by have := h.1; simpa using this
  rcases h.2 with ⟨rfl, rfl⟩ | ⟨g, cap, cur, rfl, _, hh, _, _, _, ht⟩
  · exact ⟨none, 0, rfl, hl, fun h => absurd h (by omega)⟩
  · refine ⟨_, _, rfl, hl, fun _ => ⟨_, rfl, by simp, fun j u hu => ?_⟩⟩
    rw [Addr.add_lit, cell_of_heap hh, Nat.zero_add]
    rw [← ht, List.getElem?_take] at hu
    split at hu
    · simpa using hu
    · cases hu

/-- New bytes, as a source. -/
theorem src_new {w : World} {t : TypeId} (xs : List Int) (S : List Nat) (hS : ∀ x ∈ S, x < w.heap.size) : SrcIs (w.alloc (.cells (xs.map (Value.int .u8)).toArray t)) (some ⟨w.heap.size, 0, none⟩) xs.length xs S :=
  ⟨rfl, fun _ => ⟨_, rfl, fun h => Nat.lt_irrefl _ (hS _ h), fun j v hv => by rw [Addr.add_lit, cell_of_heap (alloc_heap w _), Nat.zero_add]; simpa using hv⟩⟩

theorem ArenaIs.lt {w : World} {bA bC N : Nat} {l : List Int} (h : ArenaIs w bA bC N l) : bA < w.heap.size ∧ bC < w.heap.size := ⟨heap_lt h.hA, heap_lt h.hC⟩
end Go.Proofs.Ytojabenkhjgafaa
