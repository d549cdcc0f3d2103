import Derived.Test.YtafmnkngjjnpiaaGreatDoorWldA
namespace Go.Proofs.YtafmnkngjjnpiaaGreatDoor
set_option linter.unusedVariables false
set_option maxRecDepth 100000
open Go.RowKit
theorem tconv_at {w : World} {ao : Option Addr} {n c : Nat} {xs : List Int} (h : SrcAt w ao n c (valsOf .u8 xs)) : (convert 22 9 (.slice ao n c)).run Tryz.prog w = .ok (.string (strOfNums xs)) w := by
  have hl : xs.length = n := by have := h.1; rwa [valsOf_length] at this
  by_cases hm : n = 0
  · subst hm
    have hx : xs = [] := List.eq_nil_of_length_eq_zero hl
    subst hx
    cases ao with
    | none => exact run_convert_bytes_nil w _ 5 Tryz.underlying22 Tryz.underlying5 0 c _ Tryz.underlying9
    | some ad =>
      have hl : (loadCells ad 0).run Tryz.prog w = .ok (([] : List Int).map (Value.int .u8)).toArray w := rfl
      rw [run_convert_bytes_string w _ _ 5 _ 0 c Tryz.underlying22 Tryz.underlying5 Tryz.underlying9, run_bytesToString w ad 0 c [] hl]
      rfl
  · obtain ⟨b, off, rfl, _⟩ := h.int (j := 0) (by omega)
    refine run_convert_bytes_arg w _ 5 Tryz.underlying22 Tryz.underlying5 b off n c xs hl (fun i hi => ?_) _ Tryz.underlying9
    obtain ⟨b', off', e, hc⟩ := h.int (j := i) (by omega)
    injection e with e
    injection e with e1 e2 _
    subst e1 e2
    exact hc
end Go.Proofs.YtafmnkngjjnpiaaGreatDoor
