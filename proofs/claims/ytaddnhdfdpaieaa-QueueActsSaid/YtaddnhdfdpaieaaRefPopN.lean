/-
  The reference queue: Pop of an empty one.
-/
import Derived.Test.YtaddnhdfdpaieaaRefPush
namespace Go.Proofs.Ytaddnhdfdpaieaa
set_option linter.unusedVariables false
open Go.RowKit
attribute [local go_sem] run_store_float'

set_option maxHeartbeats 1000000 in
theorem refPop_none (bM : Nat) (u : Value) (w : World) (h : RefQ w bM u []) :
    Calls Try.prog 21 #[.pointer (some ⟨bM, 0, none⟩)] w fun e w' => (∃ r, e = .returned r) ∧ Chg [] w w' := by
  obtain ⟨ao, c, rfl⟩ := h.slice
  have k1 : Chg [] w (w.alloc (.cells #[.float .f64 0, .int .i64 0] 51)) := (Chg.refl _ _).alloc _
  have h0 := k1.cell h.cell0 (by simp)
  simp only [List.length_nil] at h0
  clear h k1
  go_enter Try.func21, Try.ntmps21
  go_wp2_with fail
  refine ⟨rfl, _, by simp [results, Try.results21, go_sem]; rfl, ⟨_, rfl⟩, ?_⟩
  first
    | exact (Chg.refl [] w).alloc _
    | exact (((Chg.refl [] w).alloc _).setCell (p := ⟨w.heap.size, 0, none⟩) (Or.inr (Nat.le_refl _)) _).setCell (p := ⟨w.heap.size, 1, none⟩) (Or.inr (Nat.le_refl _)) _
end Go.Proofs.Ytaddnhdfdpaieaa
