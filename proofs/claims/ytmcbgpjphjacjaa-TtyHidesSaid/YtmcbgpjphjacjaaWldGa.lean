/-
  Layer 16: Great of any plan; the plan's box, cell by cell.
-/
import Derived.Test.YtmcbgpjphjacjaaWldG
namespace Go.Proofs.Ytmcbgpjphjacjaa
set_option linter.unusedVariables false
set_option linter.unusedSimpArgs false
set_option maxRecDepth 100000
open Go.RowKit

/-- The plan's box, cell by cell. -/
theorem plan_cells {W : World} {b : Nat} {p : PlanD} (h : W.heap[b]? = some (.cells p.cells 28 (0, 0))) :
    W.cell? ⟨b, 0, none⟩ = some (.int .u32 p.fl) ∧ W.cell? ⟨b, 1, none⟩ = some (.int .u8 p.mn) ∧ W.cell? ⟨b, 2, none⟩ = some (.int .u8 p.tm) ∧ W.cell? ⟨b, 3, none⟩ = some (.slice p.ia p.il p.ic) ∧ W.cell? ⟨b, 4, none⟩ = some (.slice p.wa p.wl p.wc) ∧ W.cell? ⟨b, 5, none⟩ = some (.slice p.ga p.gl p.gc) ∧ W.cell? ⟨b, 6, none⟩ = some (.slice p.sa p.sl p.sc) := by
  refine ⟨?_, ?_, ?_, ?_, ?_, ?_, ?_⟩ <;> (rw [cell_of_heap h]; rfl)

/-- What Great tells, whatever the sum. -/
theorem great_all (p : PlanD) (w : World) (h : p.At w) (hm : ∀ y ∈ p.its, y.m ≤ reachBytes) (hr : p.wl ≤ reachBytes ∧ p.gl ≤ reachBytes ∧ p.sl ≤ reachBytes) :
    Calls Try.prog 10 #[.agg p.cells] w fun e w' => e = .returned (.int .i64 (greatV p)) ∧ Chg [] w w' := by
  by_cases hb : 300 < p.il
  · exact (great_big p w h hb).mono fun e w' ⟨he, hc⟩ => ⟨by rw [he]; unfold greatV; rw [if_pos (.inl hb)], hc⟩
  · refine great_any p w h ?_
    have hl : p.its.length ≤ 300 := by rw [h.its.1]; omega
    have hs : ∀ (l : List ItD), (∀ y ∈ l, y.m ≤ reachBytes) → sumL l ≤ l.length * (1 + reachBytes) := by
      intro l
      induction l with
      | nil => intro _; simp [sumL]
      | cons y r ih =>
        intro hy
        have h1 := ih (fun z hz => hy z (List.mem_cons_of_mem _ hz))
        have h2 := hy y List.mem_cons_self
        have e : sumL (y :: r) = (1 + y.m) + sumL r := by unfold sumL; simp
        rw [e, List.length_cons, Nat.add_mul]
        omega
    have h3 := hs p.its hm
    have h4 : p.its.length * (1 + reachBytes) ≤ 300 * (1 + reachBytes) := Nat.mul_le_mul_right _ hl
    unfold greatN
    unfold reachBytes at *
    omega

end Go.Proofs.Ytmcbgpjphjacjaa
