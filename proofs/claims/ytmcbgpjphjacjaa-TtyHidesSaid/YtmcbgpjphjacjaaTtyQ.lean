/-
  A plan that came in: where its items' slice is nil it has no room.
-/
import Derived.Test.YtmcbgpjphjacjaaWldPl
namespace Go.Proofs.Ytmcbgpjphjacjaa
set_option linter.unusedVariables false
set_option linter.unusedSimpArgs false
open Go.ChangeShapes Go.WideShapes Go.ChangeAt Go.RowKit

theorem plan_nil {H : Type} {enc : TypeId × Value → H} {w : World} {held : Bool} {q : PlanD} {d : DataW H} {p : List MemPlace} (h : DataW.Trod enc Try.prog w 0 (fun _ => true) held 28 (.agg q.cells) d p) : q.ia = none → q.ic = 0 := by
  obtain ⟨fuel, hf⟩ := h
  have hf' : DataW.trod enc Try.prog w 0 (fun _ => true) held fuel 28 [.int .u32 q.fl, .int .u8 q.mn, .int .u8 q.tm, .slice q.ia q.il q.ic, .slice q.wa q.wl q.wc, .slice q.ga q.gl q.gc, .slice q.sa q.sl q.sc] = some (d, p) := hf
  obtain ⟨xs, n, _, _, _, hxl, hF⟩ := DataW.trod_struct Try.underlying28 hf'
  obtain ⟨y0, y1, y2, y3, y4, rfl⟩ := fiveI (show xs.length = 5 from hxl)
  have f1 : DataW.trod enc Try.prog w 0 (fun _ => true) held n 25 (([Value.int .u32 q.fl, .int .u8 q.mn, .int .u8 q.tm, .slice q.ia q.il q.ic, .slice q.wa q.wl q.wc, .slice q.ga q.gl q.gc, .slice q.sa q.sl q.sc].drop 3).take (Try.prog.cellsOf 25)) = some y1 := hF 1 _ rfl
  rw [itemsCellsI] at f1
  intro e
  rcases Go.Deep.open_slice Try.underlying25 f1 with ⟨h1, _⟩ | ⟨ad, len, cap, m, k, D, Pl, h1, _⟩
  · simp at h1
    exact h1.2.2
  · simp [e] at h1
end Go.Proofs.Ytmcbgpjphjacjaa
