import Derived.Test.YtafmnkngjjnpiaaGreatDoorTqV
namespace Go.Proofs.YtafmnkngjjnpiaaGreatDoor
set_option maxRecDepth 100000
set_option linter.unusedVariables false
set_option linter.unusedSimpArgs false
theorem get_ok {t : Pt} (h : (getP t).1 = true) : (getP t).2.E = t.E ++ [plE 0 t.A [] 0 true] ∧ (getP t).2.A = t.A := by
  unfold getP at h ⊢
  dsimp only at h ⊢
  have hm : ¬ ((t.c.got : Nat) : Int) ∈ t.c.gs := by simpa using h
  rw [if_neg hm]
  exact ⟨rfl, rfl⟩
theorem set_shape (t : Pt) (B : At3) : (setP t B).2.E = t.E ++ [plE 1 B [] 0 (setP t B).1] ∧ ((setP t B).1 = true → (setP t B).2.A = B) ∧ ((setP t B).1 = false → (setP t B).2.A = t.A) := by
  unfold setP
  dsimp only
  refine ⟨rfl, fun h => ?_, fun h => ?_⟩
  · have hm : ¬ ((t.c.set : Nat) : Int) ∈ t.c.ss := by simpa using h
    rw [if_neg hm]
  · have hm : ((t.c.set : Nat) : Int) ∈ t.c.ss := by simpa using h
    rw [if_pos hm]
end Go.Proofs.YtafmnkngjjnpiaaGreatDoor
