import Derived.Test.YtafmnkngjjnpiaaGreatDoorAreD
import Derived.Test.YtafmnkngjjnpiaaGreatDoorRegW
import Derived.Test.YtafmnkngjjnpiaaGreatDoorRegK
namespace Go.Proofs.YtafmnkngjjnpiaaGreatDoor.Ar
set_option maxRecDepth 100000
set_option linter.unusedVariables false
open Go.RowKit Go.WideShapes
end Go.Proofs.YtafmnkngjjnpiaaGreatDoor.Ar

namespace Go.Proofs.YtafmnkngjjnpiaaGreatDoor.Ar
set_option maxRecDepth 100000
set_option linter.unusedVariables false
open Go.RowKit
end Go.Proofs.YtafmnkngjjnpiaaGreatDoor.Ar

namespace Go.Proofs.YtafmnkngjjnpiaaGreatDoor.Ar
set_option maxRecDepth 100000
set_option linter.unusedVariables false
open Go.RowKit Go.WideShapes
theorem apart_ix {A : List Ent} (h : (arB A).Nodup) {i k : Nat} (hi : i < A.length) (hk : k < A.length) (hne : k ≠ i) : A[k].bA ∉ [A[i].bA, A[i].bC] ∧ A[k].bC ∉ [A[i].bA, A[i].bC] := by
  have key : ∀ i k, i < k → ∀ (hi : i < A.length) (hk : k < A.length), ∀ p ∈ [A[i].bA, A[i].bC], ∀ q ∈ [A[k].bA, A[k].bC], p ≠ q := fun i k hik hi hk p hp q hq => by
    have e : arB A = arB (A.take (i + 1)) ++ arB (A.drop (i + 1)) := by unfold arB; rw [← List.flatMap_append, List.take_append_drop]
    rw [e] at h
    refine (List.nodup_append.1 h).2.2 p (List.mem_flatMap.2 ⟨A[i], ?_, hp⟩) q (List.mem_flatMap.2 ⟨A[k], ?_, hq⟩)
    · exact List.mem_iff_getElem.2 ⟨i, by simp; omega, by simp⟩
    · exact List.mem_iff_getElem.2 ⟨k - (i + 1), by simp; omega, by simp; congr 1; omega⟩
  constructor <;> intro hm
  · rcases Nat.lt_or_gt_of_ne hne with h1 | h1
    · exact key k i h1 hk hi A[k].bA (by simp) _ hm rfl
    · exact key i k h1 hi hk _ hm A[k].bA (by simp) rfl
  · rcases Nat.lt_or_gt_of_ne hne with h1 | h1
    · exact key k i h1 hk hi A[k].bC (by simp) _ hm rfl
    · exact key i k h1 hi hk _ hm A[k].bC (by simp) rfl
end Go.Proofs.YtafmnkngjjnpiaaGreatDoor.Ar
