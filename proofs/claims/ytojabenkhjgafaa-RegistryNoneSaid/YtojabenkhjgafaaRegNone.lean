/-
  RegistryNone: of no registry nothing is told; of one without arenas all are clean. The walk.
-/
import Derived.Test.YtojabenkhjgafaaRegO
import Derived.Test.YtojabenkhjgafaaRegY
namespace Go.Proofs.Ytojabenkhjgafaa
set_option linter.unusedVariables false
open Go.RowKit Go.WideShapes

set_option maxRecDepth 100000 in
set_option maxHeartbeats 4000000 in
theorem registryNone_walk (s : ByteArray) (n : Int) (w : World) (hs : s.size ≤ maxLen) (_ : (Lit.int .i64 n).wf = true) :
    Calls Try.prog 6 #[.string s, .int .i64 n] w fun e w' => e = .returned (.bool true) ∧ Below w.heap.size w w' := by
  go_enter Try.func6, Try.ntmps6
  go_wp2_with fail
  refine (nilWipe _).mono ?_
  rintro e w1 ⟨rfl, C1⟩
  go_wp2_with (first
    | (go_at_call 10; refine (nilMake _ _ _).mono ?_; rintro e w' ⟨rfl, rfl⟩)
    | (go_at_call 13; refine (nilGet _ _).mono ?_; rintro e w' ⟨rfl, rfl⟩))
  refine (rNew_any w _ C1).mono ?_
  rintro e w2 ⟨rfl, Q2⟩
  generalize w1.heap.size + 1 = bR at *
  generalize w1.heap.size = bM at *
  go_wp2_with fail
  refine (alive_any _).mono ?_
  rintro e w3 ⟨rfl, C3⟩
  have Q3 := Q2.chg0 C3
  clear Q2 C3 C1
  go_wp2_with fail
  refine (rWipe_any bR bM _ _ _ Q3.r).mono ?_
  rintro e w4 ⟨rfl, C4, R4⟩
  have Q4 : OwnR w w4 bR bM (.slice none 0 0) [] := ⟨R4, Q3.c.trans C4 (U := []) (by simp) (by simp [arB]), Q3.b⟩
  clear Q3 C4 R4
  go_wp2_with fail
  refine (rGet_any bR bM _ _ s _ Q4.r hs).mono ?_
  rintro e w5 ⟨rfl, rfl⟩
  simp only [show findP [] s = none from rfl, ptrV, Option.map_none, Option.isSome_none, Bool.false_eq_true, if_false]
  go_wp2_with (go_at_call 15; refine (nilNames _).mono ?_; rintro e w' ⟨rfl, rfl⟩)
  refine (nilZero _).mono ?_
  rintro e w6 ⟨rfl, C6⟩
  have Q6 := Q4.chg0 C6
  clear Q4 C6
  go_wp2_with fail
  refine (nilClean _).mono ?_
  rintro e w7 ⟨rfl, C7⟩
  have Q7 := Q6.chg0 C7
  clear Q6 C7
  go_wp2_with fail
  refine (nilCells _).mono ?_
  rintro e w8 ⟨rfl, C8⟩
  have Q8 := Q7.chg0 C8
  clear Q7 C8
  go_wp2_with fail
  refine (rZero_any bR bM _ _ _ Q8.r).mono ?_
  rintro e w9 ⟨rfl, C9⟩
  have Q9 := Q8.chg0 C9
  rw [show allZero [] = true from rfl]
  clear Q8 C9
  go_wp2_with fail
  refine (rClean_any bR bM _ _ _ Q9.r).mono ?_
  rintro e w10 ⟨rfl, C10⟩
  have Q10 := Q9.chg0 C10
  clear Q9 C10
  go_wp2_with fail
  refine (rCells_any bR bM _ _ _ Q10.r).mono ?_
  rintro e w11 ⟨rfl, C11⟩
  have Q11 := Q10.chg0 C11
  rw [show sumE [] = 0 from rfl]
  clear Q10 C11
  go_wp2_with fail
  refine (rNames_any bR bM _ _ _ Q11.r).mono ?_
  rintro e w12 ⟨rv, rfl, C12, O12⟩
  have Q12 := Q11.chg0 C12
  obtain ⟨ao, c, rfl⟩ : ∃ ao c, rv = .slice ao 0 c := by
    rcases owns_srcS O12 with ⟨rfl, _⟩ | ⟨g, c, rfl, _⟩
    · exact ⟨none, 0, rfl⟩
    · exact ⟨_, _, rfl⟩
  have hC := Q12.c
  clear Q11 C12 O12 Q12
  go_wp2_with fail
  go_ret
  exact ⟨rfl, Chg.below (Below.refl _ _) hC (by simp) (Nat.le_refl _)⟩
end Go.Proofs.Ytojabenkhjgafaa
