/-
  The contracts of an arena's methods where there is none.
-/
import Derived.Test.YtghefhhgckafdaaProg
import Derived.Test.YtghefhhgckafdaaChg
namespace Go.Proofs.Ytghefhhgckafdaa
set_option linter.unusedVariables false
open Go.RowKit

theorem nilWipe (w : World) :
    Calls Try.prog 22 #[.pointer none] w fun e w' => e = .returned (.tuple #[]) ∧ w = w' := by
  go_enter Try.func22, Try.ntmps22
  go_wp2_with fail
  go_end0
  exact ⟨rfl, rfl⟩

theorem nilCell (i : Int) (w : World) :
    Calls Try.prog 27 #[.pointer none, .int .i64 i] w fun e w' => e = .returned (.tuple #[.int .u8 0, .int .i64 1]) ∧ w = w' := by
  go_enter Try.func27, Try.ntmps27
  go_wp2_with fail
  go_ret2
  exact ⟨rfl, rfl⟩

theorem nilLen (w : World) :
    Calls Try.prog 23 #[.pointer none] w fun e w' => e = .returned (.int .i64 0) ∧ w = w' := by
  go_enter Try.func23, Try.ntmps23
  go_wp2_with fail
  go_ret
  exact ⟨rfl, rfl⟩

theorem nilAt (i : Int) (w : World) :
    Calls Try.prog 30 #[.pointer none, .int .i64 i] w fun e w' => e = .returned (.tuple #[.int .u8 0, .int .i64 1]) ∧ w = w' := by
  go_enter Try.func30, Try.ntmps30
  go_wp2_with (first | (go_at_call 23; refine (nilLen _).mono ?_; rintro e w' ⟨rfl, rfl⟩) | (go_at_call 27; refine (nilCell _ _).mono ?_; rintro e w' ⟨rfl, rfl⟩))
  all_goals go_ret2
  all_goals exact ⟨rfl, rfl⟩



theorem nilInsert (v : Value) (w : World) :
    Calls Try.prog 11 #[.pointer none, .int .i64 0, v] w fun e w' => e = .returned (.int .i64 1) ∧ w = w' := by
  go_enter Try.func11, Try.ntmps11
  go_wp2_with fail
  go_ret
  exact ⟨rfl, rfl⟩

theorem nilDelete (w : World) :
    Calls Try.prog 14 #[.pointer none, .int .i64 0, .int .i64 0] w fun e w' => e = .returned (.int .i64 1) ∧ w = w' := by
  go_enter Try.func14, Try.ntmps14
  go_wp2_with fail
  go_ret
  exact ⟨rfl, rfl⟩

theorem nilMove (w : World) :
    Calls Try.prog 16 #[.pointer none, .int .i64 0, .int .i64 0, .int .i64 0] w fun e w' => e = .returned (.int .i64 1) ∧ w = w' := by
  go_enter Try.func16, Try.ntmps16
  go_wp2_with fail
  go_ret
  exact ⟨rfl, rfl⟩

theorem nilCap (w : World) :
    Calls Try.prog 29 #[.pointer none] w fun e w' => e = .returned (.int .i64 0) ∧ w = w' := by
  go_enter Try.func29, Try.ntmps29
  go_wp2_with fail
  go_ret
  exact ⟨rfl, rfl⟩

theorem nilCopy (v : Value) (w : World) :
    Calls Try.prog 12 #[.pointer none, v] w fun e w' => e = .returned (.int .i64 0) ∧ w = w' := by
  go_enter Try.func12, Try.ntmps12
  go_wp2_with fail
  go_ret
  exact ⟨rfl, rfl⟩

theorem nilClean (w : World) :
    Calls Try.prog 24 #[.pointer none] w fun e w' => e = .returned (.bool true) ∧ Chg [] w w' := by
  go_enter Try.func24, Try.ntmps24
  go_wp2_with fail
  go_quiet (fail)
  go_wp2_with fail
  go_ret
  exact ⟨rfl, (Chg.refl _ _).drewN _⟩

theorem nilZero (w : World) :
    Calls Try.prog 25 #[.pointer none] w fun e w' => e = .returned (.bool true) ∧ w = w' := by
  go_enter Try.func25, Try.ntmps25
  go_wp2_with fail
  go_ret
  exact ⟨rfl, rfl⟩

end Go.Proofs.Ytghefhhgckafdaa
