/-
  Layer 2's law: a nought of the sign minus; the infinity above; the law's example.
-/
import Derived.Test.YtjjebeiomfdjeaaMomC
namespace Go.Proofs.Ytjjebeiomfdjeaa
set_option linter.unusedVariables false
open Go.RowKit

set_option maxHeartbeats 400000 in
theorem zero_any (w : World) : Calls Try.prog 25 #[] w fun e w' => e = .returned (.float .f64 mZ) ∧ w = w' := by
  have hr := bits_run
  have hf := frombits_run
  go_enter Try.func25, Try.ntmps25
  go_wp2
  go_ret
  exact ⟨closed_float (by decide +kernel), rfl⟩

set_option maxHeartbeats 400000 in
theorem inf_any (w : World) : Calls Try.prog 26 #[.int .i64 1] w fun e w' => e = .returned (.float .f64 pI) ∧ w = w' := by
  have hf := frombits_run
  go_enter Try.func26, Try.ntmps26
  go_wp2
  go_ret
  exact ⟨closed_float (by decide +kernel), rfl⟩

set_option maxHeartbeats 400000 in
theorem alive_any (w : World) : Calls Try.prog 13 #[] w fun e w' => e = .returned (.bool true) ∧ w = w' := by
  have c1 : cmpF mZ 0 = -1 := by decide +kernel
  have c2 : cmpF pI aN = -1 := by decide +kernel
  have c3 : ((keyF 0 : Nat) : Int) = 9223372036854775808 := by decide +kernel
  have c4 : ((keyF mZ : Nat) : Int) = 9223372036854775807 := by decide +kernel
  go_enter Try.func13, Try.ntmps13
  go_wp2_with fail
  refine (zero_any _).mono ?_; rintro e w' ⟨rfl, rfl⟩
  go_wp2_with fail
  refine (compare_any _ _ _ Wd_mZ Wd_zero).mono ?_; rintro e w' ⟨rfl, rfl⟩
  go_wp2_with fail
  refine (inf_any _).mono ?_; rintro e w' ⟨rfl, rfl⟩
  go_wp2_with fail
  refine (nan_any _).mono ?_; rintro e w' ⟨rfl, rfl⟩
  go_wp2_with fail
  refine (compare_any _ _ _ Wd_pI Wd_aN).mono ?_; rintro e w' ⟨rfl, rfl⟩
  go_wp2_with fail
  refine (key_any _ _ Wd_zero).mono ?_; rintro e w' ⟨rfl, rfl⟩
  go_wp2_with fail
  refine (zero_any _).mono ?_; rintro e w' ⟨rfl, rfl⟩
  go_wp2_with fail
  refine (key_any _ _ Wd_mZ).mono ?_; rintro e w' ⟨rfl, rfl⟩
  go_wp2_with fail
  go_ret
  exact ⟨rfl, rfl⟩
end Go.Proofs.Ytjjebeiomfdjeaa
