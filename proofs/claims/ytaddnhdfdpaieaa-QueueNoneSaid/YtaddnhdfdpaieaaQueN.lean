/-
  QueueNone: of no queue nothing is told. The walk.
-/
import Derived.Test.YtaddnhdfdpaieaaQueO
namespace Go.Proofs.Ytaddnhdfdpaieaa
set_option linter.unusedVariables false
open Go.RowKit

set_option maxHeartbeats 1000000 in
theorem nilPeek (w : World) : Calls Try.prog 18 #[.pointer none] w fun e w' => e = .returned (.tuple #[.float .f64 0, .int .i64 0, .int .i64 1]) ∧ w = w' := by
  go_enter Try.func18, Try.ntmps18
  go_wp2_with fail
  go_ret3
  exact ⟨rfl, rfl⟩

set_option maxHeartbeats 1000000 in
theorem nilPop (w : World) : Calls Try.prog 15 #[.pointer none] w fun e w' => e = .returned (.tuple #[.float .f64 0, .int .i64 0, .int .i64 1]) ∧ w = w' := by
  go_enter Try.func15, Try.ntmps15
  go_wp2_with (go_at_call 18; refine (nilPeek _).mono ?_; rintro e w' ⟨rfl, rfl⟩)
  go_ret3
  exact ⟨rfl, rfl⟩

set_option maxHeartbeats 1000000 in
theorem nilPush (b : Nat) (n : Int) (w : World) : Calls Try.prog 12 #[.pointer none, .float .f64 b, .int .i64 n] w fun e w' => e = .returned (.int .i64 1) ∧ w = w' := by
  go_enter Try.func12, Try.ntmps12
  go_wp2_with fail
  go_ret
  exact ⟨rfl, rfl⟩

set_option maxHeartbeats 1000000 in
theorem nilLen (w : World) : Calls Try.prog 14 #[.pointer none] w fun e w' => e = .returned (.int .i64 0) ∧ w = w' := by
  go_enter Try.func14, Try.ntmps14
  go_wp2_with fail
  go_ret
  exact ⟨rfl, rfl⟩

set_option maxHeartbeats 1000000 in
theorem nilBefore (b : Nat) (w : World) : Calls Try.prog 22 #[.pointer none, .float .f64 b] w fun e w' => e = .returned (.slice none 0 0) ∧ w = w' := by
  go_enter Try.func22, Try.ntmps22
  go_wp2_with fail
  refine wp_loop_rounds 1 ?_
  rw [rounds_succ]
  go_wp2_with (go_at_call 18; refine (nilPeek _).mono ?_; rintro e w' ⟨rfl, rfl⟩)
  go_ret
  exact ⟨rfl, rfl⟩

theorem order00 : FloatKind.f64.format.order 0 0 = some .eq := by decide +kernel

set_option maxHeartbeats 4000000 in
theorem queueNone_walk (a n : Int) (w : World) (h0 : (Lit.int .u64 a).wf = true) (h1 : (Lit.int .i64 n).wf = true) :
    Calls Try.prog 8 #[.int .u64 a, .int .i64 n] w fun e w' => e = .returned (.bool true) ∧ Below w.heap.size w w' := by
  have hf := frombits_run
  have ho := order00
  go_enter Try.func8, Try.ntmps8
  go_wp2_with (first
    | (go_at_call 15; refine (nilPop _).mono ?_; rintro e w' ⟨rfl, rfl⟩)
    | (go_at_call 18; refine (nilPeek _).mono ?_; rintro e w' ⟨rfl, rfl⟩)
    | (go_at_call 12; refine (nilPush _ _ _).mono ?_; rintro e w' ⟨rfl, rfl⟩)
    | (go_at_call 14; refine (nilLen _).mono ?_; rintro e w' ⟨rfl, rfl⟩)
    | (go_at_call 22; refine (nilBefore _ _).mono ?_; rintro e w' ⟨rfl, rfl⟩)
    | (go_at_call 11; refine (alive_any _).mono ?_; rintro e w1 ⟨rfl, C1⟩))
  go_ret
  exact ⟨rfl, Chg.below (Below.refl _ _) C1 (by simp) (Nat.le_refl _)⟩
end Go.Proofs.Ytaddnhdfdpaieaa
