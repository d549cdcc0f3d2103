/-
  Layer 17: of no terminal nothing is told; without an arena, or with one that is too small, nothing comes.
-/
import Derived.Test.YtmcbgpjphjacjaaTtyR
namespace Go.Proofs.Ytmcbgpjphjacjaa
set_option linter.unusedVariables false
set_option linter.unusedSimpArgs false
set_option maxRecDepth 100000
open Go.RowKit

theorem nilGet_any (w : World) : Calls Try.prog 14 #[.pointer none] w fun e w' => e = .returned (.tuple #[.agg #[.int .u32 0, .int .u8 0, .int .u8 0], .int .i64 1]) ∧ Chg [] w w' := by
  have RB := alloc_heap w (.cells #[.int .u32 0, .int .u8 0, .int .u8 0] 24)
  have f0 := free_of_heap RB 0
  have f1 := free_of_heap RB 1
  have f2 := free_of_heap RB 2
  go_enter Try.func14, Try.ntmps14
  go_wp2_with fail
  refine bodyPost_ret (v := .tuple #[at0.val, .int .i64 1]) ?_ rfl ⟨rfl, (Chg.refl _ _).alloc _⟩
  have hl := run_loadVar_row (P := Try.prog) (w.alloc (.cells #[.int .u32 0, .int .u8 0, .int .u8 0] 24)) w.heap.size 24 24 #[.int .u32 0, .int .u8 0, .int .u8 0] (0, 0) _ (alloc_heap w _) Try.underlying24 rfl (by kernel_rfl)
  rw [results_cell_tmp rfl]
  simp [asAddr, Result.andThen, hl]
  rfl

theorem nilAttrs_any (w : World) : Calls Try.prog 15 #[.pointer none] w fun e w' => e = .returned (.agg #[.int .u32 0, .int .u8 0, .int .u8 0]) ∧ Chg [] w w' := by
  have RB := alloc_heap w (.cells #[.int .u32 0, .int .u8 0, .int .u8 0] 24)
  have f0 := free_of_heap RB 0
  have f1 := free_of_heap RB 1
  have f2 := free_of_heap RB 2
  go_enter Try.func15, Try.ntmps15
  go_wp2_with fail
  refine bodyPost_ret (v := .agg #[.int .u32 0, .int .u8 0, .int .u8 0]) ?_ rfl ⟨rfl, (Chg.refl _ _).alloc _⟩
  exact results_cell_row rfl _ _ w.heap.size 24 #[.int .u32 0, .int .u8 0, .int .u8 0] (0, 0) _ rfl (alloc_heap w _) Try.underlying24 rfl (by kernel_rfl)

theorem nilSet_any (w : World) (a b c : Int) : Calls Try.prog 13 #[.pointer none, .agg #[.int .u32 a, .int .u8 b, .int .u8 c]] w fun e w' => e = .returned (.int .i64 1) ∧ Chg [] w w' := by
  go_enter Try.func13, Try.ntmps13
  go_wp2_with fail
  go_ret
  exact ⟨rfl, (Chg.refl _ _).alloc _⟩

theorem nilWrite_any (w : World) (v : Value) : Calls Try.prog 17 #[.pointer none, v] w fun e w' => e = .returned (.tuple #[.int .i64 0, .int .i64 1]) ∧ w = w' := by
  go_enter Try.func17, Try.ntmps17
  go_wp2_with fail
  go_ret2
  exact ⟨rfl, rfl⟩

theorem nilRead_any (w : World) : Calls Try.prog 20 #[.pointer none, .pointer none] w fun e w' => e = .returned (.tuple #[.int .i64 0, .int .i64 0, .int .i64 1]) ∧ w = w' := by
  go_enter Try.func20, Try.ntmps20
  go_wp2_with fail
  exact ⟨rfl, _, by simp [results, Try.results20, go_sem], rfl, rfl⟩

theorem noRead_any (w : World) (bT : Nat) : Calls Try.prog 20 #[.pointer (some ⟨bT, 0, none⟩), .pointer none] w fun e w' => e = .returned (.tuple #[.int .i64 0, .int .i64 0, .int .i64 1]) ∧ w = w' := by
  go_enter Try.func20, Try.ntmps20
  go_wp2_with fail
  exact ⟨rfl, _, by simp [results, Try.results20, go_sem], rfl, rfl⟩

theorem smallRead_any (w : World) (bT bA bC N : Nat) (l : List Int) (h : Arn.ArenaIs w bA bC N l) (hN : N < 64) : Calls Try.prog 20 #[.pointer (some ⟨bT, 0, none⟩), .pointer (some ⟨bA, 0, none⟩)] w fun e w' => e = .returned (.tuple #[.int .i64 0, .int .i64 0, .int .i64 12]) ∧ w = w' := by
  have hN' : (N : Int) < 64 := by omega
  go_enter Try.func20, Try.ntmps20
  go_wp2_with fail
  refine (Arn.cap_any bA bC N l w h).mono ?_
  rintro e w1 ⟨rfl, rfl⟩
  go_wp2_with fail
  exact ⟨rfl, _, by simp [results, Try.results20, go_sem], rfl, rfl⟩

theorem nilRemember_any (w : World) : Calls Try.prog 18 #[.pointer none] w fun e w' => e = .returned (.int .i64 1) ∧ w = w' := by
  go_enter Try.func18, Try.ntmps18
  go_wp2_with fail
  go_ret
  exact ⟨rfl, rfl⟩

theorem nilEffects_any (w : World) : Calls Try.prog 19 #[.pointer none] w fun e w' => e = .returned (.slice none 0 0) ∧ w = w' := by
  go_enter Try.func19, Try.ntmps19
  go_wp2_with fail
  go_ret
  exact ⟨rfl, rfl⟩

theorem nilCalls_any (w : World) : Calls Try.prog 16 #[.pointer none] w fun e w' => e = .returned (.int .i64 0) ∧ w = w' := by
  go_enter Try.func16, Try.ntmps16
  go_wp2_with fail
  go_ret
  exact ⟨rfl, rfl⟩
end Go.Proofs.Ytmcbgpjphjacjaa
