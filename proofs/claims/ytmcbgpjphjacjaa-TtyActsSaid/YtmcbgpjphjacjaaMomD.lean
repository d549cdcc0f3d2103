/-
  Contracts of the functions of package moment and what they call (the part that every seat that reaches them has).
-/
import Derived.Test.YtmcbgpjphjacjaaProg
import Derived.Test.YtmcbgpjphjacjaaFlo
import Derived.WalkKit
import Derived.WalkSpells
import Derived.WalkLawsBesides
import Derived.Deep.QuietTactic
import Derived.BigQuiet
import Derived.Lib.Hide
namespace Go.Proofs.Ytmcbgpjphjacjaa
set_option linter.unusedVariables false
open Go.RowKit

theorem bits_run (b : Nat) (w : World) : (callFunc 73 #[.float .f64 b]).run Try.prog w = .ok (.value (.int .u64 b)) w := by kernel_rfl

/-- A word's bound, behind a name. -/
def Wd (b : Nat) : Prop := b < 18446744073709551616

set_option maxHeartbeats 400000 in
theorem isNaN_any (b : Nat) (w : World) (hb : Wd b) :
    Calls Try.prog 99 #[.float .f64 b] w fun e w' => e = .returned (.bool (nanF b)) ∧ w = w' := by
  rw [← self_neq hb]
  go_enter Try.func99, Try.ntmps99
  go_wp2
  go_ret
  exact ⟨rfl, rfl⟩

set_option maxHeartbeats 400000 in
theorem signbit_any (b : Nat) (w : World) (hb : Wd b) :
    Calls Try.prog 100 #[.float .f64 b] w fun e w' => e = .returned (.bool (negF b)) ∧ w = w' := by
  rw [← wrap64_neg hb]
  have hr := bits_run b
  go_enter Try.func100, Try.ntmps100
  go_wp2
  go_ret
  exact ⟨rfl, rfl⟩

theorem ret_u64 {a b : Int} (h : a = b) : Ending.returned (.int .u64 a) = .returned (.int .u64 b) := by rw [h]
theorem ret_i64 {a b : Int} (h : a = b) : Ending.returned (.int .i64 a) = .returned (.int .i64 b) := by rw [h]
theorem ret_bool {a b : Bool} (h : a = b) : Ending.returned (.bool a) = .returned (.bool b) := by rw [h]

set_option maxHeartbeats 400000 in
theorem key_any (b : Nat) (w : World) (hb : Wd b) :
    Calls Try.prog 97 #[.float .f64 b] w fun e w' => e = .returned (.int .u64 (keyF b : Nat)) ∧ w = w' := by
  have hr := bits_run b
  cases hn : nanF b with
  | true =>
    have hk : keyF b = 18446744073709551615 := by unfold keyF; rw [hn]; rfl
    rw [hk]; clear hk
    go_enter Try.func97, Try.ntmps97
    go_wp2_with (go_at_call 99; refine (isNaN_any _ _ hb).mono ?_; rintro e w' ⟨rfl, rfl⟩)
    go_ret
    exact ⟨rfl, rfl⟩
  | false =>
    cases hg : negF b with
    | true =>
      have hk : ((keyF b : Nat) : Int) = bits BinOp.xor IntKind.u64 IntKind.u64.max (b : Int) := by
        rw [not64 hb]; unfold keyF; rw [hn]
        have : 9223372036854775808 ≤ b := of_decide_eq_true hg
        simp [this]
      rw [hk]; clear hk
      go_enter Try.func97, Try.ntmps97
      go_wp2_with (first | (go_at_call 99; refine (isNaN_any _ _ hb).mono ?_; rintro e w' ⟨rfl, rfl⟩) | (go_at_call 100; refine (signbit_any _ _ hb).mono ?_; rintro e w' ⟨rfl, rfl⟩))
      all_goals (go_ret; exact ⟨rfl, rfl⟩)
    | false =>
      have hk : ((keyF b : Nat) : Int) = bits BinOp.or IntKind.u64 (b : Int) 9223372036854775808 := by
        have h0 : ¬ 9223372036854775808 ≤ b := of_decide_eq_false hg
        rw [or63 (by omega)]; unfold keyF; rw [hn]
        simp [h0]
      rw [hk]; clear hk
      go_enter Try.func97, Try.ntmps97
      go_wp2_with (first | (go_at_call 99; refine (isNaN_any _ _ hb).mono ?_; rintro e w' ⟨rfl, rfl⟩) | (go_at_call 100; refine (signbit_any _ _ hb).mono ?_; rintro e w' ⟨rfl, rfl⟩))
      all_goals (go_ret; exact ⟨rfl, rfl⟩)

set_option maxHeartbeats 400000 in
theorem cmpu_any (a b : Nat) (w : World) :
    Calls Try.prog 96 #[.int .u64 a, .int .u64 b] w fun e w' => e = .returned (.int .i64 (cmpN a b)) ∧ w = w' := by
  unfold cmpN
  by_cases h1 : a < b
  · rw [if_pos h1]
    go_enter Try.func96, Try.ntmps96
    go_wp2
    go_ret
    exact ⟨rfl, rfl⟩
  · rw [if_neg h1]
    by_cases h2 : b < a
    · rw [if_pos h2]
      go_enter Try.func96, Try.ntmps96
      go_wp2
      go_ret
      exact ⟨rfl, rfl⟩
    · rw [if_neg h2]
      go_enter Try.func96, Try.ntmps96
      go_wp2
      go_ret
      exact ⟨rfl, rfl⟩

set_option maxHeartbeats 400000 in
theorem compare_any (a b : Nat) (w : World) (ha : Wd a) (hb : Wd b) :
    Calls Try.prog 95 #[.float .f64 a, .float .f64 b] w fun e w' => e = .returned (.int .i64 (cmpF a b)) ∧ w = w' := by
  unfold cmpF
  go_enter Try.func95, Try.ntmps95
  go_wp2_with fail
  refine (key_any _ _ ha).mono ?_
  rintro e w' ⟨rfl, rfl⟩
  go_wp2_with fail
  refine (key_any _ _ hb).mono ?_
  rintro e w' ⟨rfl, rfl⟩
  go_wp2_with fail
  refine (cmpu_any _ _ _).mono ?_
  rintro e w' ⟨rfl, rfl⟩
  go_wp2_with fail
  go_ret
  exact ⟨rfl, rfl⟩

theorem Wd_lit (n : Nat) (h : (decide (n < 18446744073709551616)) = true) : Wd n := by unfold Wd; exact of_decide_eq_true h

/-- 2^63: minus nought. -/
def mZ : Nat := 9223372036854775808
/-- The infinity above. -/
def pI : Nat := 9218868437227405312
/-- The NaN that math.NaN gives. -/
def aN : Nat := 9221120237041090561
theorem Wd_mZ : Wd mZ := Wd_lit _ (by decide +kernel)
theorem Wd_pI : Wd pI := Wd_lit _ (by decide +kernel)
theorem Wd_aN : Wd aN := Wd_lit _ (by decide +kernel)
theorem Wd_zero : Wd 0 := Wd_lit _ (by decide +kernel)

/-- An unsigned word that came in. -/
theorem word_of {a : Int} (h : (Lit.int .u64 a).wf = true) : ∃ n : Nat, a = (n : Int) ∧ Wd n := by
  have h1 : 0 ≤ a ∧ a ≤ 18446744073709551615 := by simpa [Lit.wf, IntKind.min, IntKind.max, IntKind.bits, IntKind.signed] using h
  exact ⟨a.toNat, by omega, by unfold Wd; omega⟩

theorem closed_float {a b : Nat} (h : a = b) : Ending.returned (.float .f64 a) = .returned (.float .f64 b) := by rw [h]

theorem run_store_float' (P : Program) (w : World) (a : Addr) (k : FloatKind) (b : Nat) (m : Mode) : (store a (.float k b) m).run P w = stored P w a (.float k b) m := run_store P w a _ m rfl
end Go.Proofs.Ytmcbgpjphjacjaa
