/-
  Contracts: moment.Of, the reference's Key; the walk of MomentKeys.
-/
import Derived.Test.YtjjebeiomfdjeaaMom
namespace Go.Proofs.Ytjjebeiomfdjeaa
open Go.RowKit

/-- The word whose key a number would be. -/
def unF (k : Nat) : Nat := if k < 9223372036854775808 then 18446744073709551615 - k else k - 9223372036854775808

theorem Wd_unF {k : Nat} (h : Wd k) : Wd (unF k) := by
  unfold Wd at *; unfold unF; split <;> omega

theorem and_sign {k : Nat} (hk : Wd k) : bits BinOp.and IntKind.u64 (k : Int) 9223372036854775808 = if k < 9223372036854775808 then 0 else 9223372036854775808 := by
  unfold Wd at hk
  have := u64_and_nat k 9223372036854775808 hk (by omega)
  rw [show ((9223372036854775808 : Nat) : Int) = 9223372036854775808 from rfl] at this
  rw [this, nat_hi64_63, Nat.mod_eq_of_lt hk]
  split
  · rw [show k / 9223372036854775808 = 0 by omega]; rfl
  · rw [show k / 9223372036854775808 = 1 by omega]; rfl

theorem andNot_sign {k : Nat} (hk : Wd k) : bits BinOp.andNot IntKind.u64 (k : Int) 9223372036854775808 = ((k % 9223372036854775808 : Nat) : Int) := by
  unfold Wd at hk
  have := u64_andNot_nat k 9223372036854775808 hk (by omega)
  rw [show ((9223372036854775808 : Nat) : Int) = 9223372036854775808 from rfl] at this
  rw [this]
  congr 1
  have := Nat.and_two_pow_sub_one_eq_mod k 63
  rw [show (2 : Nat) ^ 63 - 1 = 18446744073709551615 - 9223372036854775808 from rfl, show (2 : Nat) ^ 63 = 9223372036854775808 from rfl] at this
  exact this

theorem ret_fe {a b : Nat} {m n : Int} (h : a = b) (h2 : m = n) : Ending.returned (.tuple #[.float .f64 a, .int .i64 m]) = .returned (.tuple #[.float .f64 b, .int .i64 n]) := by rw [h, h2]

set_option maxHeartbeats 800000 in
theorem of_any (k : Nat) (w : World) (hk : Wd k) :
    Calls Try.prog 14 #[.int .u64 k] w fun e w' => e = .returned (.tuple (if nanF (unF k) then #[.float .f64 0, .int .i64 3] else #[.float .f64 (unF k), .int .i64 0])) ∧ w = w' := by
  have hf := frombits_run
  have a1 := and_sign hk
  have a2 := andNot_sign hk
  have hu := Wd_unF hk
  by_cases hs : k < 9223372036854775808
  · rw [if_pos hs] at a1
    have n1 : bits BinOp.xor IntKind.u64 IntKind.u64.max (k : Int) = ((unF k : Nat) : Int) := by rw [not64 hk]; unfold unF; rw [if_pos hs]
    clear hs
    cases hn : nanF (unF k) with
    | true =>
      go_enter Try.func14, Try.ntmps14
      go_wp2_with (go_at_call 23; refine (isNaN_any _ _ hu).mono ?_; rintro e w' ⟨rfl, rfl⟩)
      go_ret2
      exact ⟨rfl, rfl⟩
    | false =>
      go_enter Try.func14, Try.ntmps14
      go_wp2_with (go_at_call 23; refine (isNaN_any _ _ hu).mono ?_; rintro e w' ⟨rfl, rfl⟩)
      go_ret2
      exact ⟨rfl, rfl⟩
  · rw [if_neg hs] at a1
    have n1 : k % 9223372036854775808 = unF k := by unfold unF; rw [if_neg hs]; unfold Wd at hk; omega
    rw [n1] at a2
    clear hs n1
    cases hn : nanF (unF k) with
    | true =>
      go_enter Try.func14, Try.ntmps14
      go_wp2_with (go_at_call 23; refine (isNaN_any _ _ hu).mono ?_; rintro e w' ⟨rfl, rfl⟩)
      go_ret2
      exact ⟨rfl, rfl⟩
    | false =>
      go_enter Try.func14, Try.ntmps14
      go_wp2_with (go_at_call 23; refine (isNaN_any _ _ hu).mono ?_; rintro e w' ⟨rfl, rfl⟩)
      go_ret2
      exact ⟨rfl, rfl⟩

set_option maxHeartbeats 800000 in
theorem refkey_any (b : Nat) (w : World) (hb : Wd b) :
    Calls Try.prog 15 #[.float .f64 b] w fun e w' => e = .returned (.int .u64 (keyF b : Nat)) ∧ w = w' := by
  have hr := bits_run b
  have hs := self_neq hb
  cases hn : nanF b with
  | true =>
    rw [hn] at hs
    have hk : keyF b = 18446744073709551615 := by unfold keyF; rw [hn]; rfl
    rw [hk]; clear hk
    go_enter Try.func15, Try.ntmps15
    go_wp2
    go_ret
    exact ⟨rfl, rfl⟩
  | false =>
    rw [hn] at hs
    cases hg : negF b with
    | true =>
      have h0 : 9223372036854775808 ≤ b := of_decide_eq_true hg
      have hk : IntKind.u64.wrap (18446744073709551615 - (b : Int)) = ((keyF b : Nat) : Int) := by
        rw [IntKind.wrap_u64]
        unfold keyF; rw [hn]; unfold Wd at hb; simp [h0]; omega
      have h1 : (9223372036854775808 : Int) ≤ (b : Int) := by omega
      clear h0
      go_enter Try.func15, Try.ntmps15
      go_wp2
      go_ret
      exact ⟨rfl, rfl⟩
    | false =>
      have h0 : ¬ 9223372036854775808 ≤ b := of_decide_eq_false hg
      have hk : IntKind.u64.wrap ((b : Int) + 9223372036854775808) = ((keyF b : Nat) : Int) := by
        rw [IntKind.wrap_u64]
        unfold keyF; rw [hn]
        simp [h0]; omega
      have h1 : decide ((9223372036854775808 : Int) ≤ (b : Int)) = false := by simp; omega
      clear h0
      go_enter Try.func15, Try.ntmps15
      go_wp2
      go_ret
      exact ⟨rfl, rfl⟩
end Go.Proofs.Ytjjebeiomfdjeaa
