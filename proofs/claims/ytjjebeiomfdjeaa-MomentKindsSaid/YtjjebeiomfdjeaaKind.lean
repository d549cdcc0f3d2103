/-
  What kind of a moment a word is: plain facts, and the contracts of Kind, of the reference's Kind and Compare.
-/
import Derived.Test.YtjjebeiomfdjeaaBack
namespace Go.Proofs.Ytjjebeiomfdjeaa
open Go.RowKit

/-- The word with its sign turned. -/
def flipF (b : Nat) : Nat := if 9223372036854775808 ≤ b then b - 9223372036854775808 else b + 9223372036854775808

theorem Wd_flipF {b : Nat} (h : Wd b) : Wd (flipF b) := by
  unfold Wd at *; unfold flipF; split <;> omega

theorem flip_eq {b : Nat} (h : Wd b) : b ^^^ 9223372036854775808 = flipF b := by
  unfold Wd at h
  have h1 : (b ^^^ 2 ^ 63) / 2 ^ 63 = (b / 2 ^ 63) ^^^ (2 ^ 63 / 2 ^ 63) := Nat.xor_div_two_pow
  have h2 : (b ^^^ 2 ^ 63) % 2 ^ 63 = (b % 2 ^ 63) ^^^ (2 ^ 63 % 2 ^ 63) := Nat.xor_mod_two_pow
  rw [show (2 : Nat) ^ 63 = 9223372036854775808 from rfl] at h1 h2
  rw [show (9223372036854775808 : Nat) / 9223372036854775808 = 1 from rfl] at h1
  rw [show (9223372036854775808 : Nat) % 9223372036854775808 = 0 from rfl, Nat.xor_zero] at h2
  unfold flipF
  by_cases hs : 9223372036854775808 ≤ b
  · rw [show b / 9223372036854775808 = 1 by omega, show (1 : Nat) ^^^ 1 = 0 from rfl] at h1
    rw [if_pos hs]; omega
  · rw [show b / 9223372036854775808 = 0 by omega, show (0 : Nat) ^^^ 1 = 1 from rfl] at h1
    rw [if_neg hs]; omega

theorem neg_run (b : Nat) (w : World) (h : Wd b) : (Op.unary UnOp.neg (Value.float .f64 b)).run Try.prog w = .ok (.float .f64 (flipF b)) w := by
  rw [← flip_eq h]
  show Result.ok (Value.float .f64 (b ^^^ 2 ^ (11 + 52))) w = _
  rfl

/-- Which kind. -/
def kindF (b : Nat) : Int :=
  if nanF b then 6 else if b = 9218868437227405312 then 5 else if b = 18442240474082181120 then 0 else if b = 0 then 3 else if b = 9223372036854775808 then 2 else if 9223372036854775808 ≤ b then 1 else 4

/-- The tests that the two texts make, and their outcomes. -/
structure KindIs (b : Nat) (A B C D E G X Y : Bool) (k : Int) : Prop where
  num : nanF b = false
  hA : (FloatKind.f64.format.order b 9218868437227405311 == some Ordering.gt) = A
  hB : (FloatKind.f64.format.order (flipF b) 9218868437227405311 == some Ordering.gt) = B
  hC : (FloatKind.f64.format.order b 0 == some Ordering.gt) = C
  hD : (FloatKind.f64.format.order b 0 == some Ordering.lt) = D
  hE : (FloatKind.f64.format.order b 0 == some Ordering.eq) = E
  hG : negF b = G
  hX : ((b : Int) == 18442240474082181120) = X
  hY : ((b : Int) == 9218868437227405312) = Y
  hk : kindF b = k

theorem order_gt {a b : Nat} (ha : Wd a) (hb : Wd b) (na : nanF a = false) (nb : nanF b = false) : (FloatKind.f64.format.order a b == some Ordering.gt) = decide (svF b < svF a) := by
  rw [orderF ha hb na nb, compare_eqF]
  by_cases h1 : svF a < svF b
  · rw [if_pos h1, decide_eq_false (by omega)]; rfl
  · rw [if_neg h1]
    by_cases h2 : svF a = svF b
    · rw [if_pos h2, decide_eq_false (by omega)]; rfl
    · rw [if_neg h2, decide_eq_true (by omega)]; rfl
theorem order_lt {a b : Nat} (ha : Wd a) (hb : Wd b) (na : nanF a = false) (nb : nanF b = false) : (FloatKind.f64.format.order a b == some Ordering.lt) = decide (svF a < svF b) := by
  rw [orderF ha hb na nb, compare_eqF]
  by_cases h1 : svF a < svF b
  · rw [if_pos h1, decide_eq_true h1]; rfl
  · rw [if_neg h1, decide_eq_false h1]
    by_cases h2 : svF a = svF b
    · rw [if_pos h2]; rfl
    · rw [if_neg h2]; rfl
theorem order_eq {a b : Nat} (ha : Wd a) (hb : Wd b) (na : nanF a = false) (nb : nanF b = false) : (FloatKind.f64.format.order a b == some Ordering.eq) = decide (svF a = svF b) := by
  rw [orderF ha hb na nb, compare_eqF]
  by_cases h1 : svF a < svF b
  · rw [if_pos h1, decide_eq_false (by omega)]; rfl
  · rw [if_neg h1]
    by_cases h2 : svF a = svF b
    · rw [if_pos h2, decide_eq_true h2]; rfl
    · rw [if_neg h2, decide_eq_false h2]; rfl

theorem nan_flip {b : Nat} (hb : Wd b) : nanF (flipF b) = nanF b := by
  unfold Wd at hb
  unfold nanF flipF
  congr 1; apply propext
  split <;> omega

/-- What can be said of any word that is a number. -/
theorem kind_facts {b : Nat} (hb : Wd b) (hn : nanF b = false) :
    KindIs b (decide (b = 9218868437227405312)) (decide (b = 18442240474082181120)) (decide (0 < b ∧ b < 9223372036854775808)) (decide (9223372036854775808 < b)) (decide (b = 0 ∨ b = 9223372036854775808))
      (decide (9223372036854775808 ≤ b)) (decide (b = 18442240474082181120)) (decide (b = 9218868437227405312)) (kindF b) := by
  have hw : b % 9223372036854775808 ≤ 9218868437227405312 := by have := of_decide_eq_false hn; omega
  have n1 : nanF 9218868437227405311 = false := by decide +kernel
  have n0 : nanF 0 = false := by decide +kernel
  have s1 : svF 9218868437227405311 = 9218868437227405311 := by decide +kernel
  have s0 : svF 0 = 0 := by decide +kernel
  have w1 : Wd 9218868437227405311 := Wd_lit _ (by decide +kernel)
  have hb' := hb
  unfold Wd at hb'
  refine ⟨hn, ?_, ?_, ?_, ?_, ?_, rfl, ?_, ?_, rfl⟩
  · rw [order_gt hb w1 hn n1, s1]
    congr 1; apply propext
    unfold svF; split <;> omega
  · rw [order_gt (Wd_flipF hb) w1 (by rw [nan_flip hb]; exact hn) n1, s1]
    congr 1; apply propext
    unfold svF flipF
    by_cases h : 9223372036854775808 ≤ b
    · rw [if_pos h, if_neg (by omega)]; omega
    · rw [if_neg h, if_pos (by omega)]; omega
  · rw [order_gt hb Wd_zero hn n0, s0]
    congr 1; apply propext
    unfold svF; split <;> omega
  · rw [order_lt hb Wd_zero hn n0, s0]
    congr 1; apply propext
    unfold svF; split <;> omega
  · rw [order_eq hb Wd_zero hn n0, s0]
    congr 1; apply propext
    unfold svF; split <;> omega
  · rw [Bool.eq_iff_iff]; simp; omega
  · rw [Bool.eq_iff_iff]; simp; omega

/-- The six kinds of a number. -/
theorem kind_six {b : Nat} (hb : Wd b) (hn : nanF b = false) :
    KindIs b true false true false false false false true 5 ∨ KindIs b false true false true false true true false 0 ∨ KindIs b false false false false true false false false 3 ∨
    KindIs b false false false false true true false false 2 ∨ KindIs b false false false true false true false false 1 ∨ KindIs b false false true false false false false false 4 := by
  have h := kind_facts hb hn
  have hw : b % 9223372036854775808 ≤ 9218868437227405312 := by have := of_decide_eq_false hn; omega
  have hk : kindF b = if b = 9218868437227405312 then 5 else if b = 18442240474082181120 then 0 else if b = 0 then 3 else if b = 9223372036854775808 then 2 else if 9223372036854775808 ≤ b then 1 else 4 := by
    unfold kindF; rw [hn]; rfl
  unfold Wd at hb
  by_cases h1 : b = 9218868437227405312
  · left; rw [hk, if_pos h1] at h
    simpa only [decide_eq_true h1, decide_eq_false (show ¬ b = 18442240474082181120 by omega), decide_eq_true (show 0 < b ∧ b < 9223372036854775808 by omega), decide_eq_false (show ¬ 9223372036854775808 < b by omega), decide_eq_false (show ¬ (b = 0 ∨ b = 9223372036854775808) by omega), decide_eq_false (show ¬ 9223372036854775808 ≤ b by omega)] using h
  · rw [hk, if_neg h1] at h
    right
    by_cases h2 : b = 18442240474082181120
    · left; rw [if_pos h2] at h
      simpa only [decide_eq_false h1, decide_eq_true h2, decide_eq_false (show ¬ (0 < b ∧ b < 9223372036854775808) by omega), decide_eq_true (show 9223372036854775808 < b by omega), decide_eq_false (show ¬ (b = 0 ∨ b = 9223372036854775808) by omega), decide_eq_true (show 9223372036854775808 ≤ b by omega)] using h
    · rw [if_neg h2] at h
      right
      by_cases h3 : b = 0
      · left; rw [if_pos h3] at h
        simpa only [decide_eq_false h1, decide_eq_false h2, decide_eq_false (show ¬ (0 < b ∧ b < 9223372036854775808) by omega), decide_eq_false (show ¬ 9223372036854775808 < b by omega), decide_eq_true (show (b = 0 ∨ b = 9223372036854775808) by omega), decide_eq_false (show ¬ 9223372036854775808 ≤ b by omega)] using h
      · rw [if_neg h3] at h
        right
        by_cases h4 : b = 9223372036854775808
        · left; rw [if_pos h4] at h
          simpa only [decide_eq_false h1, decide_eq_false h2, decide_eq_false (show ¬ (0 < b ∧ b < 9223372036854775808) by omega), decide_eq_false (show ¬ 9223372036854775808 < b by omega), decide_eq_true (show (b = 0 ∨ b = 9223372036854775808) by omega), decide_eq_true (show 9223372036854775808 ≤ b by omega)] using h
        · rw [if_neg h4] at h
          right
          by_cases h5 : 9223372036854775808 ≤ b
          · left; rw [if_pos h5] at h
            simpa only [decide_eq_false h1, decide_eq_false h2, decide_eq_false (show ¬ (0 < b ∧ b < 9223372036854775808) by omega), decide_eq_true (show 9223372036854775808 < b by omega), decide_eq_false (show ¬ (b = 0 ∨ b = 9223372036854775808) by omega), decide_eq_true (show 9223372036854775808 ≤ b by omega)] using h
          · right; rw [if_neg h5] at h
            simpa only [decide_eq_false h1, decide_eq_false h2, decide_eq_true (show (0 < b ∧ b < 9223372036854775808) by omega), decide_eq_false (show ¬ 9223372036854775808 < b by omega), decide_eq_false (show ¬ (b = 0 ∨ b = 9223372036854775808) by omega), decide_eq_false (show ¬ 9223372036854775808 ≤ b by omega)] using h

set_option maxHeartbeats 800000 in
theorem isInf_pos (b : Nat) (w : World) (A : Bool) (hA : (FloatKind.f64.format.order b 9218868437227405311 == some Ordering.gt) = A) :
    Calls Try.prog 28 #[.float .f64 b, .int .i64 1] w fun e w' => e = .returned (.bool A) ∧ w = w' := by
  subst hA
  go_enter Try.func28, Try.ntmps28
  go_wp2
  go_ret
  exact ⟨rfl, rfl⟩

set_option maxHeartbeats 800000 in
theorem isInf_neg (b : Nat) (w : World) (hb : Wd b) (B : Bool) (hB : (FloatKind.f64.format.order (flipF b) 9218868437227405311 == some Ordering.gt) = B) :
    Calls Try.prog 28 #[.float .f64 b, .int .i64 (-1)] w fun e w' => e = .returned (.bool B) ∧ w = w' := by
  subst hB
  have hr := fun w => neg_run b w hb
  go_enter Try.func28, Try.ntmps28
  go_wp2
  go_ret
  exact ⟨rfl, rfl⟩

set_option maxHeartbeats 2000000 in
theorem kind_any (b : Nat) (w : World) (hb : Wd b) :
    Calls Try.prog 18 #[.float .f64 b] w fun e w' => e = .returned (.int .i64 (kindF b)) ∧ w = w' := by
  cases hn : nanF b with
  | true =>
    have hk : kindF b = 6 := by unfold kindF; rw [hn]; rfl
    rw [hk]
    go_enter Try.func18, Try.ntmps18
    go_wp2_with (go_at_call 23; refine (isNaN_any _ _ hb).mono ?_; rintro e w' ⟨rfl, rfl⟩)
    go_ret
    exact ⟨rfl, rfl⟩
  | false =>
    rcases kind_six hb hn with h | h | h | h | h | h
    all_goals
      obtain ⟨_, hA, hB, hC, hD, hE, hG, hX, hY, hk⟩ := h
      rw [hk]
      clear hX hY hE hk
      go_enter Try.func18, Try.ntmps18
      go_wp2_with fail
      refine (isNaN_any _ _ hb).mono ?_; rintro e w' ⟨rfl, rfl⟩
      go_wp2_with fail
      refine (isInf_pos _ _ _ hA).mono ?_; rintro e w' ⟨rfl, rfl⟩
      go_wp2_with fail
      first | (go_ret; exact ⟨rfl, rfl⟩) | skip
      try
        refine (isInf_neg _ _ hb _ hB).mono ?_; rintro e w' ⟨rfl, rfl⟩
        go_wp2_with (go_at_call 24; refine (signbit_any _ _ hb).mono ?_; rintro e w' ⟨rfl, rfl⟩)
        go_ret
        exact ⟨rfl, rfl⟩

set_option maxHeartbeats 2000000 in
theorem refkind_any (b : Nat) (w : World) (hb : Wd b) :
    Calls Try.prog 19 #[.float .f64 b] w fun e w' => e = .returned (.int .i64 (kindF b)) ∧ w = w' := by
  have hr := bits_run b
  have hs := self_neq hb
  have hge : decide ((9223372036854775808 : Int) ≤ (b : Int)) = negF b := by unfold negF; congr 1; apply propext; omega
  cases hn : nanF b with
  | true =>
    have hk : kindF b = 6 := by unfold kindF; rw [hn]; rfl
    rw [hk]
    rw [hn] at hs
    go_enter Try.func19, Try.ntmps19
    go_wp2
    go_ret
    exact ⟨rfl, rfl⟩
  | false =>
    rw [hn] at hs
    rcases kind_six hb hn with h | h | h | h | h | h
    all_goals
      obtain ⟨_, hA, hB, hC, hD, hE, hG, hX, hY, hk⟩ := h
      rw [hk]
      rw [hG] at hge
      clear hA hB hC hD hk hG
      go_enter Try.func19, Try.ntmps19
      go_wp2
      go_ret
      exact ⟨rfl, rfl⟩
end Go.Proofs.Ytjjebeiomfdjeaa
