/-
  The reference's Kind and Compare: what kind of a moment a word is, and the two contracts.
-/
import Derived.Test.YtmcbgpjphjacjaaMomD
namespace Go.Proofs.Ytmcbgpjphjacjaa
set_option linter.unusedVariables false
open Go.RowKit

/-- The word with its sign turned. -/
def flipF (b : Nat) : Nat := if 9223372036854775808 ≤ b then b - 9223372036854775808 else b + 9223372036854775808

theorem Wd_flipF {b : Nat} (h : Wd b) : Wd (flipF b) := by
  unfold Wd at *; unfold flipF; split <;> omega

theorem flip_eq {b : Nat} (h : Wd b) : b ^^^ 9223372036854775808 = flipF b := by
  unfold Wd at h
  have h1 : (b ^^^ 2 ^ 63) / 2 ^ 63 = (b / 2 ^ 63) ^^^ (2 ^ 63 / 2 ^ 63) := Nat.xor_div_two_pow
  have h2 : (b ^^^ 2 ^ 63) % 2 ^ 63 = (b % 2 ^ 63) ^^^ (2 ^ 63 % 2 ^ 63) := Nat.xor_mod_two_pow
  rw [show (2 : Nat) ^ 63 = 9223372036854775808 from rfl] at h1 h2
  rw [show (9223372036854775808 : Nat) / 9223372036854775808 = 1 from rfl] at h1
  rw [show (9223372036854775808 : Nat) % 9223372036854775808 = 0 from rfl, Nat.xor_zero] at h2
  unfold flipF
  by_cases hs : 9223372036854775808 ≤ b
  · rw [show b / 9223372036854775808 = 1 by omega, show (1 : Nat) ^^^ 1 = 0 from rfl] at h1
    rw [if_pos hs]; omega
  · rw [show b / 9223372036854775808 = 0 by omega, show (0 : Nat) ^^^ 1 = 1 from rfl] at h1
    rw [if_neg hs]; omega

theorem neg_run (b : Nat) (w : World) (h : Wd b) : (Op.unary UnOp.neg (Value.float .f64 b)).run Try.prog w = .ok (.float .f64 (flipF b)) w := by
  rw [← flip_eq h]
  show Result.ok (Value.float .f64 (b ^^^ 2 ^ (11 + 52))) w = _
  rfl

/-- Which kind. -/
def kindF (b : Nat) : Int :=
  if nanF b then 6 else if b = 9218868437227405312 then 5 else if b = 18442240474082181120 then 0 else if b = 0 then 3 else if b = 9223372036854775808 then 2 else if 9223372036854775808 ≤ b then 1 else 4

/-- The tests that the two texts make, and their outcomes. -/
structure KindIs (b : Nat) (A B C D E G X Y : Bool) (k : Int) : Prop where
  num : nanF b = false
  hA : (FloatKind.f64.format.order b 9218868437227405311 == some Ordering.gt) = A
  hB : (FloatKind.f64.format.order (flipF b) 9218868437227405311 == some Ordering.gt) = B
  hC : (FloatKind.f64.format.order b 0 == some Ordering.gt) = C
  hD : (FloatKind.f64.format.order b 0 == some Ordering.lt) = D
  hE : (FloatKind.f64.format.order b 0 == some Ordering.eq) = E
  hG : negF b = G
  hX : ((b : Int) == 18442240474082181120) = X
  hY : ((b : Int) == 9218868437227405312) = Y
  hk : kindF b = k

theorem order_gt {a b : Nat} (ha : Wd a) (hb : Wd b) (na : nanF a = false) (nb : nanF b = false) : (FloatKind.f64.format.order a b == some Ordering.gt) = decide (svF b < svF a) := by
  rw [orderF ha hb na nb, compare_eqF]
  by_cases h1 : svF a < svF b
  · rw [if_pos h1, decide_eq_false (by omega)]; rfl
  · rw [if_neg h1]
    by_cases h2 : svF a = svF b
    · rw [if_pos h2, decide_eq_false (by omega)]; rfl
    · rw [if_neg h2, decide_eq_true (by omega)]; rfl
theorem order_lt {a b : Nat} (ha : Wd a) (hb : Wd b) (na : nanF a = false) (nb : nanF b = false) : (FloatKind.f64.format.order a b == some Ordering.lt) = decide (svF a < svF b) := by
  rw [orderF ha hb na nb, compare_eqF]
  by_cases h1 : svF a < svF b
  · rw [if_pos h1, decide_eq_true h1]; rfl
  · rw [if_neg h1, decide_eq_false h1]
    by_cases h2 : svF a = svF b
    · rw [if_pos h2]; rfl
    · rw [if_neg h2]; rfl
theorem order_eq {a b : Nat} (ha : Wd a) (hb : Wd b) (na : nanF a = false) (nb : nanF b = false) : (FloatKind.f64.format.order a b == some Ordering.eq) = decide (svF a = svF b) := by
  rw [orderF ha hb na nb, compare_eqF]
  by_cases h1 : svF a < svF b
  · rw [if_pos h1, decide_eq_false (by omega)]; rfl
  · rw [if_neg h1]
    by_cases h2 : svF a = svF b
    · rw [if_pos h2, decide_eq_true h2]; rfl
    · rw [if_neg h2, decide_eq_false h2]; rfl

theorem nan_flip {b : Nat} (hb : Wd b) : nanF (flipF b) = nanF b := by
  unfold Wd at hb
  unfold nanF flipF
  congr 1; apply propext
  split <;> omega

/-- What can be said of any word that is a number. -/
theorem kind_facts {b : Nat} (hb : Wd b) (hn : nanF b = false) :
    KindIs b (decide (b = 9218868437227405312)) (decide (b = 18442240474082181120)) (decide (0 < b ∧ b < 9223372036854775808)) (decide (9223372036854775808 < b)) (decide (b = 0 ∨ b = 9223372036854775808))
      (decide (9223372036854775808 ≤ b)) (decide (b = 18442240474082181120)) (decide (b = 9218868437227405312)) (kindF b) := by
  have hw : b % 9223372036854775808 ≤ 9218868437227405312 := by have := of_decide_eq_false hn; omega
  have n1 : nanF 9218868437227405311 = false := by decide +kernel
  have n0 : nanF 0 = false := by decide +kernel
  have s1 : svF 9218868437227405311 = 9218868437227405311 := by decide +kernel
  have s0 : svF 0 = 0 := by decide +kernel
  have w1 : Wd 9218868437227405311 := Wd_lit _ (by decide +kernel)
  have hb' := hb
  unfold Wd at hb'
  refine ⟨hn, ?_, ?_, ?_, ?_, ?_, rfl, ?_, ?_, rfl⟩
  · rw [order_gt hb w1 hn n1, s1]
    congr 1; apply propext
    unfold svF; split <;> omega
  · rw [order_gt (Wd_flipF hb) w1 (by rw [nan_flip hb]; exact hn) n1, s1]
    congr 1; apply propext
    unfold svF flipF
    by_cases h : 9223372036854775808 ≤ b
    · rw [if_pos h, if_neg (by omega)]; omega
    · rw [if_neg h, if_pos (by omega)]; omega
  · rw [order_gt hb Wd_zero hn n0, s0]
    congr 1; apply propext
    unfold svF; split <;> omega
  · rw [order_lt hb Wd_zero hn n0, s0]
    congr 1; apply propext
    unfold svF; split <;> omega
  · rw [order_eq hb Wd_zero hn n0, s0]
    congr 1; apply propext
    unfold svF; split <;> omega
  · rw [Bool.eq_iff_iff]; simp; omega
  · rw [Bool.eq_iff_iff]; simp; omega

/-- The six kinds of a number. -/
theorem kind_six {b : Nat} (hb : Wd b) (hn : nanF b = false) :
    KindIs b true false true false false false false true 5 ∨ KindIs b false true false true false true true false 0 ∨ KindIs b false false false false true false false false 3 ∨
    KindIs b false false false false true true false false 2 ∨ KindIs b false false false true false true false false 1 ∨ KindIs b false false true false false false false false 4 := by
  have h := kind_facts hb hn
  have hw : b % 9223372036854775808 ≤ 9218868437227405312 := by have := of_decide_eq_false hn; omega
  have hk : kindF b = if b = 9218868437227405312 then 5 else if b = 18442240474082181120 then 0 else if b = 0 then 3 else if b = 9223372036854775808 then 2 else if 9223372036854775808 ≤ b then 1 else 4 := by
    unfold kindF; rw [hn]; rfl
  unfold Wd at hb
  by_cases h1 : b = 9218868437227405312
  · left; rw [hk, if_pos h1] at h
    simpa only [decide_eq_true h1, decide_eq_false (show ¬ b = 18442240474082181120 by omega), decide_eq_true (show 0 < b ∧ b < 9223372036854775808 by omega), decide_eq_false (show ¬ 9223372036854775808 < b by omega), decide_eq_false (show ¬ (b = 0 ∨ b = 9223372036854775808) by omega), decide_eq_false (show ¬ 9223372036854775808 ≤ b by omega)] using h
  · rw [hk, if_neg h1] at h
    right
    by_cases h2 : b = 18442240474082181120
    · left; rw [if_pos h2] at h
      simpa only [decide_eq_false h1, decide_eq_true h2, decide_eq_false (show ¬ (0 < b ∧ b < 9223372036854775808) by omega), decide_eq_true (show 9223372036854775808 < b by omega), decide_eq_false (show ¬ (b = 0 ∨ b = 9223372036854775808) by omega), decide_eq_true (show 9223372036854775808 ≤ b by omega)] using h
    · rw [if_neg h2] at h
      right
      by_cases h3 : b = 0
      · left; rw [if_pos h3] at h
        simpa only [decide_eq_false h1, decide_eq_false h2, decide_eq_false (show ¬ (0 < b ∧ b < 9223372036854775808) by omega), decide_eq_false (show ¬ 9223372036854775808 < b by omega), decide_eq_true (show (b = 0 ∨ b = 9223372036854775808) by omega), decide_eq_false (show ¬ 9223372036854775808 ≤ b by omega)] using h
      · rw [if_neg h3] at h
        right
        by_cases h4 : b = 9223372036854775808
        · left; rw [if_pos h4] at h
          simpa only [decide_eq_false h1, decide_eq_false h2, decide_eq_false (show ¬ (0 < b ∧ b < 9223372036854775808) by omega), decide_eq_false (show ¬ 9223372036854775808 < b by omega), decide_eq_true (show (b = 0 ∨ b = 9223372036854775808) by omega), decide_eq_true (show 9223372036854775808 ≤ b by omega)] using h
        · rw [if_neg h4] at h
          right
          by_cases h5 : 9223372036854775808 ≤ b
          · left; rw [if_pos h5] at h
            simpa only [decide_eq_false h1, decide_eq_false h2, decide_eq_false (show ¬ (0 < b ∧ b < 9223372036854775808) by omega), decide_eq_true (show 9223372036854775808 < b by omega), decide_eq_false (show ¬ (b = 0 ∨ b = 9223372036854775808) by omega), decide_eq_true (show 9223372036854775808 ≤ b by omega)] using h
          · right; rw [if_neg h5] at h
            simpa only [decide_eq_false h1, decide_eq_false h2, decide_eq_true (show (0 < b ∧ b < 9223372036854775808) by omega), decide_eq_false (show ¬ 9223372036854775808 < b by omega), decide_eq_false (show ¬ (b = 0 ∨ b = 9223372036854775808) by omega), decide_eq_false (show ¬ 9223372036854775808 ≤ b by omega)] using h

set_option maxHeartbeats 2000000 in
theorem refkind_any (b : Nat) (w : World) (hb : Wd b) :
    Calls Try.prog 70 #[.float .f64 b] w fun e w' => e = .returned (.int .i64 (kindF b)) ∧ w = w' := by
  have hr := bits_run b
  have hs := self_neq hb
  have hge : decide ((9223372036854775808 : Int) ≤ (b : Int)) = negF b := by unfold negF; congr 1; apply propext; omega
  cases hn : nanF b with
  | true =>
    have hk : kindF b = 6 := by unfold kindF; rw [hn]; rfl
    rw [hk]
    rw [hn] at hs
    go_enter Try.func70, Try.ntmps70
    go_wp2
    go_ret
    exact ⟨rfl, rfl⟩
  | false =>
    rw [hn] at hs
    rcases kind_six hb hn with h | h | h | h | h | h
    all_goals
      obtain ⟨_, hA, hB, hC, hD, hE, hG, hX, hY, hk⟩ := h
      rw [hk]
      rw [hG] at hge
      clear hA hB hC hD hk hG
      go_enter Try.func70, Try.ntmps70
      go_wp2
      go_ret
      exact ⟨rfl, rfl⟩

/-- Where the keys of each kind lie. -/
theorem key_range {b : Nat} (hb : Wd b) :
    (kindF b = 0 ∧ keyF b = 4503599627370495) ∨ (kindF b = 1 ∧ 4503599627370495 < keyF b ∧ keyF b < 9223372036854775807) ∨ (kindF b = 2 ∧ keyF b = 9223372036854775807) ∨
    (kindF b = 3 ∧ keyF b = 9223372036854775808) ∨ (kindF b = 4 ∧ 9223372036854775808 < keyF b ∧ keyF b < 18442240474082181120) ∨ (kindF b = 5 ∧ keyF b = 18442240474082181120) ∨ (kindF b = 6 ∧ keyF b = 18446744073709551615) := by
  unfold Wd at hb
  unfold kindF keyF
  cases hn : nanF b with
  | true => simp
  | false =>
    have hw : b % 9223372036854775808 ≤ 9218868437227405312 := by have := of_decide_eq_false hn; omega
    simp only [Bool.false_eq_true, if_false]
    by_cases h1 : b = 9218868437227405312
    · rw [if_pos h1, if_neg (by omega)]; omega
    · rw [if_neg h1]
      by_cases h2 : b = 18442240474082181120
      · rw [if_pos h2, if_pos (by omega)]; omega
      · rw [if_neg h2]
        by_cases h3 : b = 0
        · rw [if_pos h3, if_neg (by omega)]; omega
        · rw [if_neg h3]
          by_cases h4 : b = 9223372036854775808
          · rw [if_pos h4, if_pos (by omega)]; omega
          · rw [if_neg h4]
            by_cases h5 : 9223372036854775808 ≤ b
            · rw [if_pos h5, if_pos h5]; omega
            · rw [if_neg h5, if_neg h5]; omega

theorem kind_bounds {b : Nat} (hb : Wd b) : 0 ≤ kindF b ∧ kindF b ≤ 6 := by
  rcases key_range hb with h | h | h | h | h | h | h <;> omega

theorem cmp_of_kind_lt {a b : Nat} (ha : Wd a) (hb : Wd b) (h : kindF a < kindF b) : cmpF a b = -1 := by
  have h1 := key_range ha
  have h2 := key_range hb
  have : keyF a < keyF b := by omega
  unfold cmpF cmpN; rw [if_pos this]

theorem cmp_of_kind_gt {a b : Nat} (ha : Wd a) (hb : Wd b) (h : kindF b < kindF a) : cmpF a b = 1 := by
  have h1 := key_range ha
  have h2 := key_range hb
  have : keyF b < keyF a := by omega
  unfold cmpF cmpN; rw [if_neg (by omega), if_pos this]

theorem cmp_of_kind_one {a b : Nat} (ha : Wd a) (hb : Wd b) (h : kindF a = kindF b) (n1 : kindF a ≠ 1) (n4 : kindF a ≠ 4) : cmpF a b = 0 := by
  have h1 := key_range ha
  have h2 := key_range hb
  have : keyF a = keyF b := by omega
  unfold cmpF cmpN; rw [if_neg (by omega), if_neg (by omega)]

theorem nan_of_kind {a : Nat} (h : kindF a ≠ 6) : nanF a = false := by
  cases hn : nanF a with
  | false => rfl
  | true => exact absurd (by unfold kindF; rw [hn]; rfl) h

theorem key_of_order {a b : Nat} (ha : Wd a) (hb : Wd b) (hk : kindF a = kindF b) (h6 : kindF a ≠ 6) : (svF a < svF b ↔ keyF a < keyF b) ∧ (svF b < svF a ↔ keyF b < keyF a) := by
  have na := nan_of_kind h6
  have nb := nan_of_kind (hk ▸ h6)
  have h1 := key_range ha
  have h2 := key_range hb
  unfold keyF at *
  rw [na, nb] at *
  unfold Wd at ha hb
  simp only [Bool.false_eq_true, if_false] at *
  unfold svF
  by_cases s1 : 9223372036854775808 ≤ a <;> by_cases s2 : 9223372036854775808 ≤ b <;> simp only [s1, s2, if_true, if_false] at h1 h2 ⊢ <;> omega

theorem order_key_lt {a b : Nat} (ha : Wd a) (hb : Wd b) (hk : kindF a = kindF b) (h6 : kindF a ≠ 6) : (FloatKind.f64.format.order a b == some Ordering.lt) = decide (keyF a < keyF b) := by
  rw [order_lt ha hb (nan_of_kind h6) (nan_of_kind (hk ▸ h6))]
  congr 1; exact propext (key_of_order ha hb hk h6).1
theorem order_key_gt {a b : Nat} (ha : Wd a) (hb : Wd b) (hk : kindF a = kindF b) (h6 : kindF a ≠ 6) : (FloatKind.f64.format.order a b == some Ordering.gt) = decide (keyF b < keyF a) := by
  rw [order_gt ha hb (nan_of_kind h6) (nan_of_kind (hk ▸ h6))]
  congr 1; exact propext (key_of_order ha hb hk h6).2

set_option maxHeartbeats 4000000 in
theorem refcompare_any (a b : Nat) (w : World) (ha : Wd a) (hb : Wd b) :
    Calls Try.prog 64 #[.float .f64 a, .float .f64 b] w fun e w' => e = .returned (.int .i64 (cmpF a b)) ∧ w = w' := by
  rcases Int.lt_trichotomy (kindF a) (kindF b) with h | h | h
  · rw [cmp_of_kind_lt ha hb h]
    go_enter Try.func64, Try.ntmps64
    go_wp2_with (go_at_call 70; refine (refkind_any _ _ (by assumption)).mono ?_; rintro e w' ⟨rfl, rfl⟩)
    go_ret
    exact ⟨rfl, rfl⟩
  · by_cases h6 : kindF a = 6
    · have h6b : kindF b = 6 := h ▸ h6
      rw [cmp_of_kind_one ha hb h (by omega) (by omega)]
      clear h
      go_enter Try.func64, Try.ntmps64
      go_wp2_with (go_at_call 70; refine (refkind_any _ _ (by assumption)).mono ?_; rintro e w' ⟨rfl, rfl⟩)
      go_ret
      exact ⟨rfl, rfl⟩
    · have o1 := order_key_lt ha hb h h6
      have o2 := order_key_gt ha hb h h6
      have hk : kindF b = kindF a := h.symm
      have h6' : (kindF a != 6) = true := by rw [bne_iff_ne]; exact h6
      rcases cmpF_tri a b with ⟨l1, c1⟩ | ⟨l1, c1⟩ | ⟨l1, c1⟩
      · rw [decide_eq_true l1] at o1
        rw [c1]
        clear h l1 h6 c1 o2
        go_enter Try.func64, Try.ntmps64
        go_wp2_with (go_at_call 70; refine (refkind_any _ _ (by assumption)).mono ?_; rintro e w' ⟨rfl, rfl⟩)
        go_ret
        exact ⟨rfl, rfl⟩
      · rw [decide_eq_false (by omega)] at o1 o2
        rw [c1]
        clear h l1 h6 c1
        go_enter Try.func64, Try.ntmps64
        go_wp2_with (go_at_call 70; refine (refkind_any _ _ (by assumption)).mono ?_; rintro e w' ⟨rfl, rfl⟩)
        go_ret
        exact ⟨rfl, rfl⟩
      · rw [decide_eq_false (by omega)] at o1
        rw [decide_eq_true l1] at o2
        rw [c1]
        clear h l1 h6 c1
        go_enter Try.func64, Try.ntmps64
        go_wp2_with (go_at_call 70; refine (refkind_any _ _ (by assumption)).mono ?_; rintro e w' ⟨rfl, rfl⟩)
        go_ret
        exact ⟨rfl, rfl⟩
  · rw [cmp_of_kind_gt ha hb h]
    go_enter Try.func64, Try.ntmps64
    go_wp2_with (go_at_call 70; refine (refkind_any _ _ (by assumption)).mono ?_; rintro e w' ⟨rfl, rfl⟩)
    go_ret
    exact ⟨rfl, rfl⟩
end Go.Proofs.Ytmcbgpjphjacjaa
