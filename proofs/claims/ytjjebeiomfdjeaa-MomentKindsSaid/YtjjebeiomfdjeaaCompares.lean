/-
  MomentCompares and MomentKinds: the reference's Compare, and the walks through the two laws.
-/
import Derived.Test.YtjjebeiomfdjeaaKind
namespace Go.Proofs.Ytjjebeiomfdjeaa
open Go.RowKit

/-- Where the keys of each kind lie. -/
theorem key_range {b : Nat} (hb : Wd b) :
    (kindF b = 0 ∧ keyF b = 4503599627370495) ∨ (kindF b = 1 ∧ 4503599627370495 < keyF b ∧ keyF b < 9223372036854775807) ∨ (kindF b = 2 ∧ keyF b = 9223372036854775807) ∨
    (kindF b = 3 ∧ keyF b = 9223372036854775808) ∨ (kindF b = 4 ∧ 9223372036854775808 < keyF b ∧ keyF b < 18442240474082181120) ∨ (kindF b = 5 ∧ keyF b = 18442240474082181120) ∨ (kindF b = 6 ∧ keyF b = 18446744073709551615) := by
  unfold Wd at hb
  unfold kindF keyF
  cases hn : nanF b with
  | true => simp
  | false =>
    have hw : b % 9223372036854775808 ≤ 9218868437227405312 := by have := of_decide_eq_false hn; omega
    simp only [Bool.false_eq_true, if_false]
    by_cases h1 : b = 9218868437227405312
    · rw [if_pos h1, if_neg (by omega)]; omega
    · rw [if_neg h1]
      by_cases h2 : b = 18442240474082181120
      · rw [if_pos h2, if_pos (by omega)]; omega
      · rw [if_neg h2]
        by_cases h3 : b = 0
        · rw [if_pos h3, if_neg (by omega)]; omega
        · rw [if_neg h3]
          by_cases h4 : b = 9223372036854775808
          · rw [if_pos h4, if_pos (by omega)]; omega
          · rw [if_neg h4]
            by_cases h5 : 9223372036854775808 ≤ b
            · rw [if_pos h5, if_pos h5]; omega
            · rw [if_neg h5, if_neg h5]; omega

theorem kind_bounds {b : Nat} (hb : Wd b) : 0 ≤ kindF b ∧ kindF b ≤ 6 := by
  rcases key_range hb with h | h | h | h | h | h | h <;> omega

theorem cmp_of_kind_lt {a b : Nat} (ha : Wd a) (hb : Wd b) (h : kindF a < kindF b) : cmpF a b = -1 := by
  have h1 := key_range ha
  have h2 := key_range hb
  have : keyF a < keyF b := by omega
  unfold cmpF cmpN; rw [if_pos this]

theorem cmp_of_kind_gt {a b : Nat} (ha : Wd a) (hb : Wd b) (h : kindF b < kindF a) : cmpF a b = 1 := by
  have h1 := key_range ha
  have h2 := key_range hb
  have : keyF b < keyF a := by omega
  unfold cmpF cmpN; rw [if_neg (by omega), if_pos this]

theorem cmp_of_kind_one {a b : Nat} (ha : Wd a) (hb : Wd b) (h : kindF a = kindF b) (n1 : kindF a ≠ 1) (n4 : kindF a ≠ 4) : cmpF a b = 0 := by
  have h1 := key_range ha
  have h2 := key_range hb
  have : keyF a = keyF b := by omega
  unfold cmpF cmpN; rw [if_neg (by omega), if_neg (by omega)]

theorem nan_of_kind {a : Nat} (h : kindF a ≠ 6) : nanF a = false := by
  cases hn : nanF a with
  | false => rfl
  | true => exact absurd (by unfold kindF; rw [hn]; rfl) h

theorem key_of_order {a b : Nat} (ha : Wd a) (hb : Wd b) (hk : kindF a = kindF b) (h6 : kindF a ≠ 6) : (svF a < svF b ↔ keyF a < keyF b) ∧ (svF b < svF a ↔ keyF b < keyF a) := by
  have na := nan_of_kind h6
  have nb := nan_of_kind (hk ▸ h6)
  have h1 := key_range ha
  have h2 := key_range hb
  unfold keyF at *
  rw [na, nb] at *
  unfold Wd at ha hb
  simp only [Bool.false_eq_true, if_false] at *
  unfold svF
  by_cases s1 : 9223372036854775808 ≤ a <;> by_cases s2 : 9223372036854775808 ≤ b <;> simp only [s1, s2, if_true, if_false] at h1 h2 ⊢ <;> omega

theorem order_key_lt {a b : Nat} (ha : Wd a) (hb : Wd b) (hk : kindF a = kindF b) (h6 : kindF a ≠ 6) : (FloatKind.f64.format.order a b == some Ordering.lt) = decide (keyF a < keyF b) := by
  rw [order_lt ha hb (nan_of_kind h6) (nan_of_kind (hk ▸ h6))]
  congr 1; exact propext (key_of_order ha hb hk h6).1
theorem order_key_gt {a b : Nat} (ha : Wd a) (hb : Wd b) (hk : kindF a = kindF b) (h6 : kindF a ≠ 6) : (FloatKind.f64.format.order a b == some Ordering.gt) = decide (keyF b < keyF a) := by
  rw [order_gt ha hb (nan_of_kind h6) (nan_of_kind (hk ▸ h6))]
  congr 1; exact propext (key_of_order ha hb hk h6).2

set_option maxHeartbeats 4000000 in
theorem refcompare_any (a b : Nat) (w : World) (ha : Wd a) (hb : Wd b) :
    Calls Try.prog 17 #[.float .f64 a, .float .f64 b] w fun e w' => e = .returned (.int .i64 (cmpF a b)) ∧ w = w' := by
  rcases Int.lt_trichotomy (kindF a) (kindF b) with h | h | h
  · rw [cmp_of_kind_lt ha hb h]
    go_enter Try.func17, Try.ntmps17
    go_wp2_with (go_at_call 19; refine (refkind_any _ _ (by assumption)).mono ?_; rintro e w' ⟨rfl, rfl⟩)
    go_ret
    exact ⟨rfl, rfl⟩
  · by_cases h6 : kindF a = 6
    · have h6b : kindF b = 6 := h ▸ h6
      rw [cmp_of_kind_one ha hb h (by omega) (by omega)]
      clear h
      go_enter Try.func17, Try.ntmps17
      go_wp2_with (go_at_call 19; refine (refkind_any _ _ (by assumption)).mono ?_; rintro e w' ⟨rfl, rfl⟩)
      go_ret
      exact ⟨rfl, rfl⟩
    · have o1 := order_key_lt ha hb h h6
      have o2 := order_key_gt ha hb h h6
      have hk : kindF b = kindF a := h.symm
      have h6' : (kindF a != 6) = true := by rw [bne_iff_ne]; exact h6
      rcases cmpF_tri a b with ⟨l1, c1⟩ | ⟨l1, c1⟩ | ⟨l1, c1⟩
      · rw [decide_eq_true l1] at o1
        rw [c1]
        clear h l1 h6 c1 o2
        go_enter Try.func17, Try.ntmps17
        go_wp2_with (go_at_call 19; refine (refkind_any _ _ (by assumption)).mono ?_; rintro e w' ⟨rfl, rfl⟩)
        go_ret
        exact ⟨rfl, rfl⟩
      · rw [decide_eq_false (by omega)] at o1 o2
        rw [c1]
        clear h l1 h6 c1
        go_enter Try.func17, Try.ntmps17
        go_wp2_with (go_at_call 19; refine (refkind_any _ _ (by assumption)).mono ?_; rintro e w' ⟨rfl, rfl⟩)
        go_ret
        exact ⟨rfl, rfl⟩
      · rw [decide_eq_false (by omega)] at o1
        rw [decide_eq_true l1] at o2
        rw [c1]
        clear h l1 h6 c1
        go_enter Try.func17, Try.ntmps17
        go_wp2_with (go_at_call 19; refine (refkind_any _ _ (by assumption)).mono ?_; rintro e w' ⟨rfl, rfl⟩)
        go_ret
        exact ⟨rfl, rfl⟩
  · rw [cmp_of_kind_gt ha hb h]
    go_enter Try.func17, Try.ntmps17
    go_wp2_with (go_at_call 19; refine (refkind_any _ _ (by assumption)).mono ?_; rintro e w' ⟨rfl, rfl⟩)
    go_ret
    exact ⟨rfl, rfl⟩
end Go.Proofs.Ytjjebeiomfdjeaa
