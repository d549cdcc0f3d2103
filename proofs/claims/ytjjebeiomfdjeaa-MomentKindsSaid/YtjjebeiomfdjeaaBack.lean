/-
  MomentBack: plain facts, and the walk through the law.
-/
import Derived.Test.YtjjebeiomfdjeaaKeys
namespace Go.Proofs.Ytjjebeiomfdjeaa
open Go.RowKit

theorem unF_key {a : Nat} (ha : Wd a) (hn : nanF a = false) : unF (keyF a) = a := by
  unfold Wd at ha
  unfold unF keyF
  rw [hn]
  simp only [Bool.false_eq_true, if_false]
  by_cases h : 9223372036854775808 ≤ a
  · rw [if_pos h, if_pos (by omega)]; omega
  · rw [if_neg h, if_neg (by omega)]; omega

theorem nan_key {a : Nat} (hn : nanF a = true) : nanF (unF (keyF a)) = true := by
  unfold keyF; rw [hn, if_pos rfl]; decide +kernel

theorem keyF_lt_of_sv {a b : Nat} (ha : Wd a) (hb : Wd b) (na : nanF a = false) (nb : nanF b = false) (h : svF a < svF b) : keyF a < keyF b := by
  unfold Wd at *
  unfold svF at h
  unfold keyF
  rw [na, nb]
  simp only [Bool.false_eq_true, if_false]
  by_cases h1 : 9223372036854775808 ≤ a <;> by_cases h2 : 9223372036854775808 ≤ b <;> simp only [h1, h2, if_true, if_false] at h ⊢ <;> omega

theorem back_lt {a b : Nat} (ha : Wd a) (hb : Wd b) (na : nanF a = false) (h : (FloatKind.f64.format.order a b == some Ordering.lt) = true) : cmpF a b = -1 := by
  have nb : nanF b = false := by
    cases hb' : nanF b with
    | true => rw [order_nan_right hb'] at h; cases h
    | false => rfl
  rw [orderF ha hb na nb, compare_eqF] at h
  have : svF a < svF b := by
    by_cases hlt : svF a < svF b
    · exact hlt
    · rw [if_neg hlt] at h; split at h <;> cases h
  have := keyF_lt_of_sv ha hb na nb this
  unfold cmpF cmpN; rw [if_pos this]

theorem back_eq {a b : Nat} (ha : Wd a) (hb : Wd b) (na : nanF a = false) (h : (FloatKind.f64.format.order a b == some Ordering.eq) = true)
    (hz : (FloatKind.f64.format.order a 0 == some Ordering.eq) = false) : cmpF a b = 0 := by
  have nb : nanF b = false := by
    cases hb' : nanF b with
    | true => rw [order_nan_right hb'] at h; cases h
    | false => rfl
  rw [orderF ha hb na nb, compare_eqF] at h
  rw [orderF ha Wd_zero na (by decide +kernel), compare_eqF] at hz
  have he : svF a = svF b := by
    by_cases hlt : svF a < svF b
    · rw [if_pos hlt] at h; cases h
    · rw [if_neg hlt] at h
      by_cases he : svF a = svF b
      · exact he
      · rw [if_neg he] at h; cases h
  have hne : svF a ≠ 0 := by
    intro h0
    rw [h0, show svF 0 = 0 by decide +kernel] at hz
    simp at hz
  have hab : a = b := by
    unfold Wd at *
    unfold svF at he hne
    by_cases h1 : 9223372036854775808 ≤ a <;> by_cases h2 : 9223372036854775808 ≤ b <;> simp only [h1, h2, if_true, if_false] at he hne <;> omega
  rw [hab]; exact cmpF_self b

theorem neqF (a b : Nat) : (FloatKind.f64.format.order a b != some Ordering.eq) = !(FloatKind.f64.format.order a b == some Ordering.eq) := rfl

set_option maxHeartbeats 2000000 in
theorem back_walk (a b : Nat) (w : World) (ha : Wd a) (hb : Wd b) :
    Calls Try.prog 5 #[.int .u64 a, .int .u64 b] w fun e w' => e = .returned (.bool true) ∧ w = w' := by
  have hf := frombits_run
  have hr := bits_run
  have o0 := order00
  have hs := self_neq ha
  have hkw : Wd (keyF a) := keyF_lt
  cases hn : nanF a with
  | true =>
    rw [hn] at hs
    have hu := nan_key hn
    go_enter Try.func5, Try.ntmps5
    go_wp2_with (first | (go_at_call 14; refine (of_any _ _ (by assumption)).mono ?_; rintro e w' ⟨rfl, rfl⟩) | (go_at_call 12; refine (key_any _ _ (by assumption)).mono ?_; rintro e w' ⟨rfl, rfl⟩) | (go_at_call 13; refine (alive_any _).mono ?_; rintro e w' ⟨rfl, rfl⟩))
    go_ret
    exact ⟨rfl, rfl⟩
  | false =>
    rw [hn] at hs
    have hu := unF_key ha hn
    cases hL : (FloatKind.f64.format.order a b == some Ordering.lt) with
    | true =>
      have hc := back_lt ha hb hn hL
      go_enter Try.func5, Try.ntmps5
      go_wp2_with (first | (go_at_call 11; refine (compare_any _ _ _ (by assumption) (by assumption)).mono ?_; rintro e w' ⟨rfl, rfl⟩) | (go_at_call 14; refine (of_any _ _ (by assumption)).mono ?_; rintro e w' ⟨rfl, rfl⟩) | (go_at_call 12; refine (key_any _ _ (by assumption)).mono ?_; rintro e w' ⟨rfl, rfl⟩) | (go_at_call 13; refine (alive_any _).mono ?_; rintro e w' ⟨rfl, rfl⟩))
      go_ret
      exact ⟨rfl, rfl⟩
    | false =>
      cases hE : (FloatKind.f64.format.order a b == some Ordering.eq) with
      | false =>
        have hE2 : (FloatKind.f64.format.order a b != some Ordering.eq) = true := by rw [neqF, hE]; rfl
        go_enter Try.func5, Try.ntmps5
        go_wp2_with (first | (go_at_call 14; refine (of_any _ _ (by assumption)).mono ?_; rintro e w' ⟨rfl, rfl⟩) | (go_at_call 12; refine (key_any _ _ (by assumption)).mono ?_; rintro e w' ⟨rfl, rfl⟩) | (go_at_call 13; refine (alive_any _).mono ?_; rintro e w' ⟨rfl, rfl⟩))
        go_ret
        exact ⟨rfl, rfl⟩
      | true =>
        have hE2 : (FloatKind.f64.format.order a b != some Ordering.eq) = false := by rw [neqF, hE]; rfl
        cases hZ : (FloatKind.f64.format.order a 0 == some Ordering.eq) with
        | true =>
          have hZ2 : (FloatKind.f64.format.order a 0 != some Ordering.eq) = false := by rw [neqF, hZ]; rfl
          go_enter Try.func5, Try.ntmps5
          go_wp2_with (first | (go_at_call 14; refine (of_any _ _ (by assumption)).mono ?_; rintro e w' ⟨rfl, rfl⟩) | (go_at_call 12; refine (key_any _ _ (by assumption)).mono ?_; rintro e w' ⟨rfl, rfl⟩) | (go_at_call 13; refine (alive_any _).mono ?_; rintro e w' ⟨rfl, rfl⟩))
          go_ret
          exact ⟨rfl, rfl⟩
        | false =>
          have hZ2 : (FloatKind.f64.format.order a 0 != some Ordering.eq) = true := by rw [neqF, hZ]; rfl
          have hc := back_eq ha hb hn hE hZ
          go_enter Try.func5, Try.ntmps5
          go_wp2_with (first | (go_at_call 11; refine (compare_any _ _ _ (by assumption) (by assumption)).mono ?_; rintro e w' ⟨rfl, rfl⟩) | (go_at_call 14; refine (of_any _ _ (by assumption)).mono ?_; rintro e w' ⟨rfl, rfl⟩) | (go_at_call 12; refine (key_any _ _ (by assumption)).mono ?_; rintro e w' ⟨rfl, rfl⟩) | (go_at_call 13; refine (alive_any _).mono ?_; rintro e w' ⟨rfl, rfl⟩))
          go_ret
          exact ⟨rfl, rfl⟩

theorem back_law (a b : Int) (w : World) (ha : (Lit.int .u64 a).wf = true) (hb : (Lit.int .u64 b).wf = true) :
    Calls Try.prog 5 #[.int .u64 a, .int .u64 b] w fun e w' => e = .returned (.bool true) ∧ Below w.heap.size w w' := by
  obtain ⟨a, rfl, ha1⟩ := word_of ha
  obtain ⟨b, rfl, hb1⟩ := word_of hb
  exact (back_walk a b w ha1 hb1).mono fun e w' ⟨he, hw⟩ => ⟨he, hw ▸ Below.refl _ _⟩
end Go.Proofs.Ytjjebeiomfdjeaa
