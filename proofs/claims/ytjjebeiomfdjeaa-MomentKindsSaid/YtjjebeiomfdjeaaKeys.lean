/-
  MomentKeys: the walk through the law.
-/
import Derived.Test.YtjjebeiomfdjeaaMomB
namespace Go.Proofs.Ytjjebeiomfdjeaa
open Go.RowKit

theorem order00 : (FloatKind.f64.format.order 0 0 == some Ordering.eq) = true := by decide +kernel

set_option maxHeartbeats 2000000 in
theorem keys_walk (a k : Nat) (w : World) (ha : Wd a) (hk : Wd k) :
    Calls Try.prog 4 #[.int .u64 a, .int .u64 k] w fun e w' => e = .returned (.bool true) ∧ w = w' := by
  have hf := frombits_run
  have hr := bits_run
  have o0 := order00
  have hu := Wd_unF hk
  have hs := self_neq hu
  by_cases hlt : k < 9223372036854775808
  · have h1 : decide ((k : Int) < 9223372036854775808) = true := by simp; omega
    have h2 : IntKind.u64.wrap (18446744073709551615 - (k : Int)) = ((unF k : Nat) : Int) := by
      rw [IntKind.wrap_u64]; unfold unF; rw [if_pos hlt]; unfold Wd at hk; omega
    clear hlt
    cases hn : nanF (unF k) with
    | true =>
      rw [hn] at hs
      go_enter Try.func4, Try.ntmps4
      go_wp2_with (first | (go_at_call 14; refine (of_any _ _ (by assumption)).mono ?_; rintro e w' ⟨rfl, rfl⟩) | (go_at_call 12; refine (key_any _ _ (by assumption)).mono ?_; rintro e w' ⟨rfl, rfl⟩) | (go_at_call 15; refine (refkey_any _ _ (by assumption)).mono ?_; rintro e w' ⟨rfl, rfl⟩) | (go_at_call 13; refine (alive_any _).mono ?_; rintro e w' ⟨rfl, rfl⟩))
      go_ret
      exact ⟨rfl, rfl⟩
    | false =>
      rw [hn] at hs
      go_enter Try.func4, Try.ntmps4
      go_wp2_with (first | (go_at_call 14; refine (of_any _ _ (by assumption)).mono ?_; rintro e w' ⟨rfl, rfl⟩) | (go_at_call 12; refine (key_any _ _ (by assumption)).mono ?_; rintro e w' ⟨rfl, rfl⟩) | (go_at_call 15; refine (refkey_any _ _ (by assumption)).mono ?_; rintro e w' ⟨rfl, rfl⟩) | (go_at_call 13; refine (alive_any _).mono ?_; rintro e w' ⟨rfl, rfl⟩))
      go_ret
      exact ⟨rfl, rfl⟩
  · have h1 : decide ((k : Int) < 9223372036854775808) = false := by simp; omega
    have h2 : IntKind.u64.wrap ((k : Int) - 9223372036854775808) = ((unF k : Nat) : Int) := by
      rw [IntKind.wrap_u64]; unfold unF; rw [if_neg hlt]; unfold Wd at hk; omega
    clear hlt
    cases hn : nanF (unF k) with
    | true =>
      rw [hn] at hs
      go_enter Try.func4, Try.ntmps4
      go_wp2_with (first | (go_at_call 14; refine (of_any _ _ (by assumption)).mono ?_; rintro e w' ⟨rfl, rfl⟩) | (go_at_call 12; refine (key_any _ _ (by assumption)).mono ?_; rintro e w' ⟨rfl, rfl⟩) | (go_at_call 15; refine (refkey_any _ _ (by assumption)).mono ?_; rintro e w' ⟨rfl, rfl⟩) | (go_at_call 13; refine (alive_any _).mono ?_; rintro e w' ⟨rfl, rfl⟩))
      go_ret
      exact ⟨rfl, rfl⟩
    | false =>
      rw [hn] at hs
      go_enter Try.func4, Try.ntmps4
      go_wp2_with (first | (go_at_call 14; refine (of_any _ _ (by assumption)).mono ?_; rintro e w' ⟨rfl, rfl⟩) | (go_at_call 12; refine (key_any _ _ (by assumption)).mono ?_; rintro e w' ⟨rfl, rfl⟩) | (go_at_call 15; refine (refkey_any _ _ (by assumption)).mono ?_; rintro e w' ⟨rfl, rfl⟩) | (go_at_call 13; refine (alive_any _).mono ?_; rintro e w' ⟨rfl, rfl⟩))
      go_ret
      exact ⟨rfl, rfl⟩

theorem keys_law (a b : Int) (w : World) (ha : (Lit.int .u64 a).wf = true) (hb : (Lit.int .u64 b).wf = true) :
    Calls Try.prog 4 #[.int .u64 a, .int .u64 b] w fun e w' => e = .returned (.bool true) ∧ Below w.heap.size w w' := by
  obtain ⟨a, rfl, ha1⟩ := word_of ha
  obtain ⟨b, rfl, hb1⟩ := word_of hb
  exact (keys_walk a b w ha1 hb1).mono fun e w' ⟨he, hw⟩ => ⟨he, hw ▸ Below.refl _ _⟩
end Go.Proofs.Ytjjebeiomfdjeaa
