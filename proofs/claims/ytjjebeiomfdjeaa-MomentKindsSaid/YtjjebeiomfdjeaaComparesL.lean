/-
  MomentCompares and MomentKinds: the walks through the two laws.
-/
import Derived.Test.YtjjebeiomfdjeaaCompares
namespace Go.Proofs.Ytjjebeiomfdjeaa
open Go.RowKit

theorem cmpF_tri2 (a b : Nat) : (cmpF a b = -1 ∧ cmpF b a = 1) ∨ (cmpF a b = 0 ∧ cmpF b a = 0) ∨ (cmpF a b = 1 ∧ cmpF b a = -1) := by
  rcases cmpF_tri a b with ⟨l1, c1⟩ | ⟨l1, c1⟩ | ⟨l1, c1⟩ <;> rcases cmpF_tri b a with ⟨l2, c2⟩ | ⟨l2, c2⟩ | ⟨l2, c2⟩ <;> omega

set_option maxHeartbeats 4000000 in
theorem compares_walk (a b : Nat) (w : World) (ha : Wd a) (hb : Wd b) :
    Calls Try.prog 6 #[.int .u64 a, .int .u64 b] w fun e w' => e = .returned (.bool true) ∧ w = w' := by
  have hf := frombits_run
  rcases cmpF_tri2 a b with ⟨c1, c2⟩ | ⟨c1, c2⟩ | ⟨c1, c2⟩
  all_goals
    go_enter Try.func6, Try.ntmps6
    go_wp2_with (first | (go_at_call 11; refine (compare_any _ _ _ (by assumption) (by assumption)).mono ?_; rintro e w' ⟨rfl, rfl⟩) | (go_at_call 17; refine (refcompare_any _ _ _ (by assumption) (by assumption)).mono ?_; rintro e w' ⟨rfl, rfl⟩) | (go_at_call 18; refine (kind_any _ _ (by assumption)).mono ?_; rintro e w' ⟨rfl, rfl⟩) | (go_at_call 19; refine (refkind_any _ _ (by assumption)).mono ?_; rintro e w' ⟨rfl, rfl⟩) | (go_at_call 13; refine (alive_any _).mono ?_; rintro e w' ⟨rfl, rfl⟩))
    go_ret
    exact ⟨rfl, rfl⟩

theorem compares_law (a b : Int) (w : World) (ha : (Lit.int .u64 a).wf = true) (hb : (Lit.int .u64 b).wf = true) :
    Calls Try.prog 6 #[.int .u64 a, .int .u64 b] w fun e w' => e = .returned (.bool true) ∧ Below w.heap.size w w' := by
  obtain ⟨a, rfl, ha1⟩ := word_of ha
  obtain ⟨b, rfl, hb1⟩ := word_of hb
  exact (compares_walk a b w ha1 hb1).mono fun e w' ⟨he, hw⟩ => ⟨he, hw ▸ Below.refl _ _⟩

set_option maxHeartbeats 4000000 in
theorem kinds_walk (a b : Nat) (w : World) (ha : Wd a) (hb : Wd b) :
    Calls Try.prog 7 #[.int .u64 a, .int .u64 b] w fun e w' => e = .returned (.bool true) ∧ w = w' := by
  have hf := frombits_run
  have ka := kind_bounds ha
  have kb := kind_bounds hb
  obtain ⟨ka0, ka6⟩ := ka
  obtain ⟨kb0, kb6⟩ := kb
  rcases Int.lt_trichotomy (kindF a) (kindF b) with h | h | h
  · have hc := cmp_of_kind_lt ha hb h
    go_enter Try.func7, Try.ntmps7
    go_wp2_with (first | (go_at_call 11; refine (compare_any _ _ _ (by assumption) (by assumption)).mono ?_; rintro e w' ⟨rfl, rfl⟩) | (go_at_call 18; refine (kind_any _ _ (by assumption)).mono ?_; rintro e w' ⟨rfl, rfl⟩) | (go_at_call 13; refine (alive_any _).mono ?_; rintro e w' ⟨rfl, rfl⟩))
    go_ret
    exact ⟨rfl, rfl⟩
  · have hk : kindF b = kindF a := h.symm
    clear kb0 kb6
    by_cases h1 : kindF a = 1
    · rw [h1] at hk
      clear h
      go_enter Try.func7, Try.ntmps7
      go_wp2_with (first | (go_at_call 18; refine (kind_any _ _ (by assumption)).mono ?_; rintro e w' ⟨rfl, rfl⟩) | (go_at_call 13; refine (alive_any _).mono ?_; rintro e w' ⟨rfl, rfl⟩))
      go_ret
      exact ⟨rfl, rfl⟩
    · by_cases h4 : kindF a = 4
      · rw [h4] at hk
        clear h h1
        go_enter Try.func7, Try.ntmps7
        go_wp2_with (first | (go_at_call 18; refine (kind_any _ _ (by assumption)).mono ?_; rintro e w' ⟨rfl, rfl⟩) | (go_at_call 13; refine (alive_any _).mono ?_; rintro e w' ⟨rfl, rfl⟩))
        go_ret
        exact ⟨rfl, rfl⟩
      · have hc := cmp_of_kind_one ha hb h h1 h4
        have g1 : (kindF a != 1) = true := by rw [bne_iff_ne]; exact h1
        have g4 : (kindF a != 4) = true := by rw [bne_iff_ne]; exact h4
        clear h h1 h4
        go_enter Try.func7, Try.ntmps7
        go_wp2_with (first | (go_at_call 11; refine (compare_any _ _ _ (by assumption) (by assumption)).mono ?_; rintro e w' ⟨rfl, rfl⟩) | (go_at_call 18; refine (kind_any _ _ (by assumption)).mono ?_; rintro e w' ⟨rfl, rfl⟩) | (go_at_call 13; refine (alive_any _).mono ?_; rintro e w' ⟨rfl, rfl⟩))
        go_ret
        exact ⟨rfl, rfl⟩
  · have g1 : (kindF a == kindF b) = false := by rw [beq_eq_false_iff_ne]; omega
    go_enter Try.func7, Try.ntmps7
    go_wp2_with (first | (go_at_call 18; refine (kind_any _ _ (by assumption)).mono ?_; rintro e w' ⟨rfl, rfl⟩) | (go_at_call 13; refine (alive_any _).mono ?_; rintro e w' ⟨rfl, rfl⟩))
    go_ret
    exact ⟨rfl, rfl⟩

theorem kinds_law (a b : Int) (w : World) (ha : (Lit.int .u64 a).wf = true) (hb : (Lit.int .u64 b).wf = true) :
    Calls Try.prog 7 #[.int .u64 a, .int .u64 b] w fun e w' => e = .returned (.bool true) ∧ Below w.heap.size w w' := by
  obtain ⟨a, rfl, ha1⟩ := word_of ha
  obtain ⟨b, rfl, hb1⟩ := word_of hb
  exact (kinds_walk a b w ha1 hb1).mono fun e w' ⟨he, hw⟩ => ⟨he, hw ▸ Below.refl _ _⟩
end Go.Proofs.Ytjjebeiomfdjeaa
