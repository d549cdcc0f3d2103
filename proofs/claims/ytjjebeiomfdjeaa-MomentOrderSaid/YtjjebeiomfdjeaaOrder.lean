/-
  MomentOrder: the walk through the law.
-/
import Derived.Test.YtjjebeiomfdjeaaMom
namespace Go.Proofs.Ytjjebeiomfdjeaa
open Go.RowKit

set_option maxHeartbeats 2000000 in
theorem order_walk (a b c : Nat) (w : World) (ha : Wd a) (hb : Wd b) (hc : Wd c) :
    Calls Try.prog 3 #[.int .u64 a, .int .u64 b, .int .u64 c] w fun e w' => e = .returned (.bool true) ∧ w = w' := by
  have hf := frombits_run
  have s1 := cmpF_self a
  rcases cmpF_tri a b with ⟨l1, c1⟩ | ⟨l1, c1⟩ | ⟨l1, c1⟩ <;> rcases cmpF_tri b c with ⟨l2, c2⟩ | ⟨l2, c2⟩ | ⟨l2, c2⟩ <;> rcases cmpF_tri a c with ⟨l3, c3⟩ | ⟨l3, c3⟩ | ⟨l3, c3⟩ <;> first | (exfalso; omega) | skip
  all_goals
    clear l2 l3
    first | (have l4 := Nat.le_of_eq l1; have l5 := Nat.le_of_eq l1.symm; clear l1) | skip
    go_enter Try.func3, Try.ntmps3
    go_wp2_with (first | (go_at_call 11; refine (compare_any _ _ _ (by assumption) (by assumption)).mono ?_; rintro e w' ⟨rfl, rfl⟩) | (go_at_call 12; refine (key_any _ _ (by assumption)).mono ?_; rintro e w' ⟨rfl, rfl⟩) | (go_at_call 13; refine (alive_any _).mono ?_; rintro e w' ⟨rfl, rfl⟩))
    all_goals (go_ret; exact ⟨rfl, rfl⟩)

theorem order_law (a b c : Int) (w : World) (ha : (Lit.int .u64 a).wf = true) (hb : (Lit.int .u64 b).wf = true) (hc : (Lit.int .u64 c).wf = true) :
    Calls Try.prog 3 #[.int .u64 a, .int .u64 b, .int .u64 c] w fun e w' => e = .returned (.bool true) ∧ Below w.heap.size w w' := by
  obtain ⟨a, rfl, ha1⟩ := word_of ha
  obtain ⟨b, rfl, hb1⟩ := word_of hb
  obtain ⟨c, rfl, hc1⟩ := word_of hc
  exact (order_walk a b c w ha1 hb1 hc1).mono fun e w' ⟨he, hw⟩ => ⟨he, hw ▸ Below.refl _ _⟩
end Go.Proofs.Ytjjebeiomfdjeaa
