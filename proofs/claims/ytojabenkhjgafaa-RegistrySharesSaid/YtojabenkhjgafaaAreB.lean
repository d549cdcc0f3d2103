/-
  Package arena: the contracts of New, part, Delete, Wipe, Len, Cap, At, Cell, Copy, zero, Clean, Zero.
-/
import Derived.Test.YtojabenkhjgafaaAre
namespace Go.Proofs.Ytojabenkhjgafaa
set_option linter.unusedVariables false
open Go.RowKit

set_option maxHeartbeats 1000000 in
theorem insert_low (bA bC N : Nat) (l : List Int) (a : Int) (ao : Option Addr) (m c : Nat) (w : World) (h : ArenaIs w bA bC N l) (ha : a < 0) :
    Calls Try.prog 18 #[.pointer (some ⟨bA, 0, none⟩), .int .i64 a, .slice ao m c] w fun e w' => e = .returned (.int .i64 3) ∧ w = w' := by
  go_enter Try.func18, Try.ntmps18
  go_wp2_with fail
  go_ret
  exact ⟨rfl, rfl⟩

set_option maxHeartbeats 1000000 in
theorem insert_high (bA bC N : Nat) (l : List Int) (a : Int) (ao : Option Addr) (m c : Nat) (w : World) (h : ArenaIs w bA bC N l) (ha : (l.length : Int) < a) :
    Calls Try.prog 18 #[.pointer (some ⟨bA, 0, none⟩), .int .i64 a, .slice ao m c] w fun e w' => e = .returned (.int .i64 3) ∧ w = w' := by
  have h1 := h.cell1
  have ha0 : ¬ a < 0 := by omega
  go_enter Try.func18, Try.ntmps18
  go_wp2_with fail
  go_ret
  exact ⟨rfl, rfl⟩

set_option maxHeartbeats 1000000 in
theorem insert_full (bA bC N : Nat) (l : List Int) (a : Int) (ao : Option Addr) (m c : Nat) (w : World) (h : ArenaIs w bA bC N l) (ha : 0 ≤ a) (hb : a ≤ (l.length : Int)) (hm : N - l.length < m) :
    Calls Try.prog 18 #[.pointer (some ⟨bA, 0, none⟩), .int .i64 a, .slice ao m c] w fun e w' => e = .returned (.int .i64 4) ∧ Chg [] w w' := by
  have h0 := h.cell0
  have h1 := h.cell1
  have hle := h.le
  have hmost := h.most
  have hm' : (N : Int) - (l.length : Int) < (m : Int) := by omega
  go_enter Try.func18, Try.ntmps18
  go_wp2_with fail
  go_quiet (fail)
  go_wp2_with fail
  go_ret
  exact ⟨rfl, (Chg.refl _ _).drewN _⟩

theorem insert_any (bA bC N : Nat) (l : List Int) (a : Int) (ao : Option Addr) (m c : Nat) (ys : List Int) (w : World) (h : ArenaIs w bA bC N l) (hs : SrcIs w ao m ys [bA, bC]) :
    Calls Try.prog 18 #[.pointer (some ⟨bA, 0, none⟩), .int .i64 a, .slice ao m c] w fun e w' => e = .returned (.int .i64 (insE N l.length a m)) ∧ Chg [bA, bC] w w' ∧ ArenaIs w' bA bC N (insL N l a ys) := by
  have hle := h.le
  unfold insL insE
  rw [hs.1]
  by_cases h1 : a < 0
  · rw [if_pos (Or.inl h1)]
    exact (insert_low bA bC N l a ao m c w h h1).mono fun e w' ⟨he, hw⟩ => ⟨he, hw ▸ Chg.refl _ _, by rw [if_neg (by decide)]; exact hw ▸ h⟩
  · by_cases h2 : (l.length : Int) < a
    · rw [if_pos (Or.inr h2)]
      exact (insert_high bA bC N l a ao m c w h h2).mono fun e w' ⟨he, hw⟩ => ⟨he, hw ▸ Chg.refl _ _, by rw [if_neg (by decide)]; exact hw ▸ h⟩
    · rw [if_neg (by omega)]
      by_cases h3 : N - l.length < m
      · rw [if_pos h3]
        exact (insert_full bA bC N l a ao m c w h (by omega) (by omega) h3).mono fun e w' ⟨he, hw⟩ => ⟨he, hw.mono (by simp), by rw [if_neg (by decide)]; exact h.chg hw (by simp) (by simp)⟩
      · rw [if_neg h3, if_pos rfl]
        obtain ⟨p, rfl⟩ := Int.eq_ofNat_of_zero_le (by omega : 0 ≤ a)
        exact insert_ok bA bC N l p ao m c ys w h hs (by omega) (by omega)

/-- Is a part one? -/
def partB (n : Nat) (a b : Int) : Bool := decide (0 ≤ a ∧ a ≤ b ∧ b ≤ (n : Int))


set_option maxHeartbeats 1000000 in
theorem len_any (bA bC N : Nat) (l : List Int) (w : World) (h : ArenaIs w bA bC N l) :
    Calls Try.prog 20 #[.pointer (some ⟨bA, 0, none⟩)] w fun e w' => e = .returned (.int .i64 (l.length : Nat)) ∧ w = w' := by
  have h1 := h.cell1
  go_enter Try.func20, Try.ntmps20
  go_wp2_with fail
  go_ret
  exact ⟨rfl, rfl⟩

set_option maxHeartbeats 1000000 in
theorem cap_any (bA bC N : Nat) (l : List Int) (w : World) (h : ArenaIs w bA bC N l) :
    Calls Try.prog 12 #[.pointer (some ⟨bA, 0, none⟩)] w fun e w' => e = .returned (.int .i64 (N : Nat)) ∧ w = w' := by
  have h0 := h.cell0
  go_enter Try.func12, Try.ntmps12
  go_wp2_with fail
  go_ret
  exact ⟨rfl, rfl⟩
end Go.Proofs.Ytojabenkhjgafaa
