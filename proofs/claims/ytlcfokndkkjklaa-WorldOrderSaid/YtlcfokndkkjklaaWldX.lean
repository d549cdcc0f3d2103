/-
  Layer 16: the contract of Left.
-/
import Derived.Test.YtlcfokndkkjklaaWldO
namespace Go.Proofs.Ytlcfokndkkjklaa
set_option linter.unusedVariables false
set_option maxRecDepth 100000
open Go.RowKit

set_option maxHeartbeats 1000000 in
theorem wLeft_any (f : Nat → Nat) (bW bQ : Nat) (v iv wv gv sv : Value) (ivs : List Value) (Z : List Zt) (p : Nat) (c : Wc) (w : World) (h : WldIs w f bW bQ v iv wv gv sv ivs Z p c) :
    Calls Try.prog 12 #[.pointer (some ⟨bW, 0, none⟩)] w fun e w' => e = .returned (.int .i64 (Z.length : Nat)) ∧ w = w' := by
  have h0 := h.cells.1
  have hq := h.q
  clear h
  go_enter Try.func12, Try.ntmps12
  go_wp2_with fail
  refine (qLen_any bQ v _ p _ hq).mono ?_
  rintro e w' ⟨rfl, rfl⟩
  go_wp2_with fail
  go_ret
  exact ⟨rfl, rfl⟩

theorem oLeft_any (w0 w : World) (μ : Wm) (Z : List Zt) (c : Wc) (h : OwnWd w0 w μ Z c) :
    Calls Try.prog 12 #[.pointer (some ⟨μ.bW, 0, none⟩)] w fun e w' => e = .returned (.int .i64 (Z.length : Nat)) ∧ w = w' := wLeft_any _ _ _ _ _ _ _ _ _ _ _ _ w h.is
end Go.Proofs.Ytlcfokndkkjklaa
