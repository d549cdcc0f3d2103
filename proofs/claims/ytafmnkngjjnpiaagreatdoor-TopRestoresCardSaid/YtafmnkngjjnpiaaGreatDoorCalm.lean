import Derived.Test.YtafmnkngjjnpiaaGreatDoorChg
namespace Go.Proofs.YtafmnkngjjnpiaaGreatDoor
set_option maxRecDepth 100000
set_option linter.unusedVariables false
open Go.RowKit
structure Calm (w0 : World) where
  w : World
  c : Chg [] w0 w
instance calmNonempty (w0 : World) : Nonempty (Calm w0) := ⟨⟨w0, Chg.refl _ _⟩⟩
theorem wp_region_calm {P : Program} {id : Nat} {Q : Exit → Act → World → Prop} {a : Act} {w : World} {l : List Oper} (hm : P.follows .mixedOrders = true) (hB : Region.lexB .any l.toArray = true)
    (h : wpQuiet P l.toArray (fun w' => ∃ n : Calm w, w' = n.w) (fun a' => ∀ w', (∃ n : Calm w, w' = n.w) → Q .normal a' w') l a) : (Code.region id l.toArray true).wp P Q a w :=
  wp_region_quiet (C := fun w' => ∃ n : Calm w, w' = n.w) hm hB ⟨⟨w.drew, (Chg.refl [] w).drew⟩, rfl⟩ (by simpa using h)
theorem calm_same {P : Program} {f : FuncId} {args : Array Value} {w0 : World} {n : Calm w0} {v : Value} (h : Calls P f args n.w fun e w' => e = .returned v ∧ n.w = w') :
    Calls P f args n.w fun e w'' => e = .returned v ∧ ∃ m : Calm w0, w'' = m.w :=
  h.mono fun e w' ⟨he, hc⟩ => ⟨he, n, hc.symm⟩
end Go.Proofs.YtafmnkngjjnpiaaGreatDoor
