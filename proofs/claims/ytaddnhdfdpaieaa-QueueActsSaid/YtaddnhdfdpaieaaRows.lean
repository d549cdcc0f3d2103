/-
  No cell of these rows narrows 'for every input' (looked for: loops, veiled, ifaces, maps, wideKeys, modest, calm, conditions, laid).
  DERIVED. THE GIVEN ROWS OF THIS SEAT. 7 by the template 'for every input the law returns true; each argument reads behind the call as it read before'; 0 by the template 'total and deterministic' (their statements: YtaddnhdfdpaieaaTotals.lean).
  GIVEN WITH THE SEED: the statements are not yours to turn. If you find one false, say at which input.
  Laid BY PROGRAM, IN A SANDBOX (cutbox-rows.mjs): the forced cells as the released guide's own fill.sh prints them over the translation 8a7895f200bf8cee… (all of the seat's roots in one cut). By AI agents, Wed Nov 11 2026. No macro, syntax, notation, axiom, sorry.
-/
import Derived.Test.YtaddnhdfdpaieaaChecked
import GoSem.Claim
import GoSem.ClaimJoined
import GoSem.ClaimMapViews
import Derived.JoinedTies
import Derived.KernelRfl
namespace Go.Proofs.Ytaddnhdfdpaieaa
/- THE CELL 'sum', in the pinned program and in every row, IS THE sha256 OF THE DUMP (.gsa) THAT YtaddnhdfdpaieaaProg.lean LOADS. Nothing in Lean hashes anything: it is a label: what it is worth is what the hold of that sum in a sandbox is worth. -/
noncomputable def Try.pinned : Pinned := { name := "ytaddnhdfdpaieaa", sum := "8a7895f200bf8cee1c7d4a746fa5961a581963f0fa038a7e4cba88ded4cdbe28", checked := Try.checked }
namespace Rows
def none {H : Type} : Left H := { results := [], args := [] }

/-- 'whispererlaw03.QueueFull': WHATEVER THE INPUT: true; the input reads as it did. -/
def queueFullSpec : ChangeSpec := { name := "queueFull", fn := fun _ => fun
  | [d1, d2] => { results := [.lit (.bool true)], args := [d1, d2] }
  | _ => none }
def queueFullRow : OpenClaim := { program := "ytaddnhdfdpaieaa", sum := "8a7895f200bf8cee1c7d4a746fa5961a581963f0fa038a7e4cba88ded4cdbe28", func := "whisperer/whispererlaw03.QueueFull", spec := "queueFull", inPlace := ["math.Float64frombits"], unfollowed := true, recurses := true, apart := false }
def QueueFullSaid : Prop := queueFullRow.holds Try.pinned (OpenSpec.ofChange queueFullSpec)

/-- ITS FALSE NEIGHBOUR: 'it returns false'. Refute it at one input. -/
def queueFullWrong : ChangeSpec := { name := "queueFull", fn := fun _ => fun
  | [d1, d2] => { results := [.lit (.bool false)], args := [d1, d2] }
  | _ => none }
def QueueFullWrongFalsely : Prop := queueFullRow.holds Try.pinned (OpenSpec.ofChange queueFullWrong)

/-- 'whispererlaw03.QueueMixed': WHATEVER THE INPUT: true; the input reads as it did. -/
def queueMixedSpec : ChangeSpec := { name := "queueMixed", fn := fun _ => fun
  | [d] => { results := [.lit (.bool true)], args := [d] }
  | _ => none }
def queueMixedRow : OpenClaim := { program := "ytaddnhdfdpaieaa", sum := "8a7895f200bf8cee1c7d4a746fa5961a581963f0fa038a7e4cba88ded4cdbe28", func := "whisperer/whispererlaw03.QueueMixed", spec := "queueMixed", inPlace := ["math.Float64frombits", "math.Float64bits"], unfollowed := true, recurses := true, apart := false }
def QueueMixedSaid : Prop := queueMixedRow.holds Try.pinned (OpenSpec.ofChange queueMixedSpec)

/-- ITS FALSE NEIGHBOUR: 'it returns false'. Refute it at one input. -/
def queueMixedWrong : ChangeSpec := { name := "queueMixed", fn := fun _ => fun
  | [d] => { results := [.lit (.bool false)], args := [d] }
  | _ => none }
def QueueMixedWrongFalsely : Prop := queueMixedRow.holds Try.pinned (OpenSpec.ofChange queueMixedWrong)

/-- 'whispererlaw03.QueuePeeks': WHATEVER THE INPUT: true; the input reads as it did. -/
def queuePeeksSpec : ChangeSpec := { name := "queuePeeks", fn := fun _ => fun
  | [d] => { results := [.lit (.bool true)], args := [d] }
  | _ => none }
def queuePeeksRow : OpenClaim := { program := "ytaddnhdfdpaieaa", sum := "8a7895f200bf8cee1c7d4a746fa5961a581963f0fa038a7e4cba88ded4cdbe28", func := "whisperer/whispererlaw03.QueuePeeks", spec := "queuePeeks", inPlace := ["math.Float64frombits", "math.Float64bits"], unfollowed := true, recurses := true, apart := false }
def QueuePeeksSaid : Prop := queuePeeksRow.holds Try.pinned (OpenSpec.ofChange queuePeeksSpec)

/-- ITS FALSE NEIGHBOUR: 'it returns false'. Refute it at one input. -/
def queuePeeksWrong : ChangeSpec := { name := "queuePeeks", fn := fun _ => fun
  | [d] => { results := [.lit (.bool false)], args := [d] }
  | _ => none }
def QueuePeeksWrongFalsely : Prop := queuePeeksRow.holds Try.pinned (OpenSpec.ofChange queuePeeksWrong)

/-- 'whispererlaw03.QueueOrder': WHATEVER THE INPUT: true; the input reads as it did. -/
def queueOrderSpec : ChangeSpec := { name := "queueOrder", fn := fun _ => fun
  | [d] => { results := [.lit (.bool true)], args := [d] }
  | _ => none }
def queueOrderRow : OpenClaim := { program := "ytaddnhdfdpaieaa", sum := "8a7895f200bf8cee1c7d4a746fa5961a581963f0fa038a7e4cba88ded4cdbe28", func := "whisperer/whispererlaw03.QueueOrder", spec := "queueOrder", inPlace := ["math.Float64frombits", "math.Float64bits"], unfollowed := true, recurses := true, apart := false }
def QueueOrderSaid : Prop := queueOrderRow.holds Try.pinned (OpenSpec.ofChange queueOrderSpec)

/-- ITS FALSE NEIGHBOUR: 'it returns false'. Refute it at one input. -/
def queueOrderWrong : ChangeSpec := { name := "queueOrder", fn := fun _ => fun
  | [d] => { results := [.lit (.bool false)], args := [d] }
  | _ => none }
def QueueOrderWrongFalsely : Prop := queueOrderRow.holds Try.pinned (OpenSpec.ofChange queueOrderWrong)

/-- 'whispererlaw03.QueueActs': WHATEVER THE INPUT: true; the input reads as it did. -/
def queueActsSpec : ChangeSpec := { name := "queueActs", fn := fun _ => fun
  | [d] => { results := [.lit (.bool true)], args := [d] }
  | _ => none }
def queueActsRow : OpenClaim := { program := "ytaddnhdfdpaieaa", sum := "8a7895f200bf8cee1c7d4a746fa5961a581963f0fa038a7e4cba88ded4cdbe28", func := "whisperer/whispererlaw03.QueueActs", spec := "queueActs", inPlace := ["math.Float64frombits", "math.Float64bits"], unfollowed := true, recurses := true, apart := false }
def QueueActsSaid : Prop := queueActsRow.holds Try.pinned (OpenSpec.ofChange queueActsSpec)

/-- ITS FALSE NEIGHBOUR: 'it returns false'. Refute it at one input. -/
def queueActsWrong : ChangeSpec := { name := "queueActs", fn := fun _ => fun
  | [d] => { results := [.lit (.bool false)], args := [d] }
  | _ => none }
def QueueActsWrongFalsely : Prop := queueActsRow.holds Try.pinned (OpenSpec.ofChange queueActsWrong)

/-- 'whispererlaw03.QueueNone': WHATEVER THE INPUT: true; the input reads as it did. -/
def queueNoneSpec : ChangeSpec := { name := "queueNone", fn := fun _ => fun
  | [d1, d2] => { results := [.lit (.bool true)], args := [d1, d2] }
  | _ => none }
def queueNoneRow : OpenClaim := { program := "ytaddnhdfdpaieaa", sum := "8a7895f200bf8cee1c7d4a746fa5961a581963f0fa038a7e4cba88ded4cdbe28", func := "whisperer/whispererlaw03.QueueNone", spec := "queueNone", inPlace := ["math.Float64frombits", "math.Float64bits"], unfollowed := true, recurses := true, apart := false }
def QueueNoneSaid : Prop := queueNoneRow.holds Try.pinned (OpenSpec.ofChange queueNoneSpec)

/-- ITS FALSE NEIGHBOUR: 'it returns false'. Refute it at one input. -/
def queueNoneWrong : ChangeSpec := { name := "queueNone", fn := fun _ => fun
  | [d1, d2] => { results := [.lit (.bool false)], args := [d1, d2] }
  | _ => none }
def QueueNoneWrongFalsely : Prop := queueNoneRow.holds Try.pinned (OpenSpec.ofChange queueNoneWrong)

/-- 'whispererlaw03.QueueBefore': WHATEVER THE INPUT: true; the input reads as it did. -/
def queueBeforeSpec : ChangeSpec := { name := "queueBefore", fn := fun _ => fun
  | [d1, d2] => { results := [.lit (.bool true)], args := [d1, d2] }
  | _ => none }
def queueBeforeRow : OpenClaim := { program := "ytaddnhdfdpaieaa", sum := "8a7895f200bf8cee1c7d4a746fa5961a581963f0fa038a7e4cba88ded4cdbe28", func := "whisperer/whispererlaw03.QueueBefore", spec := "queueBefore", inPlace := ["math.Float64frombits", "math.Float64bits"], unfollowed := true, recurses := true, apart := false }
def QueueBeforeSaid : Prop := queueBeforeRow.holds Try.pinned (OpenSpec.ofChange queueBeforeSpec)

/-- ITS FALSE NEIGHBOUR: 'it returns false'. Refute it at one input. -/
def queueBeforeWrong : ChangeSpec := { name := "queueBefore", fn := fun _ => fun
  | [d1, d2] => { results := [.lit (.bool false)], args := [d1, d2] }
  | _ => none }
def QueueBeforeWrongFalsely : Prop := queueBeforeRow.holds Try.pinned (OpenSpec.ofChange queueBeforeWrong)

/- THE SECOND FORM. 'bulk': how many values and letters a reading holds, each counted each time it is reached (what is shared counts as often as it is met; a slice's spare places count too). A statement '..UptoSaid' is the law's where the arguments, and the package variables that the reading takes, are together of bulk at most 1048576: NARROWER than '..Said'. Prove '..Said' where nothing that the law and all that it calls make is longer than what came in: it says more and counts as full. Else prove '..UptoSaid'. A law counts once. -/
mutual
def uptoBulk {H : Type} : DataW H → Nat
  | .lit (.string bytes) => bytes.length + 1
  | .lit _ => 1
  | .nil => 1
  | .ptr d => uptoBulk d + 1
  | .slice elems spare => uptoBulkAll elems + uptoBulkAll spare + 1
  | .agg parts => uptoBulkAll parts + 1
  | .iface _ d => uptoBulk d + 1
  | .map entries => uptoBulkEntries entries + 1
  | .held _ => 1
def uptoBulkAll {H : Type} : List (DataW H) → Nat
  | [] => 0
  | d :: r => uptoBulk d + uptoBulkAll r
def uptoBulkEntries {H : Type} : List (Lit × DataW H) → Nat
  | [] => 0
  | x :: r => uptoBulkEntry x + uptoBulkEntries r
def uptoBulkEntry {H : Type} : Lit × DataW H → Nat
  | (.string bytes, d) => bytes.length + uptoBulk d + 1
  | (_, d) => uptoBulk d + 1
 end
def uptoSmall : (H : Type) → List (DataW H) → Bool := fun _ ds => decide (uptoBulkAll ds ≤ 1048576)
def OpenSpec.upto (s : _root_.Go.ChangeSpec) : _root_.Go.OpenSpec := { _root_.Go.OpenSpec.ofChange s with cond := some uptoSmall }

/-- 'whispererlaw03.QueueFull', WHERE WHAT IT READS IS OF BULK AT MOST 1048576: true; the input reads as it did. -/
def queueFullUptoRow : OpenClaim := { program := "ytaddnhdfdpaieaa", sum := "8a7895f200bf8cee1c7d4a746fa5961a581963f0fa038a7e4cba88ded4cdbe28", func := "whisperer/whispererlaw03.QueueFull", spec := "queueFull", inPlace := ["math.Float64frombits"], unfollowed := true, recurses := true, apart := false, narrowed := true }
def QueueFullUptoSaid : Prop := queueFullUptoRow.holds Try.pinned (OpenSpec.upto queueFullSpec)

/-- 'whispererlaw03.QueueMixed', WHERE WHAT IT READS IS OF BULK AT MOST 1048576: true; the input reads as it did. -/
def queueMixedUptoRow : OpenClaim := { program := "ytaddnhdfdpaieaa", sum := "8a7895f200bf8cee1c7d4a746fa5961a581963f0fa038a7e4cba88ded4cdbe28", func := "whisperer/whispererlaw03.QueueMixed", spec := "queueMixed", inPlace := ["math.Float64frombits", "math.Float64bits"], unfollowed := true, recurses := true, apart := false, narrowed := true }
def QueueMixedUptoSaid : Prop := queueMixedUptoRow.holds Try.pinned (OpenSpec.upto queueMixedSpec)

/-- 'whispererlaw03.QueuePeeks', WHERE WHAT IT READS IS OF BULK AT MOST 1048576: true; the input reads as it did. -/
def queuePeeksUptoRow : OpenClaim := { program := "ytaddnhdfdpaieaa", sum := "8a7895f200bf8cee1c7d4a746fa5961a581963f0fa038a7e4cba88ded4cdbe28", func := "whisperer/whispererlaw03.QueuePeeks", spec := "queuePeeks", inPlace := ["math.Float64frombits", "math.Float64bits"], unfollowed := true, recurses := true, apart := false, narrowed := true }
def QueuePeeksUptoSaid : Prop := queuePeeksUptoRow.holds Try.pinned (OpenSpec.upto queuePeeksSpec)

/-- 'whispererlaw03.QueueOrder', WHERE WHAT IT READS IS OF BULK AT MOST 1048576: true; the input reads as it did. -/
def queueOrderUptoRow : OpenClaim := { program := "ytaddnhdfdpaieaa", sum := "8a7895f200bf8cee1c7d4a746fa5961a581963f0fa038a7e4cba88ded4cdbe28", func := "whisperer/whispererlaw03.QueueOrder", spec := "queueOrder", inPlace := ["math.Float64frombits", "math.Float64bits"], unfollowed := true, recurses := true, apart := false, narrowed := true }
def QueueOrderUptoSaid : Prop := queueOrderUptoRow.holds Try.pinned (OpenSpec.upto queueOrderSpec)

/-- 'whispererlaw03.QueueActs', WHERE WHAT IT READS IS OF BULK AT MOST 1048576: true; the input reads as it did. -/
def queueActsUptoRow : OpenClaim := { program := "ytaddnhdfdpaieaa", sum := "8a7895f200bf8cee1c7d4a746fa5961a581963f0fa038a7e4cba88ded4cdbe28", func := "whisperer/whispererlaw03.QueueActs", spec := "queueActs", inPlace := ["math.Float64frombits", "math.Float64bits"], unfollowed := true, recurses := true, apart := false, narrowed := true }
def QueueActsUptoSaid : Prop := queueActsUptoRow.holds Try.pinned (OpenSpec.upto queueActsSpec)

/-- 'whispererlaw03.QueueNone', WHERE WHAT IT READS IS OF BULK AT MOST 1048576: true; the input reads as it did. -/
def queueNoneUptoRow : OpenClaim := { program := "ytaddnhdfdpaieaa", sum := "8a7895f200bf8cee1c7d4a746fa5961a581963f0fa038a7e4cba88ded4cdbe28", func := "whisperer/whispererlaw03.QueueNone", spec := "queueNone", inPlace := ["math.Float64frombits", "math.Float64bits"], unfollowed := true, recurses := true, apart := false, narrowed := true }
def QueueNoneUptoSaid : Prop := queueNoneUptoRow.holds Try.pinned (OpenSpec.upto queueNoneSpec)

/-- 'whispererlaw03.QueueBefore', WHERE WHAT IT READS IS OF BULK AT MOST 1048576: true; the input reads as it did. -/
def queueBeforeUptoRow : OpenClaim := { program := "ytaddnhdfdpaieaa", sum := "8a7895f200bf8cee1c7d4a746fa5961a581963f0fa038a7e4cba88ded4cdbe28", func := "whisperer/whispererlaw03.QueueBefore", spec := "queueBefore", inPlace := ["math.Float64frombits", "math.Float64bits"], unfollowed := true, recurses := true, apart := false, narrowed := true }
def QueueBeforeUptoSaid : Prop := queueBeforeUptoRow.holds Try.pinned (OpenSpec.upto queueBeforeSpec)

end Rows
end Go.Proofs.Ytaddnhdfdpaieaa
