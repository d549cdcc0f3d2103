/-
  No cell of these rows narrows 'for every input' (looked for: loops, veiled, ifaces, maps, wideKeys, modest, calm, conditions, laid).
  DERIVED. THE GIVEN ROWS OF THIS SEAT. 5 by the template 'for every input the law returns true; each argument reads behind the call as it read before'; 0 by the template 'total and deterministic' (their statements: YtojabenkhjgafaaTotals.lean).
  GIVEN WITH THE SEED: the statements are not yours to turn. If you find one false, say at which input.
  Laid BY PROGRAM, IN A SANDBOX (cutbox-rows.mjs): the forced cells as the released guide's own fill.sh prints them over the translation 76bb7c55a64c18e6… (all of the seat's roots in one cut). By AI agents, Wed Nov 11 2026. No macro, syntax, notation, axiom, sorry.
-/
import Derived.Test.YtojabenkhjgafaaChecked
import GoSem.Claim
import GoSem.ClaimJoined
import GoSem.ClaimMapViews
import Derived.JoinedTies
import Derived.KernelRfl
namespace Go.Proofs.Ytojabenkhjgafaa
/- THE CELL 'sum', in the pinned program and in every row, IS THE sha256 OF THE DUMP (.gsa) THAT YtojabenkhjgafaaProg.lean LOADS. Nothing in Lean hashes anything: it is a label: what it is worth is what the hold of that sum in a sandbox is worth. -/
noncomputable def Try.pinned : Pinned := { name := "ytojabenkhjgafaa", sum := "76bb7c55a64c18e6675be9e8984a8cefffd3bd97b41653d3631939747bc84818", checked := Try.checked }
namespace Rows
def none {H : Type} : Left H := { results := [], args := [] }

/-- 'whispererlaw05.RegistryActs': WHATEVER THE INPUT: true; the input reads as it did. -/
def registryActsSpec : ChangeSpec := { name := "registryActs", fn := fun _ => fun
  | [d] => { results := [.lit (.bool true)], args := [d] }
  | _ => none }
def registryActsRow : OpenClaim := { program := "ytojabenkhjgafaa", sum := "76bb7c55a64c18e6675be9e8984a8cefffd3bd97b41653d3631939747bc84818", func := "whisperer/whispererlaw05.RegistryActs", spec := "registryActs", unfollowed := true, recurses := true, apart := false }
def RegistryActsSaid : Prop := registryActsRow.holds Try.pinned (OpenSpec.ofChange registryActsSpec)

/-- ITS FALSE NEIGHBOUR: 'it returns false'. Refute it at one input. -/
def registryActsWrong : ChangeSpec := { name := "registryActs", fn := fun _ => fun
  | [d] => { results := [.lit (.bool false)], args := [d] }
  | _ => none }
def RegistryActsWrongFalsely : Prop := registryActsRow.holds Try.pinned (OpenSpec.ofChange registryActsWrong)

/-- 'whispererlaw05.RegistryShares': WHATEVER THE INPUT: true; the input reads as it did. -/
def registrySharesSpec : ChangeSpec := { name := "registryShares", fn := fun _ => fun
  | [d1, d2] => { results := [.lit (.bool true)], args := [d1, d2] }
  | _ => none }
def registrySharesRow : OpenClaim := { program := "ytojabenkhjgafaa", sum := "76bb7c55a64c18e6675be9e8984a8cefffd3bd97b41653d3631939747bc84818", func := "whisperer/whispererlaw05.RegistryShares", spec := "registryShares", unfollowed := true, recurses := true, apart := false }
def RegistrySharesSaid : Prop := registrySharesRow.holds Try.pinned (OpenSpec.ofChange registrySharesSpec)

/-- ITS FALSE NEIGHBOUR: 'it returns false'. Refute it at one input. -/
def registrySharesWrong : ChangeSpec := { name := "registryShares", fn := fun _ => fun
  | [d1, d2] => { results := [.lit (.bool false)], args := [d1, d2] }
  | _ => none }
def RegistrySharesWrongFalsely : Prop := registrySharesRow.holds Try.pinned (OpenSpec.ofChange registrySharesWrong)

/-- 'whispererlaw05.RegistryFull': WHATEVER THE INPUT: true; the input reads as it did. -/
def registryFullSpec : ChangeSpec := { name := "registryFull", fn := fun _ => fun
  | [d] => { results := [.lit (.bool true)], args := [d] }
  | _ => none }
def registryFullRow : OpenClaim := { program := "ytojabenkhjgafaa", sum := "76bb7c55a64c18e6675be9e8984a8cefffd3bd97b41653d3631939747bc84818", func := "whisperer/whispererlaw05.RegistryFull", spec := "registryFull", unfollowed := true, recurses := true, apart := false }
def RegistryFullSaid : Prop := registryFullRow.holds Try.pinned (OpenSpec.ofChange registryFullSpec)

/-- ITS FALSE NEIGHBOUR: 'it returns false'. Refute it at one input. -/
def registryFullWrong : ChangeSpec := { name := "registryFull", fn := fun _ => fun
  | [d] => { results := [.lit (.bool false)], args := [d] }
  | _ => none }
def RegistryFullWrongFalsely : Prop := registryFullRow.holds Try.pinned (OpenSpec.ofChange registryFullWrong)

/-- 'whispererlaw05.RegistryNone': WHATEVER THE INPUT: true; the input reads as it did. -/
def registryNoneSpec : ChangeSpec := { name := "registryNone", fn := fun _ => fun
  | [d1, d2] => { results := [.lit (.bool true)], args := [d1, d2] }
  | _ => none }
def registryNoneRow : OpenClaim := { program := "ytojabenkhjgafaa", sum := "76bb7c55a64c18e6675be9e8984a8cefffd3bd97b41653d3631939747bc84818", func := "whisperer/whispererlaw05.RegistryNone", spec := "registryNone", unfollowed := true, recurses := true, apart := false }
def RegistryNoneSaid : Prop := registryNoneRow.holds Try.pinned (OpenSpec.ofChange registryNoneSpec)

/-- ITS FALSE NEIGHBOUR: 'it returns false'. Refute it at one input. -/
def registryNoneWrong : ChangeSpec := { name := "registryNone", fn := fun _ => fun
  | [d1, d2] => { results := [.lit (.bool false)], args := [d1, d2] }
  | _ => none }
def RegistryNoneWrongFalsely : Prop := registryNoneRow.holds Try.pinned (OpenSpec.ofChange registryNoneWrong)

/-- 'whispererlaw05.RegistryWipes': WHATEVER THE INPUT: true; the input reads as it did. -/
def registryWipesSpec : ChangeSpec := { name := "registryWipes", fn := fun _ => fun
  | [d] => { results := [.lit (.bool true)], args := [d] }
  | _ => none }
def registryWipesRow : OpenClaim := { program := "ytojabenkhjgafaa", sum := "76bb7c55a64c18e6675be9e8984a8cefffd3bd97b41653d3631939747bc84818", func := "whisperer/whispererlaw05.RegistryWipes", spec := "registryWipes", unfollowed := true, recurses := true, apart := false }
def RegistryWipesSaid : Prop := registryWipesRow.holds Try.pinned (OpenSpec.ofChange registryWipesSpec)

/-- ITS FALSE NEIGHBOUR: 'it returns false'. Refute it at one input. -/
def registryWipesWrong : ChangeSpec := { name := "registryWipes", fn := fun _ => fun
  | [d] => { results := [.lit (.bool false)], args := [d] }
  | _ => none }
def RegistryWipesWrongFalsely : Prop := registryWipesRow.holds Try.pinned (OpenSpec.ofChange registryWipesWrong)

/- THE SECOND FORM. 'bulk': how many values and letters a reading holds, each counted each time it is reached (what is shared counts as often as it is met; a slice's spare places count too). A statement '..UptoSaid' is the law's where the arguments, and the package variables that the reading takes, are together of bulk at most 1048576: NARROWER than '..Said'. Prove '..Said' where nothing that the law and all that it calls make is longer than what came in: it says more and counts as full. Else prove '..UptoSaid'. A law counts once. -/
mutual
def uptoBulk {H : Type} : DataW H → Nat
  | .lit (.string bytes) => bytes.length + 1
  | .lit _ => 1
  | .nil => 1
  | .ptr d => uptoBulk d + 1
  | .slice elems spare => uptoBulkAll elems + uptoBulkAll spare + 1
  | .agg parts => uptoBulkAll parts + 1
  | .iface _ d => uptoBulk d + 1
  | .map entries => uptoBulkEntries entries + 1
  | .held _ => 1
def uptoBulkAll {H : Type} : List (DataW H) → Nat
  | [] => 0
  | d :: r => uptoBulk d + uptoBulkAll r
def uptoBulkEntries {H : Type} : List (Lit × DataW H) → Nat
  | [] => 0
  | x :: r => uptoBulkEntry x + uptoBulkEntries r
def uptoBulkEntry {H : Type} : Lit × DataW H → Nat
  | (.string bytes, d) => bytes.length + uptoBulk d + 1
  | (_, d) => uptoBulk d + 1
 end
def uptoSmall : (H : Type) → List (DataW H) → Bool := fun _ ds => decide (uptoBulkAll ds ≤ 1048576)
def OpenSpec.upto (s : _root_.Go.ChangeSpec) : _root_.Go.OpenSpec := { _root_.Go.OpenSpec.ofChange s with cond := some uptoSmall }

/-- 'whispererlaw05.RegistryActs', WHERE WHAT IT READS IS OF BULK AT MOST 1048576: true; the input reads as it did. -/
def registryActsUptoRow : OpenClaim := { program := "ytojabenkhjgafaa", sum := "76bb7c55a64c18e6675be9e8984a8cefffd3bd97b41653d3631939747bc84818", func := "whisperer/whispererlaw05.RegistryActs", spec := "registryActs", unfollowed := true, recurses := true, apart := false, narrowed := true }
def RegistryActsUptoSaid : Prop := registryActsUptoRow.holds Try.pinned (OpenSpec.upto registryActsSpec)

/-- 'whispererlaw05.RegistryShares', WHERE WHAT IT READS IS OF BULK AT MOST 1048576: true; the input reads as it did. -/
def registrySharesUptoRow : OpenClaim := { program := "ytojabenkhjgafaa", sum := "76bb7c55a64c18e6675be9e8984a8cefffd3bd97b41653d3631939747bc84818", func := "whisperer/whispererlaw05.RegistryShares", spec := "registryShares", unfollowed := true, recurses := true, apart := false, narrowed := true }
def RegistrySharesUptoSaid : Prop := registrySharesUptoRow.holds Try.pinned (OpenSpec.upto registrySharesSpec)

/-- 'whispererlaw05.RegistryFull', WHERE WHAT IT READS IS OF BULK AT MOST 1048576: true; the input reads as it did. -/
def registryFullUptoRow : OpenClaim := { program := "ytojabenkhjgafaa", sum := "76bb7c55a64c18e6675be9e8984a8cefffd3bd97b41653d3631939747bc84818", func := "whisperer/whispererlaw05.RegistryFull", spec := "registryFull", unfollowed := true, recurses := true, apart := false, narrowed := true }
def RegistryFullUptoSaid : Prop := registryFullUptoRow.holds Try.pinned (OpenSpec.upto registryFullSpec)

/-- 'whispererlaw05.RegistryNone', WHERE WHAT IT READS IS OF BULK AT MOST 1048576: true; the input reads as it did. -/
def registryNoneUptoRow : OpenClaim := { program := "ytojabenkhjgafaa", sum := "76bb7c55a64c18e6675be9e8984a8cefffd3bd97b41653d3631939747bc84818", func := "whisperer/whispererlaw05.RegistryNone", spec := "registryNone", unfollowed := true, recurses := true, apart := false, narrowed := true }
def RegistryNoneUptoSaid : Prop := registryNoneUptoRow.holds Try.pinned (OpenSpec.upto registryNoneSpec)

/-- 'whispererlaw05.RegistryWipes', WHERE WHAT IT READS IS OF BULK AT MOST 1048576: true; the input reads as it did. -/
def registryWipesUptoRow : OpenClaim := { program := "ytojabenkhjgafaa", sum := "76bb7c55a64c18e6675be9e8984a8cefffd3bd97b41653d3631939747bc84818", func := "whisperer/whispererlaw05.RegistryWipes", spec := "registryWipes", unfollowed := true, recurses := true, apart := false, narrowed := true }
def RegistryWipesUptoSaid : Prop := registryWipesUptoRow.holds Try.pinned (OpenSpec.upto registryWipesSpec)

end Rows
end Go.Proofs.Ytojabenkhjgafaa
