/-
  No cell of these rows narrows 'for every input' (looked for: loops, veiled, ifaces, maps, wideKeys, modest, calm, conditions, laid).
  DERIVED. THE GIVEN ROWS OF THIS SEAT. 6 by the template 'for every input the law returns true; each argument reads behind the call as it read before'; 0 by the template 'total and deterministic' (their statements: YtmcbgpjphjacjaaTotals.lean).
  GIVEN WITH THE SEED: the statements are not yours to turn. If you find one false, say at which input.
  Laid BY PROGRAM, IN A SANDBOX (cutbox-rows.mjs): the forced cells as the released guide's own fill.sh prints them over the translation 66d72c6ca0deb133… (all of the seat's roots in one cut). By AI agents, Wed Nov 11 2026. No macro, syntax, notation, axiom, sorry.
-/
import Derived.Test.YtmcbgpjphjacjaaChecked
import GoSem.Claim
import GoSem.ClaimJoined
import GoSem.ClaimMapViews
import Derived.JoinedTies
import Derived.KernelRfl
namespace Go.Proofs.Ytmcbgpjphjacjaa
/- THE CELL 'sum', in the pinned program and in every row, IS THE sha256 OF THE DUMP (.gsa) THAT YtmcbgpjphjacjaaProg.lean LOADS. Nothing in Lean hashes anything: it is a label: what it is worth is what the hold of that sum in a sandbox is worth. -/
noncomputable def Try.pinned : Pinned := { name := "ytmcbgpjphjacjaa", sum := "66d72c6ca0deb1334dc05bffcb6d955fa0659c529eae574cde4dabaf6770014c", checked := Try.checked }
namespace Rows
def none {H : Type} : Left H := { results := [], args := [] }

/-- 'whispererlaw17.TtyAttrs': WHATEVER THE INPUT: true; the input reads as it did. -/
def ttyAttrsSpec : ChangeSpec := { name := "ttyAttrs", fn := fun _ => fun
  | [d1, d2] => { results := [.lit (.bool true)], args := [d1, d2] }
  | _ => none }
def ttyAttrsRow : OpenClaim := { program := "ytmcbgpjphjacjaa", sum := "66d72c6ca0deb1334dc05bffcb6d955fa0659c529eae574cde4dabaf6770014c", func := "whisperer/whispererlaw17.TtyAttrs", spec := "ttyAttrs", unfollowed := true, recurses := true, apart := false }
def TtyAttrsSaid : Prop := ttyAttrsRow.holds Try.pinned (OpenSpec.ofChange ttyAttrsSpec)

/-- ITS FALSE NEIGHBOUR: 'it returns false'. Refute it at one input. -/
def ttyAttrsWrong : ChangeSpec := { name := "ttyAttrs", fn := fun _ => fun
  | [d1, d2] => { results := [.lit (.bool false)], args := [d1, d2] }
  | _ => none }
def TtyAttrsWrongFalsely : Prop := ttyAttrsRow.holds Try.pinned (OpenSpec.ofChange ttyAttrsWrong)

/-- 'whispererlaw17.TtyOwn': WHATEVER THE INPUT: true; the input reads as it did. -/
def ttyOwnSpec : ChangeSpec := { name := "ttyOwn", fn := fun _ => fun
  | [d] => { results := [.lit (.bool true)], args := [d] }
  | _ => none }
def ttyOwnRow : OpenClaim := { program := "ytmcbgpjphjacjaa", sum := "66d72c6ca0deb1334dc05bffcb6d955fa0659c529eae574cde4dabaf6770014c", func := "whisperer/whispererlaw17.TtyOwn", spec := "ttyOwn", unfollowed := true, recurses := true, apart := false }
def TtyOwnSaid : Prop := ttyOwnRow.holds Try.pinned (OpenSpec.ofChange ttyOwnSpec)

/-- ITS FALSE NEIGHBOUR: 'it returns false'. Refute it at one input. -/
def ttyOwnWrong : ChangeSpec := { name := "ttyOwn", fn := fun _ => fun
  | [d] => { results := [.lit (.bool false)], args := [d] }
  | _ => none }
def TtyOwnWrongFalsely : Prop := ttyOwnRow.holds Try.pinned (OpenSpec.ofChange ttyOwnWrong)

/-- 'whispererlaw17.TtyNone': WHATEVER THE INPUT: true; the input reads as it did. -/
def ttyNoneSpec : ChangeSpec := { name := "ttyNone", fn := fun _ => fun
  | [d1, d2] => { results := [.lit (.bool true)], args := [d1, d2] }
  | _ => none }
def ttyNoneRow : OpenClaim := { program := "ytmcbgpjphjacjaa", sum := "66d72c6ca0deb1334dc05bffcb6d955fa0659c529eae574cde4dabaf6770014c", func := "whisperer/whispererlaw17.TtyNone", spec := "ttyNone", unfollowed := true, recurses := true, apart := false }
def TtyNoneSaid : Prop := ttyNoneRow.holds Try.pinned (OpenSpec.ofChange ttyNoneSpec)

/-- ITS FALSE NEIGHBOUR: 'it returns false'. Refute it at one input. -/
def ttyNoneWrong : ChangeSpec := { name := "ttyNone", fn := fun _ => fun
  | [d1, d2] => { results := [.lit (.bool false)], args := [d1, d2] }
  | _ => none }
def TtyNoneWrongFalsely : Prop := ttyNoneRow.holds Try.pinned (OpenSpec.ofChange ttyNoneWrong)

/-- 'whispererlaw17.TtyActs': WHATEVER THE INPUT: true; the input reads as it did. -/
def ttyActsSpec : ChangeSpec := { name := "ttyActs", fn := fun _ => fun
  | [d1, d2] => { results := [.lit (.bool true)], args := [d1, d2] }
  | _ => none }
def ttyActsRow : OpenClaim := { program := "ytmcbgpjphjacjaa", sum := "66d72c6ca0deb1334dc05bffcb6d955fa0659c529eae574cde4dabaf6770014c", func := "whisperer/whispererlaw17.TtyActs", spec := "ttyActs", inPlace := ["math.Float64bits"], unfollowed := true, recurses := true, apart := false }
def TtyActsSaid : Prop := ttyActsRow.holds Try.pinned (OpenSpec.ofChange ttyActsSpec)

/-- ITS FALSE NEIGHBOUR: 'it returns false'. Refute it at one input. -/
def ttyActsWrong : ChangeSpec := { name := "ttyActs", fn := fun _ => fun
  | [d1, d2] => { results := [.lit (.bool false)], args := [d1, d2] }
  | _ => none }
def TtyActsWrongFalsely : Prop := ttyActsRow.holds Try.pinned (OpenSpec.ofChange ttyActsWrong)

/-- 'whispererlaw17.TtyHides': WHATEVER THE INPUT: true; the input reads as it did. -/
def ttyHidesSpec : ChangeSpec := { name := "ttyHides", fn := fun _ => fun
  | [d1, d2, d3] => { results := [.lit (.bool true)], args := [d1, d2, d3] }
  | _ => none }
def ttyHidesRow : OpenClaim := { program := "ytmcbgpjphjacjaa", sum := "66d72c6ca0deb1334dc05bffcb6d955fa0659c529eae574cde4dabaf6770014c", func := "whisperer/whispererlaw17.TtyHides", spec := "ttyHides", unfollowed := true, recurses := true, apart := false }
def TtyHidesSaid : Prop := ttyHidesRow.holds Try.pinned (OpenSpec.ofChange ttyHidesSpec)

/-- ITS FALSE NEIGHBOUR: 'it returns false'. Refute it at one input. -/
def ttyHidesWrong : ChangeSpec := { name := "ttyHides", fn := fun _ => fun
  | [d1, d2, d3] => { results := [.lit (.bool false)], args := [d1, d2, d3] }
  | _ => none }
def TtyHidesWrongFalsely : Prop := ttyHidesRow.holds Try.pinned (OpenSpec.ofChange ttyHidesWrong)

/-- 'whispererlaw17.TtyCalls': WHATEVER THE INPUT: true; the input reads as it did. -/
def ttyCallsSpec : ChangeSpec := { name := "ttyCalls", fn := fun _ => fun
  | [d1, d2] => { results := [.lit (.bool true)], args := [d1, d2] }
  | _ => none }
def ttyCallsRow : OpenClaim := { program := "ytmcbgpjphjacjaa", sum := "66d72c6ca0deb1334dc05bffcb6d955fa0659c529eae574cde4dabaf6770014c", func := "whisperer/whispererlaw17.TtyCalls", spec := "ttyCalls", unfollowed := true, recurses := true, apart := false }
def TtyCallsSaid : Prop := ttyCallsRow.holds Try.pinned (OpenSpec.ofChange ttyCallsSpec)

/-- ITS FALSE NEIGHBOUR: 'it returns false'. Refute it at one input. -/
def ttyCallsWrong : ChangeSpec := { name := "ttyCalls", fn := fun _ => fun
  | [d1, d2] => { results := [.lit (.bool false)], args := [d1, d2] }
  | _ => none }
def TtyCallsWrongFalsely : Prop := ttyCallsRow.holds Try.pinned (OpenSpec.ofChange ttyCallsWrong)

/- THE SECOND FORM. 'bulk': how many values and letters a reading holds, each counted each time it is reached (what is shared counts as often as it is met; a slice's spare places count too). A statement '..UptoSaid' is the law's where the arguments, and the package variables that the reading takes, are together of bulk at most 1048576: NARROWER than '..Said'. Prove '..Said' where nothing that the law and all that it calls make is longer than what came in: it says more and counts as full. Else prove '..UptoSaid'. A law counts once. -/
mutual
def uptoBulk {H : Type} : DataW H → Nat
  | .lit (.string bytes) => bytes.length + 1
  | .lit _ => 1
  | .nil => 1
  | .ptr d => uptoBulk d + 1
  | .slice elems spare => uptoBulkAll elems + uptoBulkAll spare + 1
  | .agg parts => uptoBulkAll parts + 1
  | .iface _ d => uptoBulk d + 1
  | .map entries => uptoBulkEntries entries + 1
  | .held _ => 1
def uptoBulkAll {H : Type} : List (DataW H) → Nat
  | [] => 0
  | d :: r => uptoBulk d + uptoBulkAll r
def uptoBulkEntries {H : Type} : List (Lit × DataW H) → Nat
  | [] => 0
  | x :: r => uptoBulkEntry x + uptoBulkEntries r
def uptoBulkEntry {H : Type} : Lit × DataW H → Nat
  | (.string bytes, d) => bytes.length + uptoBulk d + 1
  | (_, d) => uptoBulk d + 1
 end
def uptoSmall : (H : Type) → List (DataW H) → Bool := fun _ ds => decide (uptoBulkAll ds ≤ 1048576)
def OpenSpec.upto (s : _root_.Go.ChangeSpec) : _root_.Go.OpenSpec := { _root_.Go.OpenSpec.ofChange s with cond := some uptoSmall }

/-- 'whispererlaw17.TtyAttrs', WHERE WHAT IT READS IS OF BULK AT MOST 1048576: true; the input reads as it did. -/
def ttyAttrsUptoRow : OpenClaim := { program := "ytmcbgpjphjacjaa", sum := "66d72c6ca0deb1334dc05bffcb6d955fa0659c529eae574cde4dabaf6770014c", func := "whisperer/whispererlaw17.TtyAttrs", spec := "ttyAttrs", unfollowed := true, recurses := true, apart := false, narrowed := true }
def TtyAttrsUptoSaid : Prop := ttyAttrsUptoRow.holds Try.pinned (OpenSpec.upto ttyAttrsSpec)

/-- 'whispererlaw17.TtyOwn', WHERE WHAT IT READS IS OF BULK AT MOST 1048576: true; the input reads as it did. -/
def ttyOwnUptoRow : OpenClaim := { program := "ytmcbgpjphjacjaa", sum := "66d72c6ca0deb1334dc05bffcb6d955fa0659c529eae574cde4dabaf6770014c", func := "whisperer/whispererlaw17.TtyOwn", spec := "ttyOwn", unfollowed := true, recurses := true, apart := false, narrowed := true }
def TtyOwnUptoSaid : Prop := ttyOwnUptoRow.holds Try.pinned (OpenSpec.upto ttyOwnSpec)

/-- 'whispererlaw17.TtyNone', WHERE WHAT IT READS IS OF BULK AT MOST 1048576: true; the input reads as it did. -/
def ttyNoneUptoRow : OpenClaim := { program := "ytmcbgpjphjacjaa", sum := "66d72c6ca0deb1334dc05bffcb6d955fa0659c529eae574cde4dabaf6770014c", func := "whisperer/whispererlaw17.TtyNone", spec := "ttyNone", unfollowed := true, recurses := true, apart := false, narrowed := true }
def TtyNoneUptoSaid : Prop := ttyNoneUptoRow.holds Try.pinned (OpenSpec.upto ttyNoneSpec)

/-- 'whispererlaw17.TtyActs', WHERE WHAT IT READS IS OF BULK AT MOST 1048576: true; the input reads as it did. -/
def ttyActsUptoRow : OpenClaim := { program := "ytmcbgpjphjacjaa", sum := "66d72c6ca0deb1334dc05bffcb6d955fa0659c529eae574cde4dabaf6770014c", func := "whisperer/whispererlaw17.TtyActs", spec := "ttyActs", inPlace := ["math.Float64bits"], unfollowed := true, recurses := true, apart := false, narrowed := true }
def TtyActsUptoSaid : Prop := ttyActsUptoRow.holds Try.pinned (OpenSpec.upto ttyActsSpec)

/-- 'whispererlaw17.TtyHides', WHERE WHAT IT READS IS OF BULK AT MOST 1048576: true; the input reads as it did. -/
def ttyHidesUptoRow : OpenClaim := { program := "ytmcbgpjphjacjaa", sum := "66d72c6ca0deb1334dc05bffcb6d955fa0659c529eae574cde4dabaf6770014c", func := "whisperer/whispererlaw17.TtyHides", spec := "ttyHides", unfollowed := true, recurses := true, apart := false, narrowed := true }
def TtyHidesUptoSaid : Prop := ttyHidesUptoRow.holds Try.pinned (OpenSpec.upto ttyHidesSpec)

/-- 'whispererlaw17.TtyCalls', WHERE WHAT IT READS IS OF BULK AT MOST 1048576: true; the input reads as it did. -/
def ttyCallsUptoRow : OpenClaim := { program := "ytmcbgpjphjacjaa", sum := "66d72c6ca0deb1334dc05bffcb6d955fa0659c529eae574cde4dabaf6770014c", func := "whisperer/whispererlaw17.TtyCalls", spec := "ttyCalls", unfollowed := true, recurses := true, apart := false, narrowed := true }
def TtyCallsUptoSaid : Prop := ttyCallsUptoRow.holds Try.pinned (OpenSpec.upto ttyCallsSpec)

end Rows
end Go.Proofs.Ytmcbgpjphjacjaa
