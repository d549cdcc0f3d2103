/-
  No cell of these rows narrows 'for every input' (looked for: loops, veiled, ifaces, maps, wideKeys, modest, calm, conditions, laid).
  DERIVED. THE GIVEN ROWS OF THIS SEAT. 7 by the template 'for every input the law returns true; each argument reads behind the call as it read before'; 0 by the template 'total and deterministic' (their statements: YtjjebeiomfdjeaaTotals.lean).
  GIVEN WITH THE SEED: the statements are not yours to turn. If you find one false, say at which input.
  Laid BY PROGRAM, IN A SANDBOX (cutbox-rows.mjs): the forced cells as the released guide's own fill.sh prints them over the translation a169539593d86bcd… (all of the seat's roots in one cut). By AI agents, Wed Nov 11 2026. No macro, syntax, notation, axiom, sorry.
-/
import Derived.Test.YtjjebeiomfdjeaaChecked
import GoSem.Claim
import GoSem.ClaimJoined
import GoSem.ClaimMapViews
import Derived.JoinedTies
import Derived.KernelRfl
namespace Go.Proofs.Ytjjebeiomfdjeaa
/- THE CELL 'sum', in the pinned program and in every row, IS THE sha256 OF THE DUMP (.gsa) THAT YtjjebeiomfdjeaaProg.lean LOADS. Nothing in Lean hashes anything: it is a label: what it is worth is what the hold of that sum in a sandbox is worth. -/
noncomputable def Try.pinned : Pinned := { name := "ytjjebeiomfdjeaa", sum := "a169539593d86bcd5521d2284a04fdcdf21c892f41d61d7eddc954ced315a422", checked := Try.checked }
namespace Rows
def none {H : Type} : Left H := { results := [], args := [] }

/-- 'whispererlaw02.MomentOrder': WHATEVER THE INPUT: true; the input reads as it did. -/
def momentOrderSpec : ChangeSpec := { name := "momentOrder", fn := fun _ => fun
  | [d1, d2, d3] => { results := [.lit (.bool true)], args := [d1, d2, d3] }
  | _ => none }
def momentOrderRow : OpenClaim := { program := "ytjjebeiomfdjeaa", sum := "a169539593d86bcd5521d2284a04fdcdf21c892f41d61d7eddc954ced315a422", func := "whisperer/whispererlaw02.MomentOrder", spec := "momentOrder", inPlace := ["math.Float64frombits", "math.Float64bits"], apart := false }
def MomentOrderSaid : Prop := momentOrderRow.holds Try.pinned (OpenSpec.ofChange momentOrderSpec)

/-- ITS FALSE NEIGHBOUR: 'it returns false'. Refute it at one input. -/
def momentOrderWrong : ChangeSpec := { name := "momentOrder", fn := fun _ => fun
  | [d1, d2, d3] => { results := [.lit (.bool false)], args := [d1, d2, d3] }
  | _ => none }
def MomentOrderWrongFalsely : Prop := momentOrderRow.holds Try.pinned (OpenSpec.ofChange momentOrderWrong)

/-- 'whispererlaw02.MomentKeys': WHATEVER THE INPUT: true; the input reads as it did. -/
def momentKeysSpec : ChangeSpec := { name := "momentKeys", fn := fun _ => fun
  | [d1, d2] => { results := [.lit (.bool true)], args := [d1, d2] }
  | _ => none }
def momentKeysRow : OpenClaim := { program := "ytjjebeiomfdjeaa", sum := "a169539593d86bcd5521d2284a04fdcdf21c892f41d61d7eddc954ced315a422", func := "whisperer/whispererlaw02.MomentKeys", spec := "momentKeys", inPlace := ["math.Float64frombits", "math.Float64bits"], apart := false }
def MomentKeysSaid : Prop := momentKeysRow.holds Try.pinned (OpenSpec.ofChange momentKeysSpec)

/-- ITS FALSE NEIGHBOUR: 'it returns false'. Refute it at one input. -/
def momentKeysWrong : ChangeSpec := { name := "momentKeys", fn := fun _ => fun
  | [d1, d2] => { results := [.lit (.bool false)], args := [d1, d2] }
  | _ => none }
def MomentKeysWrongFalsely : Prop := momentKeysRow.holds Try.pinned (OpenSpec.ofChange momentKeysWrong)

/-- 'whispererlaw02.MomentBack': WHATEVER THE INPUT: true; the input reads as it did. -/
def momentBackSpec : ChangeSpec := { name := "momentBack", fn := fun _ => fun
  | [d1, d2] => { results := [.lit (.bool true)], args := [d1, d2] }
  | _ => none }
def momentBackRow : OpenClaim := { program := "ytjjebeiomfdjeaa", sum := "a169539593d86bcd5521d2284a04fdcdf21c892f41d61d7eddc954ced315a422", func := "whisperer/whispererlaw02.MomentBack", spec := "momentBack", inPlace := ["math.Float64frombits", "math.Float64bits"], apart := false }
def MomentBackSaid : Prop := momentBackRow.holds Try.pinned (OpenSpec.ofChange momentBackSpec)

/-- ITS FALSE NEIGHBOUR: 'it returns false'. Refute it at one input. -/
def momentBackWrong : ChangeSpec := { name := "momentBack", fn := fun _ => fun
  | [d1, d2] => { results := [.lit (.bool false)], args := [d1, d2] }
  | _ => none }
def MomentBackWrongFalsely : Prop := momentBackRow.holds Try.pinned (OpenSpec.ofChange momentBackWrong)

/-- 'whispererlaw02.MomentCompares': WHATEVER THE INPUT: true; the input reads as it did. -/
def momentComparesSpec : ChangeSpec := { name := "momentCompares", fn := fun _ => fun
  | [d1, d2] => { results := [.lit (.bool true)], args := [d1, d2] }
  | _ => none }
def momentComparesRow : OpenClaim := { program := "ytjjebeiomfdjeaa", sum := "a169539593d86bcd5521d2284a04fdcdf21c892f41d61d7eddc954ced315a422", func := "whisperer/whispererlaw02.MomentCompares", spec := "momentCompares", inPlace := ["math.Float64frombits", "math.Float64bits"], apart := false }
def MomentComparesSaid : Prop := momentComparesRow.holds Try.pinned (OpenSpec.ofChange momentComparesSpec)

/-- ITS FALSE NEIGHBOUR: 'it returns false'. Refute it at one input. -/
def momentComparesWrong : ChangeSpec := { name := "momentCompares", fn := fun _ => fun
  | [d1, d2] => { results := [.lit (.bool false)], args := [d1, d2] }
  | _ => none }
def MomentComparesWrongFalsely : Prop := momentComparesRow.holds Try.pinned (OpenSpec.ofChange momentComparesWrong)

/-- 'whispererlaw02.MomentKinds': WHATEVER THE INPUT: true; the input reads as it did. -/
def momentKindsSpec : ChangeSpec := { name := "momentKinds", fn := fun _ => fun
  | [d1, d2] => { results := [.lit (.bool true)], args := [d1, d2] }
  | _ => none }
def momentKindsRow : OpenClaim := { program := "ytjjebeiomfdjeaa", sum := "a169539593d86bcd5521d2284a04fdcdf21c892f41d61d7eddc954ced315a422", func := "whisperer/whispererlaw02.MomentKinds", spec := "momentKinds", inPlace := ["math.Float64frombits", "math.Float64bits"], apart := false }
def MomentKindsSaid : Prop := momentKindsRow.holds Try.pinned (OpenSpec.ofChange momentKindsSpec)

/-- ITS FALSE NEIGHBOUR: 'it returns false'. Refute it at one input. -/
def momentKindsWrong : ChangeSpec := { name := "momentKinds", fn := fun _ => fun
  | [d1, d2] => { results := [.lit (.bool false)], args := [d1, d2] }
  | _ => none }
def MomentKindsWrongFalsely : Prop := momentKindsRow.holds Try.pinned (OpenSpec.ofChange momentKindsWrong)

/-- 'whispererlaw02.MomentSorts': WHATEVER THE INPUT: true; the input reads as it did. -/
def momentSortsSpec : ChangeSpec := { name := "momentSorts", fn := fun _ => fun
  | [d] => { results := [.lit (.bool true)], args := [d] }
  | _ => none }
def momentSortsRow : OpenClaim := { program := "ytjjebeiomfdjeaa", sum := "a169539593d86bcd5521d2284a04fdcdf21c892f41d61d7eddc954ced315a422", func := "whisperer/whispererlaw02.MomentSorts", spec := "momentSorts", inPlace := ["math.Float64bits", "math.Float64frombits"], unfollowed := true, recurses := true, apart := false }
def MomentSortsSaid : Prop := momentSortsRow.holds Try.pinned (OpenSpec.ofChange momentSortsSpec)

/-- ITS FALSE NEIGHBOUR: 'it returns false'. Refute it at one input. -/
def momentSortsWrong : ChangeSpec := { name := "momentSorts", fn := fun _ => fun
  | [d] => { results := [.lit (.bool false)], args := [d] }
  | _ => none }
def MomentSortsWrongFalsely : Prop := momentSortsRow.holds Try.pinned (OpenSpec.ofChange momentSortsWrong)

/-- 'whispererlaw02.MomentSorted': WHATEVER THE INPUT: true; the input reads as it did. -/
def momentSortedSpec : ChangeSpec := { name := "momentSorted", fn := fun _ => fun
  | [d] => { results := [.lit (.bool true)], args := [d] }
  | _ => none }
def momentSortedRow : OpenClaim := { program := "ytjjebeiomfdjeaa", sum := "a169539593d86bcd5521d2284a04fdcdf21c892f41d61d7eddc954ced315a422", func := "whisperer/whispererlaw02.MomentSorted", spec := "momentSorted", inPlace := ["math.Float64bits", "math.Float64frombits"], unfollowed := true, recurses := true, apart := false }
def MomentSortedSaid : Prop := momentSortedRow.holds Try.pinned (OpenSpec.ofChange momentSortedSpec)

/-- ITS FALSE NEIGHBOUR: 'it returns false'. Refute it at one input. -/
def momentSortedWrong : ChangeSpec := { name := "momentSorted", fn := fun _ => fun
  | [d] => { results := [.lit (.bool false)], args := [d] }
  | _ => none }
def MomentSortedWrongFalsely : Prop := momentSortedRow.holds Try.pinned (OpenSpec.ofChange momentSortedWrong)

/- THE SECOND FORM. 'bulk': how many values and letters a reading holds, each counted each time it is reached (what is shared counts as often as it is met; a slice's spare places count too). A statement '..UptoSaid' is the law's where the arguments, and the package variables that the reading takes, are together of bulk at most 1048576: NARROWER than '..Said'. Prove '..Said' where nothing that the law and all that it calls make is longer than what came in: it says more and counts as full. Else prove '..UptoSaid'. A law counts once. -/
mutual
def uptoBulk {H : Type} : DataW H → Nat
  | .lit (.string bytes) => bytes.length + 1
  | .lit _ => 1
  | .nil => 1
  | .ptr d => uptoBulk d + 1
  | .slice elems spare => uptoBulkAll elems + uptoBulkAll spare + 1
  | .agg parts => uptoBulkAll parts + 1
  | .iface _ d => uptoBulk d + 1
  | .map entries => uptoBulkEntries entries + 1
  | .held _ => 1
def uptoBulkAll {H : Type} : List (DataW H) → Nat
  | [] => 0
  | d :: r => uptoBulk d + uptoBulkAll r
def uptoBulkEntries {H : Type} : List (Lit × DataW H) → Nat
  | [] => 0
  | x :: r => uptoBulkEntry x + uptoBulkEntries r
def uptoBulkEntry {H : Type} : Lit × DataW H → Nat
  | (.string bytes, d) => bytes.length + uptoBulk d + 1
  | (_, d) => uptoBulk d + 1
 end
def uptoSmall : (H : Type) → List (DataW H) → Bool := fun _ ds => decide (uptoBulkAll ds ≤ 1048576)
def OpenSpec.upto (s : _root_.Go.ChangeSpec) : _root_.Go.OpenSpec := { _root_.Go.OpenSpec.ofChange s with cond := some uptoSmall }

/-- 'whispererlaw02.MomentOrder', WHERE WHAT IT READS IS OF BULK AT MOST 1048576: true; the input reads as it did. -/
def momentOrderUptoRow : OpenClaim := { program := "ytjjebeiomfdjeaa", sum := "a169539593d86bcd5521d2284a04fdcdf21c892f41d61d7eddc954ced315a422", func := "whisperer/whispererlaw02.MomentOrder", spec := "momentOrder", inPlace := ["math.Float64frombits", "math.Float64bits"], apart := false, narrowed := true }
def MomentOrderUptoSaid : Prop := momentOrderUptoRow.holds Try.pinned (OpenSpec.upto momentOrderSpec)

/-- 'whispererlaw02.MomentKeys', WHERE WHAT IT READS IS OF BULK AT MOST 1048576: true; the input reads as it did. -/
def momentKeysUptoRow : OpenClaim := { program := "ytjjebeiomfdjeaa", sum := "a169539593d86bcd5521d2284a04fdcdf21c892f41d61d7eddc954ced315a422", func := "whisperer/whispererlaw02.MomentKeys", spec := "momentKeys", inPlace := ["math.Float64frombits", "math.Float64bits"], apart := false, narrowed := true }
def MomentKeysUptoSaid : Prop := momentKeysUptoRow.holds Try.pinned (OpenSpec.upto momentKeysSpec)

/-- 'whispererlaw02.MomentBack', WHERE WHAT IT READS IS OF BULK AT MOST 1048576: true; the input reads as it did. -/
def momentBackUptoRow : OpenClaim := { program := "ytjjebeiomfdjeaa", sum := "a169539593d86bcd5521d2284a04fdcdf21c892f41d61d7eddc954ced315a422", func := "whisperer/whispererlaw02.MomentBack", spec := "momentBack", inPlace := ["math.Float64frombits", "math.Float64bits"], apart := false, narrowed := true }
def MomentBackUptoSaid : Prop := momentBackUptoRow.holds Try.pinned (OpenSpec.upto momentBackSpec)

/-- 'whispererlaw02.MomentCompares', WHERE WHAT IT READS IS OF BULK AT MOST 1048576: true; the input reads as it did. -/
def momentComparesUptoRow : OpenClaim := { program := "ytjjebeiomfdjeaa", sum := "a169539593d86bcd5521d2284a04fdcdf21c892f41d61d7eddc954ced315a422", func := "whisperer/whispererlaw02.MomentCompares", spec := "momentCompares", inPlace := ["math.Float64frombits", "math.Float64bits"], apart := false, narrowed := true }
def MomentComparesUptoSaid : Prop := momentComparesUptoRow.holds Try.pinned (OpenSpec.upto momentComparesSpec)

/-- 'whispererlaw02.MomentKinds', WHERE WHAT IT READS IS OF BULK AT MOST 1048576: true; the input reads as it did. -/
def momentKindsUptoRow : OpenClaim := { program := "ytjjebeiomfdjeaa", sum := "a169539593d86bcd5521d2284a04fdcdf21c892f41d61d7eddc954ced315a422", func := "whisperer/whispererlaw02.MomentKinds", spec := "momentKinds", inPlace := ["math.Float64frombits", "math.Float64bits"], apart := false, narrowed := true }
def MomentKindsUptoSaid : Prop := momentKindsUptoRow.holds Try.pinned (OpenSpec.upto momentKindsSpec)

/-- 'whispererlaw02.MomentSorts', WHERE WHAT IT READS IS OF BULK AT MOST 1048576: true; the input reads as it did. -/
def momentSortsUptoRow : OpenClaim := { program := "ytjjebeiomfdjeaa", sum := "a169539593d86bcd5521d2284a04fdcdf21c892f41d61d7eddc954ced315a422", func := "whisperer/whispererlaw02.MomentSorts", spec := "momentSorts", inPlace := ["math.Float64bits", "math.Float64frombits"], unfollowed := true, recurses := true, apart := false, narrowed := true }
def MomentSortsUptoSaid : Prop := momentSortsUptoRow.holds Try.pinned (OpenSpec.upto momentSortsSpec)

/-- 'whispererlaw02.MomentSorted', WHERE WHAT IT READS IS OF BULK AT MOST 1048576: true; the input reads as it did. -/
def momentSortedUptoRow : OpenClaim := { program := "ytjjebeiomfdjeaa", sum := "a169539593d86bcd5521d2284a04fdcdf21c892f41d61d7eddc954ced315a422", func := "whisperer/whispererlaw02.MomentSorted", spec := "momentSorted", inPlace := ["math.Float64bits", "math.Float64frombits"], unfollowed := true, recurses := true, apart := false, narrowed := true }
def MomentSortedUptoSaid : Prop := momentSortedUptoRow.holds Try.pinned (OpenSpec.upto momentSortedSpec)

end Rows
end Go.Proofs.Ytjjebeiomfdjeaa
