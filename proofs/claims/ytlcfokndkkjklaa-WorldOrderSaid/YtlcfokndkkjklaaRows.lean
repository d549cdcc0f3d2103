/-
  No cell of these rows narrows 'for every input' (looked for: loops, veiled, ifaces, maps, wideKeys, modest, calm, conditions, laid).
  DERIVED. THE GIVEN ROWS OF THIS SEAT. 7 by the template 'for every input the law returns true; each argument reads behind the call as it read before'; 0 by the template 'total and deterministic' (their statements: YtlcfokndkkjklaaTotals.lean).
  GIVEN WITH THE SEED: the statements are not yours to turn. If you find one false, say at which input.
  Laid BY PROGRAM, IN A SANDBOX (cutbox-rows.mjs): the forced cells as the released guide's own fill.sh prints them over the translation bc3e99d521606ea0… (all of the seat's roots in one cut). By AI agents, Wed Nov 11 2026. No macro, syntax, notation, axiom, sorry.
-/
import Derived.Test.YtlcfokndkkjklaaChecked
import GoSem.Claim
import GoSem.ClaimJoined
import GoSem.ClaimMapViews
import Derived.JoinedTies
import Derived.KernelRfl
namespace Go.Proofs.Ytlcfokndkkjklaa
/- THE CELL 'sum', in the pinned program and in every row, IS THE sha256 OF THE DUMP (.gsa) THAT YtlcfokndkkjklaaProg.lean LOADS. Nothing in Lean hashes anything: it is a label: what it is worth is what the hold of that sum in a sandbox is worth. -/
noncomputable def Try.pinned : Pinned := { name := "ytlcfokndkkjklaa", sum := "bc3e99d521606ea098b3b29f4a3b25e7515af2c56bb14e30804f9c6df3c9853a", checked := Try.checked }
namespace Rows
def none {H : Type} : Left H := { results := [], args := [] }

/-- 'whispererlaw16.WorldLong': WHATEVER THE INPUT: true; the input reads as it did. -/
def worldLongSpec : ChangeSpec := { name := "worldLong", fn := fun _ => fun
  | [d] => { results := [.lit (.bool true)], args := [d] }
  | _ => none }
def worldLongRow : OpenClaim := { program := "ytlcfokndkkjklaa", sum := "bc3e99d521606ea098b3b29f4a3b25e7515af2c56bb14e30804f9c6df3c9853a", func := "whisperer/whispererlaw16.WorldLong", spec := "worldLong", unfollowed := true, recurses := true, apart := false }
def WorldLongSaid : Prop := worldLongRow.holds Try.pinned (OpenSpec.ofChange worldLongSpec)

/-- ITS FALSE NEIGHBOUR: 'it returns false'. Refute it at one input. -/
def worldLongWrong : ChangeSpec := { name := "worldLong", fn := fun _ => fun
  | [d] => { results := [.lit (.bool false)], args := [d] }
  | _ => none }
def WorldLongWrongFalsely : Prop := worldLongRow.holds Try.pinned (OpenSpec.ofChange worldLongWrong)

/-- 'whispererlaw16.WorldPieces': WHATEVER THE INPUT: true; the input reads as it did. -/
def worldPiecesSpec : ChangeSpec := { name := "worldPieces", fn := fun _ => fun
  | [d1, d2, d3] => { results := [.lit (.bool true)], args := [d1, d2, d3] }
  | _ => none }
def worldPiecesRow : OpenClaim := { program := "ytlcfokndkkjklaa", sum := "bc3e99d521606ea098b3b29f4a3b25e7515af2c56bb14e30804f9c6df3c9853a", func := "whisperer/whispererlaw16.WorldPieces", spec := "worldPieces", unfollowed := true, recurses := true, apart := false }
def WorldPiecesSaid : Prop := worldPiecesRow.holds Try.pinned (OpenSpec.ofChange worldPiecesSpec)

/-- ITS FALSE NEIGHBOUR: 'it returns false'. Refute it at one input. -/
def worldPiecesWrong : ChangeSpec := { name := "worldPieces", fn := fun _ => fun
  | [d1, d2, d3] => { results := [.lit (.bool false)], args := [d1, d2, d3] }
  | _ => none }
def WorldPiecesWrongFalsely : Prop := worldPiecesRow.holds Try.pinned (OpenSpec.ofChange worldPiecesWrong)

/-- 'whispererlaw16.WorldWrites': WHATEVER THE INPUT: true; the input reads as it did. -/
def worldWritesSpec : ChangeSpec := { name := "worldWrites", fn := fun _ => fun
  | [d1, d2] => { results := [.lit (.bool true)], args := [d1, d2] }
  | _ => none }
def worldWritesRow : OpenClaim := { program := "ytlcfokndkkjklaa", sum := "bc3e99d521606ea098b3b29f4a3b25e7515af2c56bb14e30804f9c6df3c9853a", func := "whisperer/whispererlaw16.WorldWrites", spec := "worldWrites", unfollowed := true, recurses := true, apart := false }
def WorldWritesSaid : Prop := worldWritesRow.holds Try.pinned (OpenSpec.ofChange worldWritesSpec)

/-- ITS FALSE NEIGHBOUR: 'it returns false'. Refute it at one input. -/
def worldWritesWrong : ChangeSpec := { name := "worldWrites", fn := fun _ => fun
  | [d1, d2] => { results := [.lit (.bool false)], args := [d1, d2] }
  | _ => none }
def WorldWritesWrongFalsely : Prop := worldWritesRow.holds Try.pinned (OpenSpec.ofChange worldWritesWrong)

/-- 'whispererlaw16.WorldOwn': WHATEVER THE INPUT: true; the input reads as it did. -/
def worldOwnSpec : ChangeSpec := { name := "worldOwn", fn := fun _ => fun
  | [d1, d2] => { results := [.lit (.bool true)], args := [d1, d2] }
  | _ => none }
def worldOwnRow : OpenClaim := { program := "ytlcfokndkkjklaa", sum := "bc3e99d521606ea098b3b29f4a3b25e7515af2c56bb14e30804f9c6df3c9853a", func := "whisperer/whispererlaw16.WorldOwn", spec := "worldOwn", unfollowed := true, recurses := true, apart := false }
def WorldOwnSaid : Prop := worldOwnRow.holds Try.pinned (OpenSpec.ofChange worldOwnSpec)

/-- ITS FALSE NEIGHBOUR: 'it returns false'. Refute it at one input. -/
def worldOwnWrong : ChangeSpec := { name := "worldOwn", fn := fun _ => fun
  | [d1, d2] => { results := [.lit (.bool false)], args := [d1, d2] }
  | _ => none }
def WorldOwnWrongFalsely : Prop := worldOwnRow.holds Try.pinned (OpenSpec.ofChange worldOwnWrong)

/-- 'whispererlaw16.WorldActs': WHATEVER THE INPUT: true; the input reads as it did. -/
def worldActsSpec : ChangeSpec := { name := "worldActs", fn := fun _ => fun
  | [d1, d2] => { results := [.lit (.bool true)], args := [d1, d2] }
  | _ => none }
def worldActsRow : OpenClaim := { program := "ytlcfokndkkjklaa", sum := "bc3e99d521606ea098b3b29f4a3b25e7515af2c56bb14e30804f9c6df3c9853a", func := "whisperer/whispererlaw16.WorldActs", spec := "worldActs", inPlace := ["math.Float64bits"], unfollowed := true, recurses := true, apart := false }
def WorldActsSaid : Prop := worldActsRow.holds Try.pinned (OpenSpec.ofChange worldActsSpec)

/-- ITS FALSE NEIGHBOUR: 'it returns false'. Refute it at one input. -/
def worldActsWrong : ChangeSpec := { name := "worldActs", fn := fun _ => fun
  | [d1, d2] => { results := [.lit (.bool false)], args := [d1, d2] }
  | _ => none }
def WorldActsWrongFalsely : Prop := worldActsRow.holds Try.pinned (OpenSpec.ofChange worldActsWrong)

/-- 'whispererlaw16.WorldNone': WHATEVER THE INPUT: true; the input reads as it did. -/
def worldNoneSpec : ChangeSpec := { name := "worldNone", fn := fun _ => fun
  | [d] => { results := [.lit (.bool true)], args := [d] }
  | _ => none }
def worldNoneRow : OpenClaim := { program := "ytlcfokndkkjklaa", sum := "bc3e99d521606ea098b3b29f4a3b25e7515af2c56bb14e30804f9c6df3c9853a", func := "whisperer/whispererlaw16.WorldNone", spec := "worldNone", unfollowed := true, recurses := true, apart := false }
def WorldNoneSaid : Prop := worldNoneRow.holds Try.pinned (OpenSpec.ofChange worldNoneSpec)

/-- ITS FALSE NEIGHBOUR: 'it returns false'. Refute it at one input. -/
def worldNoneWrong : ChangeSpec := { name := "worldNone", fn := fun _ => fun
  | [d] => { results := [.lit (.bool false)], args := [d] }
  | _ => none }
def WorldNoneWrongFalsely : Prop := worldNoneRow.holds Try.pinned (OpenSpec.ofChange worldNoneWrong)

/-- 'whispererlaw16.WorldOrder': WHATEVER THE INPUT: true; the input reads as it did. -/
def worldOrderSpec : ChangeSpec := { name := "worldOrder", fn := fun _ => fun
  | [d1, d2] => { results := [.lit (.bool true)], args := [d1, d2] }
  | _ => none }
def worldOrderRow : OpenClaim := { program := "ytlcfokndkkjklaa", sum := "bc3e99d521606ea098b3b29f4a3b25e7515af2c56bb14e30804f9c6df3c9853a", func := "whisperer/whispererlaw16.WorldOrder", spec := "worldOrder", inPlace := ["math.Float64bits"], unfollowed := true, recurses := true, apart := false }
def WorldOrderSaid : Prop := worldOrderRow.holds Try.pinned (OpenSpec.ofChange worldOrderSpec)

/-- ITS FALSE NEIGHBOUR: 'it returns false'. Refute it at one input. -/
def worldOrderWrong : ChangeSpec := { name := "worldOrder", fn := fun _ => fun
  | [d1, d2] => { results := [.lit (.bool false)], args := [d1, d2] }
  | _ => none }
def WorldOrderWrongFalsely : Prop := worldOrderRow.holds Try.pinned (OpenSpec.ofChange worldOrderWrong)

/- THE SECOND FORM. 'bulk': how many values and letters a reading holds, each counted each time it is reached (what is shared counts as often as it is met; a slice's spare places count too). A statement '..UptoSaid' is the law's where the arguments, and the package variables that the reading takes, are together of bulk at most 1048576: NARROWER than '..Said'. Prove '..Said' where nothing that the law and all that it calls make is longer than what came in: it says more and counts as full. Else prove '..UptoSaid'. A law counts once. -/
mutual
def uptoBulk {H : Type} : DataW H → Nat
  | .lit (.string bytes) => bytes.length + 1
  | .lit _ => 1
  | .nil => 1
  | .ptr d => uptoBulk d + 1
  | .slice elems spare => uptoBulkAll elems + uptoBulkAll spare + 1
  | .agg parts => uptoBulkAll parts + 1
  | .iface _ d => uptoBulk d + 1
  | .map entries => uptoBulkEntries entries + 1
  | .held _ => 1
def uptoBulkAll {H : Type} : List (DataW H) → Nat
  | [] => 0
  | d :: r => uptoBulk d + uptoBulkAll r
def uptoBulkEntries {H : Type} : List (Lit × DataW H) → Nat
  | [] => 0
  | x :: r => uptoBulkEntry x + uptoBulkEntries r
def uptoBulkEntry {H : Type} : Lit × DataW H → Nat
  | (.string bytes, d) => bytes.length + uptoBulk d + 1
  | (_, d) => uptoBulk d + 1
 end
def uptoSmall : (H : Type) → List (DataW H) → Bool := fun _ ds => decide (uptoBulkAll ds ≤ 1048576)
def OpenSpec.upto (s : _root_.Go.ChangeSpec) : _root_.Go.OpenSpec := { _root_.Go.OpenSpec.ofChange s with cond := some uptoSmall }

/-- 'whispererlaw16.WorldLong', WHERE WHAT IT READS IS OF BULK AT MOST 1048576: true; the input reads as it did. -/
def worldLongUptoRow : OpenClaim := { program := "ytlcfokndkkjklaa", sum := "bc3e99d521606ea098b3b29f4a3b25e7515af2c56bb14e30804f9c6df3c9853a", func := "whisperer/whispererlaw16.WorldLong", spec := "worldLong", unfollowed := true, recurses := true, apart := false, narrowed := true }
def WorldLongUptoSaid : Prop := worldLongUptoRow.holds Try.pinned (OpenSpec.upto worldLongSpec)

/-- 'whispererlaw16.WorldPieces', WHERE WHAT IT READS IS OF BULK AT MOST 1048576: true; the input reads as it did. -/
def worldPiecesUptoRow : OpenClaim := { program := "ytlcfokndkkjklaa", sum := "bc3e99d521606ea098b3b29f4a3b25e7515af2c56bb14e30804f9c6df3c9853a", func := "whisperer/whispererlaw16.WorldPieces", spec := "worldPieces", unfollowed := true, recurses := true, apart := false, narrowed := true }
def WorldPiecesUptoSaid : Prop := worldPiecesUptoRow.holds Try.pinned (OpenSpec.upto worldPiecesSpec)

/-- 'whispererlaw16.WorldWrites', WHERE WHAT IT READS IS OF BULK AT MOST 1048576: true; the input reads as it did. -/
def worldWritesUptoRow : OpenClaim := { program := "ytlcfokndkkjklaa", sum := "bc3e99d521606ea098b3b29f4a3b25e7515af2c56bb14e30804f9c6df3c9853a", func := "whisperer/whispererlaw16.WorldWrites", spec := "worldWrites", unfollowed := true, recurses := true, apart := false, narrowed := true }
def WorldWritesUptoSaid : Prop := worldWritesUptoRow.holds Try.pinned (OpenSpec.upto worldWritesSpec)

/-- 'whispererlaw16.WorldOwn', WHERE WHAT IT READS IS OF BULK AT MOST 1048576: true; the input reads as it did. -/
def worldOwnUptoRow : OpenClaim := { program := "ytlcfokndkkjklaa", sum := "bc3e99d521606ea098b3b29f4a3b25e7515af2c56bb14e30804f9c6df3c9853a", func := "whisperer/whispererlaw16.WorldOwn", spec := "worldOwn", unfollowed := true, recurses := true, apart := false, narrowed := true }
def WorldOwnUptoSaid : Prop := worldOwnUptoRow.holds Try.pinned (OpenSpec.upto worldOwnSpec)

/-- 'whispererlaw16.WorldActs', WHERE WHAT IT READS IS OF BULK AT MOST 1048576: true; the input reads as it did. -/
def worldActsUptoRow : OpenClaim := { program := "ytlcfokndkkjklaa", sum := "bc3e99d521606ea098b3b29f4a3b25e7515af2c56bb14e30804f9c6df3c9853a", func := "whisperer/whispererlaw16.WorldActs", spec := "worldActs", inPlace := ["math.Float64bits"], unfollowed := true, recurses := true, apart := false, narrowed := true }
def WorldActsUptoSaid : Prop := worldActsUptoRow.holds Try.pinned (OpenSpec.upto worldActsSpec)

/-- 'whispererlaw16.WorldNone', WHERE WHAT IT READS IS OF BULK AT MOST 1048576: true; the input reads as it did. -/
def worldNoneUptoRow : OpenClaim := { program := "ytlcfokndkkjklaa", sum := "bc3e99d521606ea098b3b29f4a3b25e7515af2c56bb14e30804f9c6df3c9853a", func := "whisperer/whispererlaw16.WorldNone", spec := "worldNone", unfollowed := true, recurses := true, apart := false, narrowed := true }
def WorldNoneUptoSaid : Prop := worldNoneUptoRow.holds Try.pinned (OpenSpec.upto worldNoneSpec)

/-- 'whispererlaw16.WorldOrder', WHERE WHAT IT READS IS OF BULK AT MOST 1048576: true; the input reads as it did. -/
def worldOrderUptoRow : OpenClaim := { program := "ytlcfokndkkjklaa", sum := "bc3e99d521606ea098b3b29f4a3b25e7515af2c56bb14e30804f9c6df3c9853a", func := "whisperer/whispererlaw16.WorldOrder", spec := "worldOrder", inPlace := ["math.Float64bits"], unfollowed := true, recurses := true, apart := false, narrowed := true }
def WorldOrderUptoSaid : Prop := worldOrderUptoRow.holds Try.pinned (OpenSpec.upto worldOrderSpec)

end Rows
end Go.Proofs.Ytlcfokndkkjklaa
