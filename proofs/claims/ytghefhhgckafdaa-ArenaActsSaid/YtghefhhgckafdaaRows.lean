/-
  No cell of these rows narrows 'for every input' (looked for: loops, veiled, ifaces, maps, wideKeys, modest, calm, conditions, laid).
  DERIVED. THE GIVEN ROWS OF THIS SEAT. 6 by the template 'for every input the law returns true; each argument reads behind the call as it read before'; 0 by the template 'total and deterministic' (their statements: YtghefhhgckafdaaTotals.lean).
  GIVEN WITH THE SEED: the statements are not yours to turn. If you find one false, say at which input.
  Laid BY PROGRAM, IN A SANDBOX (cutbox-rows.mjs): the forced cells as the released guide's own fill.sh prints them over the translation 9c6652b25d1c796d… (all of the seat's roots in one cut). By AI agents, Wed Nov 11 2026. No macro, syntax, notation, axiom, sorry.
-/
import Derived.Test.YtghefhhgckafdaaChecked
import GoSem.Claim
import GoSem.ClaimJoined
import GoSem.ClaimMapViews
import Derived.JoinedTies
import Derived.KernelRfl
namespace Go.Proofs.Ytghefhhgckafdaa
/- THE CELL 'sum', in the pinned program and in every row, IS THE sha256 OF THE DUMP (.gsa) THAT YtghefhhgckafdaaProg.lean LOADS. Nothing in Lean hashes anything: it is a label: what it is worth is what the hold of that sum in a sandbox is worth. -/
noncomputable def Try.pinned : Pinned := { name := "ytghefhhgckafdaa", sum := "9c6652b25d1c796d67590b28c59ed980d64756bcd05c4a91be027f61b73521aa", checked := Try.checked }
namespace Rows
def none {H : Type} : Left H := { results := [], args := [] }

/-- 'whispererlaw04.ArenaCopies': WHATEVER THE INPUT: true; the input reads as it did. -/
def arenaCopiesSpec : ChangeSpec := { name := "arenaCopies", fn := fun _ => fun
  | [d1, d2] => { results := [.lit (.bool true)], args := [d1, d2] }
  | _ => none }
def arenaCopiesRow : OpenClaim := { program := "ytghefhhgckafdaa", sum := "9c6652b25d1c796d67590b28c59ed980d64756bcd05c4a91be027f61b73521aa", func := "whisperer/whispererlaw04.ArenaCopies", spec := "arenaCopies", apart := false }
def ArenaCopiesSaid : Prop := arenaCopiesRow.holds Try.pinned (OpenSpec.ofChange arenaCopiesSpec)

/-- ITS FALSE NEIGHBOUR: 'it returns false'. Refute it at one input. -/
def arenaCopiesWrong : ChangeSpec := { name := "arenaCopies", fn := fun _ => fun
  | [d1, d2] => { results := [.lit (.bool false)], args := [d1, d2] }
  | _ => none }
def ArenaCopiesWrongFalsely : Prop := arenaCopiesRow.holds Try.pinned (OpenSpec.ofChange arenaCopiesWrong)

/-- 'whispererlaw04.ArenaParts': WHATEVER THE INPUT: true; the input reads as it did. -/
def arenaPartsSpec : ChangeSpec := { name := "arenaParts", fn := fun _ => fun
  | [d1, d2] => { results := [.lit (.bool true)], args := [d1, d2] }
  | _ => none }
def arenaPartsRow : OpenClaim := { program := "ytghefhhgckafdaa", sum := "9c6652b25d1c796d67590b28c59ed980d64756bcd05c4a91be027f61b73521aa", func := "whisperer/whispererlaw04.ArenaParts", spec := "arenaParts", apart := false }
def ArenaPartsSaid : Prop := arenaPartsRow.holds Try.pinned (OpenSpec.ofChange arenaPartsSpec)

/-- ITS FALSE NEIGHBOUR: 'it returns false'. Refute it at one input. -/
def arenaPartsWrong : ChangeSpec := { name := "arenaParts", fn := fun _ => fun
  | [d1, d2] => { results := [.lit (.bool false)], args := [d1, d2] }
  | _ => none }
def ArenaPartsWrongFalsely : Prop := arenaPartsRow.holds Try.pinned (OpenSpec.ofChange arenaPartsWrong)

/-- 'whispererlaw04.ArenaMoves': WHATEVER THE INPUT: true; the input reads as it did. -/
def arenaMovesSpec : ChangeSpec := { name := "arenaMoves", fn := fun _ => fun
  | [d1, d2, d3] => { results := [.lit (.bool true)], args := [d1, d2, d3] }
  | _ => none }
def arenaMovesRow : OpenClaim := { program := "ytghefhhgckafdaa", sum := "9c6652b25d1c796d67590b28c59ed980d64756bcd05c4a91be027f61b73521aa", func := "whisperer/whispererlaw04.ArenaMoves", spec := "arenaMoves", apart := false }
def ArenaMovesSaid : Prop := arenaMovesRow.holds Try.pinned (OpenSpec.ofChange arenaMovesSpec)

/-- ITS FALSE NEIGHBOUR: 'it returns false'. Refute it at one input. -/
def arenaMovesWrong : ChangeSpec := { name := "arenaMoves", fn := fun _ => fun
  | [d1, d2, d3] => { results := [.lit (.bool false)], args := [d1, d2, d3] }
  | _ => none }
def ArenaMovesWrongFalsely : Prop := arenaMovesRow.holds Try.pinned (OpenSpec.ofChange arenaMovesWrong)

/-- 'whispererlaw04.ArenaActs': WHATEVER THE INPUT: true; the input reads as it did. -/
def arenaActsSpec : ChangeSpec := { name := "arenaActs", fn := fun _ => fun
  | [d1, d2] => { results := [.lit (.bool true)], args := [d1, d2] }
  | _ => none }
def arenaActsRow : OpenClaim := { program := "ytghefhhgckafdaa", sum := "9c6652b25d1c796d67590b28c59ed980d64756bcd05c4a91be027f61b73521aa", func := "whisperer/whispererlaw04.ArenaActs", spec := "arenaActs", apart := false }
def ArenaActsSaid : Prop := arenaActsRow.holds Try.pinned (OpenSpec.ofChange arenaActsSpec)

/-- ITS FALSE NEIGHBOUR: 'it returns false'. Refute it at one input. -/
def arenaActsWrong : ChangeSpec := { name := "arenaActs", fn := fun _ => fun
  | [d1, d2] => { results := [.lit (.bool false)], args := [d1, d2] }
  | _ => none }
def ArenaActsWrongFalsely : Prop := arenaActsRow.holds Try.pinned (OpenSpec.ofChange arenaActsWrong)

/-- 'whispererlaw04.ArenaVacates': WHATEVER THE INPUT: true; the input reads as it did. -/
def arenaVacatesSpec : ChangeSpec := { name := "arenaVacates", fn := fun _ => fun
  | [d1, d2] => { results := [.lit (.bool true)], args := [d1, d2] }
  | _ => none }
def arenaVacatesRow : OpenClaim := { program := "ytghefhhgckafdaa", sum := "9c6652b25d1c796d67590b28c59ed980d64756bcd05c4a91be027f61b73521aa", func := "whisperer/whispererlaw04.ArenaVacates", spec := "arenaVacates", apart := false }
def ArenaVacatesSaid : Prop := arenaVacatesRow.holds Try.pinned (OpenSpec.ofChange arenaVacatesSpec)

/-- ITS FALSE NEIGHBOUR: 'it returns false'. Refute it at one input. -/
def arenaVacatesWrong : ChangeSpec := { name := "arenaVacates", fn := fun _ => fun
  | [d1, d2] => { results := [.lit (.bool false)], args := [d1, d2] }
  | _ => none }
def ArenaVacatesWrongFalsely : Prop := arenaVacatesRow.holds Try.pinned (OpenSpec.ofChange arenaVacatesWrong)

/-- 'whispererlaw04.ArenaNone': WHATEVER THE INPUT: true; the input reads as it did. -/
def arenaNoneSpec : ChangeSpec := { name := "arenaNone", fn := fun _ => fun
  | [d1, d2, d3] => { results := [.lit (.bool true)], args := [d1, d2, d3] }
  | _ => none }
def arenaNoneRow : OpenClaim := { program := "ytghefhhgckafdaa", sum := "9c6652b25d1c796d67590b28c59ed980d64756bcd05c4a91be027f61b73521aa", func := "whisperer/whispererlaw04.ArenaNone", spec := "arenaNone", apart := false }
def ArenaNoneSaid : Prop := arenaNoneRow.holds Try.pinned (OpenSpec.ofChange arenaNoneSpec)

/-- ITS FALSE NEIGHBOUR: 'it returns false'. Refute it at one input. -/
def arenaNoneWrong : ChangeSpec := { name := "arenaNone", fn := fun _ => fun
  | [d1, d2, d3] => { results := [.lit (.bool false)], args := [d1, d2, d3] }
  | _ => none }
def ArenaNoneWrongFalsely : Prop := arenaNoneRow.holds Try.pinned (OpenSpec.ofChange arenaNoneWrong)

/- THE SECOND FORM. 'bulk': how many values and letters a reading holds, each counted each time it is reached (what is shared counts as often as it is met; a slice's spare places count too). A statement '..UptoSaid' is the law's where the arguments, and the package variables that the reading takes, are together of bulk at most 1048576: NARROWER than '..Said'. Prove '..Said' where nothing that the law and all that it calls make is longer than what came in: it says more and counts as full. Else prove '..UptoSaid'. A law counts once. -/
mutual
def uptoBulk {H : Type} : DataW H → Nat
  | .lit (.string bytes) => bytes.length + 1
  | .lit _ => 1
  | .nil => 1
  | .ptr d => uptoBulk d + 1
  | .slice elems spare => uptoBulkAll elems + uptoBulkAll spare + 1
  | .agg parts => uptoBulkAll parts + 1
  | .iface _ d => uptoBulk d + 1
  | .map entries => uptoBulkEntries entries + 1
  | .held _ => 1
def uptoBulkAll {H : Type} : List (DataW H) → Nat
  | [] => 0
  | d :: r => uptoBulk d + uptoBulkAll r
def uptoBulkEntries {H : Type} : List (Lit × DataW H) → Nat
  | [] => 0
  | x :: r => uptoBulkEntry x + uptoBulkEntries r
def uptoBulkEntry {H : Type} : Lit × DataW H → Nat
  | (.string bytes, d) => bytes.length + uptoBulk d + 1
  | (_, d) => uptoBulk d + 1
 end
def uptoSmall : (H : Type) → List (DataW H) → Bool := fun _ ds => decide (uptoBulkAll ds ≤ 1048576)
def OpenSpec.upto (s : _root_.Go.ChangeSpec) : _root_.Go.OpenSpec := { _root_.Go.OpenSpec.ofChange s with cond := some uptoSmall }

/-- 'whispererlaw04.ArenaCopies', WHERE WHAT IT READS IS OF BULK AT MOST 1048576: true; the input reads as it did. -/
def arenaCopiesUptoRow : OpenClaim := { program := "ytghefhhgckafdaa", sum := "9c6652b25d1c796d67590b28c59ed980d64756bcd05c4a91be027f61b73521aa", func := "whisperer/whispererlaw04.ArenaCopies", spec := "arenaCopies", apart := false, narrowed := true }
def ArenaCopiesUptoSaid : Prop := arenaCopiesUptoRow.holds Try.pinned (OpenSpec.upto arenaCopiesSpec)

/-- 'whispererlaw04.ArenaParts', WHERE WHAT IT READS IS OF BULK AT MOST 1048576: true; the input reads as it did. -/
def arenaPartsUptoRow : OpenClaim := { program := "ytghefhhgckafdaa", sum := "9c6652b25d1c796d67590b28c59ed980d64756bcd05c4a91be027f61b73521aa", func := "whisperer/whispererlaw04.ArenaParts", spec := "arenaParts", apart := false, narrowed := true }
def ArenaPartsUptoSaid : Prop := arenaPartsUptoRow.holds Try.pinned (OpenSpec.upto arenaPartsSpec)

/-- 'whispererlaw04.ArenaMoves', WHERE WHAT IT READS IS OF BULK AT MOST 1048576: true; the input reads as it did. -/
def arenaMovesUptoRow : OpenClaim := { program := "ytghefhhgckafdaa", sum := "9c6652b25d1c796d67590b28c59ed980d64756bcd05c4a91be027f61b73521aa", func := "whisperer/whispererlaw04.ArenaMoves", spec := "arenaMoves", apart := false, narrowed := true }
def ArenaMovesUptoSaid : Prop := arenaMovesUptoRow.holds Try.pinned (OpenSpec.upto arenaMovesSpec)

/-- 'whispererlaw04.ArenaActs', WHERE WHAT IT READS IS OF BULK AT MOST 1048576: true; the input reads as it did. -/
def arenaActsUptoRow : OpenClaim := { program := "ytghefhhgckafdaa", sum := "9c6652b25d1c796d67590b28c59ed980d64756bcd05c4a91be027f61b73521aa", func := "whisperer/whispererlaw04.ArenaActs", spec := "arenaActs", apart := false, narrowed := true }
def ArenaActsUptoSaid : Prop := arenaActsUptoRow.holds Try.pinned (OpenSpec.upto arenaActsSpec)

/-- 'whispererlaw04.ArenaVacates', WHERE WHAT IT READS IS OF BULK AT MOST 1048576: true; the input reads as it did. -/
def arenaVacatesUptoRow : OpenClaim := { program := "ytghefhhgckafdaa", sum := "9c6652b25d1c796d67590b28c59ed980d64756bcd05c4a91be027f61b73521aa", func := "whisperer/whispererlaw04.ArenaVacates", spec := "arenaVacates", apart := false, narrowed := true }
def ArenaVacatesUptoSaid : Prop := arenaVacatesUptoRow.holds Try.pinned (OpenSpec.upto arenaVacatesSpec)

/-- 'whispererlaw04.ArenaNone', WHERE WHAT IT READS IS OF BULK AT MOST 1048576: true; the input reads as it did. -/
def arenaNoneUptoRow : OpenClaim := { program := "ytghefhhgckafdaa", sum := "9c6652b25d1c796d67590b28c59ed980d64756bcd05c4a91be027f61b73521aa", func := "whisperer/whispererlaw04.ArenaNone", spec := "arenaNone", apart := false, narrowed := true }
def ArenaNoneUptoSaid : Prop := arenaNoneUptoRow.holds Try.pinned (OpenSpec.upto arenaNoneSpec)

end Rows
end Go.Proofs.Ytghefhhgckafdaa
