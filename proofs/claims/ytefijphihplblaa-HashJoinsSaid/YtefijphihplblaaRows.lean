/-
  No cell of these rows narrows 'for every input' (looked for: loops, veiled, ifaces, maps, wideKeys, modest, calm, conditions, laid).
  DERIVED. THE GIVEN ROWS OF THIS SEAT. 5 by the template 'for every input the law returns true; each argument reads behind the call as it read before'; 0 by the template 'total and deterministic' (their statements: YtefijphihplblaaTotals.lean).
  GIVEN WITH THE SEED: the statements are not yours to turn. If you find one false, say at which input.
  Laid BY PROGRAM, IN A SANDBOX (cutbox-rows.mjs): the forced cells as the released guide's own fill.sh prints them over the translation 42f259f254e4eacc… (all of the seat's roots in one cut). By AI agents, Wed Nov 11 2026. No macro, syntax, notation, axiom, sorry.
-/
import Derived.Test.YtefijphihplblaaChecked
import GoSem.Claim
import GoSem.ClaimJoined
import GoSem.ClaimMapViews
import Derived.JoinedTies
import Derived.KernelRfl
namespace Go.Proofs.Ytefijphihplblaa
/- THE CELL 'sum', in the pinned program and in every row, IS THE sha256 OF THE DUMP (.gsa) THAT YtefijphihplblaaProg.lean LOADS. Nothing in Lean hashes anything: it is a label: what it is worth is what the hold of that sum in a sandbox is worth. -/
noncomputable def Try.pinned : Pinned := { name := "ytefijphihplblaa", sum := "42f259f254e4eaccf08adebfc92d89be56ef4c598bc9837ca19ebeb0fc64ff49", checked := Try.checked }
namespace Rows
def none {H : Type} : Left H := { results := [], args := [] }

/-- 'derricklaw09.HashSteps': WHATEVER THE INPUT: true; the input reads as it did. -/
def hashStepsSpec : ChangeSpec := { name := "hashSteps", fn := fun _ => fun
  | [d1, d2] => { results := [.lit (.bool true)], args := [d1, d2] }
  | _ => none }
def hashStepsRow : OpenClaim := { program := "ytefijphihplblaa", sum := "42f259f254e4eaccf08adebfc92d89be56ef4c598bc9837ca19ebeb0fc64ff49", func := "derrick/derricklaw09.HashSteps", spec := "hashSteps", apart := false }
def HashStepsSaid : Prop := hashStepsRow.holds Try.pinned (OpenSpec.ofChange hashStepsSpec)

/-- ITS FALSE NEIGHBOUR: 'it returns false'. Refute it at one input. -/
def hashStepsWrong : ChangeSpec := { name := "hashSteps", fn := fun _ => fun
  | [d1, d2] => { results := [.lit (.bool false)], args := [d1, d2] }
  | _ => none }
def HashStepsWrongFalsely : Prop := hashStepsRow.holds Try.pinned (OpenSpec.ofChange hashStepsWrong)

/-- 'derricklaw09.HashKeys': WHATEVER THE INPUT: true; the input reads as it did. -/
def hashKeysSpec : ChangeSpec := { name := "hashKeys", fn := fun _ => fun
  | [d1, d2] => { results := [.lit (.bool true)], args := [d1, d2] }
  | _ => none }
def hashKeysRow : OpenClaim := { program := "ytefijphihplblaa", sum := "42f259f254e4eaccf08adebfc92d89be56ef4c598bc9837ca19ebeb0fc64ff49", func := "derrick/derricklaw09.HashKeys", spec := "hashKeys", apart := false }
def HashKeysSaid : Prop := hashKeysRow.holds Try.pinned (OpenSpec.ofChange hashKeysSpec)

/-- ITS FALSE NEIGHBOUR: 'it returns false'. Refute it at one input. -/
def hashKeysWrong : ChangeSpec := { name := "hashKeys", fn := fun _ => fun
  | [d1, d2] => { results := [.lit (.bool false)], args := [d1, d2] }
  | _ => none }
def HashKeysWrongFalsely : Prop := hashKeysRow.holds Try.pinned (OpenSpec.ofChange hashKeysWrong)

/-- 'derricklaw09.HashTells': WHATEVER THE INPUT: true; the input reads as it did. -/
def hashTellsSpec : ChangeSpec := { name := "hashTells", fn := fun _ => fun
  | [d1, d2, d3, d4] => { results := [.lit (.bool true)], args := [d1, d2, d3, d4] }
  | _ => none }
def hashTellsRow : OpenClaim := { program := "ytefijphihplblaa", sum := "42f259f254e4eaccf08adebfc92d89be56ef4c598bc9837ca19ebeb0fc64ff49", func := "derrick/derricklaw09.HashTells", spec := "hashTells", apart := false }
def HashTellsSaid : Prop := hashTellsRow.holds Try.pinned (OpenSpec.ofChange hashTellsSpec)

/-- ITS FALSE NEIGHBOUR: 'it returns false'. Refute it at one input. -/
def hashTellsWrong : ChangeSpec := { name := "hashTells", fn := fun _ => fun
  | [d1, d2, d3, d4] => { results := [.lit (.bool false)], args := [d1, d2, d3, d4] }
  | _ => none }
def HashTellsWrongFalsely : Prop := hashTellsRow.holds Try.pinned (OpenSpec.ofChange hashTellsWrong)

/-- 'derricklaw09.HashSpreads': WHATEVER THE INPUT: true; the input reads as it did. -/
def hashSpreadsSpec : ChangeSpec := { name := "hashSpreads", fn := fun _ => fun
  | [d1, d2] => { results := [.lit (.bool true)], args := [d1, d2] }
  | _ => none }
def hashSpreadsRow : OpenClaim := { program := "ytefijphihplblaa", sum := "42f259f254e4eaccf08adebfc92d89be56ef4c598bc9837ca19ebeb0fc64ff49", func := "derrick/derricklaw09.HashSpreads", spec := "hashSpreads", apart := false }
def HashSpreadsSaid : Prop := hashSpreadsRow.holds Try.pinned (OpenSpec.ofChange hashSpreadsSpec)

/-- ITS FALSE NEIGHBOUR: 'it returns false'. Refute it at one input. -/
def hashSpreadsWrong : ChangeSpec := { name := "hashSpreads", fn := fun _ => fun
  | [d1, d2] => { results := [.lit (.bool false)], args := [d1, d2] }
  | _ => none }
def HashSpreadsWrongFalsely : Prop := hashSpreadsRow.holds Try.pinned (OpenSpec.ofChange hashSpreadsWrong)

/-- 'derricklaw09.HashJoins': WHATEVER THE INPUT: true; the input reads as it did. -/
def hashJoinsSpec : ChangeSpec := { name := "hashJoins", fn := fun _ => fun
  | [d1, d2, d3] => { results := [.lit (.bool true)], args := [d1, d2, d3] }
  | _ => none }
def hashJoinsRow : OpenClaim := { program := "ytefijphihplblaa", sum := "42f259f254e4eaccf08adebfc92d89be56ef4c598bc9837ca19ebeb0fc64ff49", func := "derrick/derricklaw09.HashJoins", spec := "hashJoins", apart := false }
def HashJoinsSaid : Prop := hashJoinsRow.holds Try.pinned (OpenSpec.ofChange hashJoinsSpec)

/-- ITS FALSE NEIGHBOUR: 'it returns false'. Refute it at one input. -/
def hashJoinsWrong : ChangeSpec := { name := "hashJoins", fn := fun _ => fun
  | [d1, d2, d3] => { results := [.lit (.bool false)], args := [d1, d2, d3] }
  | _ => none }
def HashJoinsWrongFalsely : Prop := hashJoinsRow.holds Try.pinned (OpenSpec.ofChange hashJoinsWrong)

/- THE SECOND FORM. 'bulk': how many values and letters a reading holds, each counted each time it is reached (what is shared counts as often as it is met; a slice's spare places count too). A statement '..UptoSaid' is the law's where the arguments, and the package variables that the reading takes, are together of bulk at most 1048576: NARROWER than '..Said'. Prove '..Said' where nothing that the law and all that it calls make is longer than what came in: it says more and counts as full. Else prove '..UptoSaid'. A law counts once. -/
mutual
def uptoBulk {H : Type} : DataW H → Nat
  | .lit (.string bytes) => bytes.length + 1
  | .lit _ => 1
  | .nil => 1
  | .ptr d => uptoBulk d + 1
  | .slice elems spare => uptoBulkAll elems + uptoBulkAll spare + 1
  | .agg parts => uptoBulkAll parts + 1
  | .iface _ d => uptoBulk d + 1
  | .map entries => uptoBulkEntries entries + 1
  | .held _ => 1
def uptoBulkAll {H : Type} : List (DataW H) → Nat
  | [] => 0
  | d :: r => uptoBulk d + uptoBulkAll r
def uptoBulkEntries {H : Type} : List (Lit × DataW H) → Nat
  | [] => 0
  | x :: r => uptoBulkEntry x + uptoBulkEntries r
def uptoBulkEntry {H : Type} : Lit × DataW H → Nat
  | (.string bytes, d) => bytes.length + uptoBulk d + 1
  | (_, d) => uptoBulk d + 1
 end
def uptoSmall : (H : Type) → List (DataW H) → Bool := fun _ ds => decide (uptoBulkAll ds ≤ 1048576)
def OpenSpec.upto (s : _root_.Go.ChangeSpec) : _root_.Go.OpenSpec := { _root_.Go.OpenSpec.ofChange s with cond := some uptoSmall }

/-- 'derricklaw09.HashSteps', WHERE WHAT IT READS IS OF BULK AT MOST 1048576: true; the input reads as it did. -/
def hashStepsUptoRow : OpenClaim := { program := "ytefijphihplblaa", sum := "42f259f254e4eaccf08adebfc92d89be56ef4c598bc9837ca19ebeb0fc64ff49", func := "derrick/derricklaw09.HashSteps", spec := "hashSteps", apart := false, narrowed := true }
def HashStepsUptoSaid : Prop := hashStepsUptoRow.holds Try.pinned (OpenSpec.upto hashStepsSpec)

/-- 'derricklaw09.HashKeys', WHERE WHAT IT READS IS OF BULK AT MOST 1048576: true; the input reads as it did. -/
def hashKeysUptoRow : OpenClaim := { program := "ytefijphihplblaa", sum := "42f259f254e4eaccf08adebfc92d89be56ef4c598bc9837ca19ebeb0fc64ff49", func := "derrick/derricklaw09.HashKeys", spec := "hashKeys", apart := false, narrowed := true }
def HashKeysUptoSaid : Prop := hashKeysUptoRow.holds Try.pinned (OpenSpec.upto hashKeysSpec)

/-- 'derricklaw09.HashTells', WHERE WHAT IT READS IS OF BULK AT MOST 1048576: true; the input reads as it did. -/
def hashTellsUptoRow : OpenClaim := { program := "ytefijphihplblaa", sum := "42f259f254e4eaccf08adebfc92d89be56ef4c598bc9837ca19ebeb0fc64ff49", func := "derrick/derricklaw09.HashTells", spec := "hashTells", apart := false, narrowed := true }
def HashTellsUptoSaid : Prop := hashTellsUptoRow.holds Try.pinned (OpenSpec.upto hashTellsSpec)

/-- 'derricklaw09.HashSpreads', WHERE WHAT IT READS IS OF BULK AT MOST 1048576: true; the input reads as it did. -/
def hashSpreadsUptoRow : OpenClaim := { program := "ytefijphihplblaa", sum := "42f259f254e4eaccf08adebfc92d89be56ef4c598bc9837ca19ebeb0fc64ff49", func := "derrick/derricklaw09.HashSpreads", spec := "hashSpreads", apart := false, narrowed := true }
def HashSpreadsUptoSaid : Prop := hashSpreadsUptoRow.holds Try.pinned (OpenSpec.upto hashSpreadsSpec)

/-- 'derricklaw09.HashJoins', WHERE WHAT IT READS IS OF BULK AT MOST 1048576: true; the input reads as it did. -/
def hashJoinsUptoRow : OpenClaim := { program := "ytefijphihplblaa", sum := "42f259f254e4eaccf08adebfc92d89be56ef4c598bc9837ca19ebeb0fc64ff49", func := "derrick/derricklaw09.HashJoins", spec := "hashJoins", apart := false, narrowed := true }
def HashJoinsUptoSaid : Prop := hashJoinsUptoRow.holds Try.pinned (OpenSpec.upto hashJoinsSpec)

end Rows
end Go.Proofs.Ytefijphihplblaa
