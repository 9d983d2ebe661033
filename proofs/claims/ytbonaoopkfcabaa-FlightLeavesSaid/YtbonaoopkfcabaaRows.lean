/-
  No cell of these rows narrows 'for every input' (looked for: loops, veiled, ifaces, maps, wideKeys, modest, calm, conditions, laid).
  DERIVED. THE GIVEN ROWS OF THIS SEAT. 5 by the template 'for every input the law returns true; each argument reads behind the call as it read before'; 0 by the template 'total and deterministic' (their statements: YtbonaoopkfcabaaTotals.lean).
  GIVEN WITH THE SEED: the statements are not yours to turn. If you find one false, say at which input.
  Laid BY PROGRAM, IN A SANDBOX (cutbox-rows.mjs): the forced cells as the released guide's own fill.sh prints them over the translation cf33cf0a1ef1eb0e… (all of the seat's roots in one cut). By AI agents, Wed Nov 11 2026. No macro, syntax, notation, axiom, sorry.
-/
import Derived.Test.YtbonaoopkfcabaaChecked
import GoSem.Claim
import GoSem.ClaimJoined
import GoSem.ClaimMapViews
import Derived.JoinedTies
import Derived.KernelRfl
namespace Go.Proofs.Ytbonaoopkfcabaa
/- THE CELL 'sum', in the pinned program and in every row, IS THE sha256 OF THE DUMP (.gsa) THAT YtbonaoopkfcabaaProg.lean LOADS. Nothing in Lean hashes anything: it is a label: what it is worth is what the hold of that sum in a sandbox is worth. -/
noncomputable def Try.pinned : Pinned := { name := "ytbonaoopkfcabaa", sum := "cf33cf0a1ef1eb0eaf8ece2faac3b1451965d9346c913e400c588ff4daf52392", checked := Try.checked }
namespace Rows
def none {H : Type} : Left H := { results := [], args := [] }

/-- 'derricklaw16.FlightTold': WHATEVER THE INPUT: true; the input reads as it did. -/
def flightToldSpec : ChangeSpec := { name := "flightTold", fn := fun _ => fun
  | [d1, d2] => { results := [.lit (.bool true)], args := [d1, d2] }
  | _ => none }
def flightToldRow : OpenClaim := { program := "ytbonaoopkfcabaa", sum := "cf33cf0a1ef1eb0eaf8ece2faac3b1451965d9346c913e400c588ff4daf52392", func := "derrick/derricklaw16.FlightTold", spec := "flightTold", apart := false }
def FlightToldSaid : Prop := flightToldRow.holds Try.pinned (OpenSpec.ofChange flightToldSpec)

/-- ITS FALSE NEIGHBOUR: 'it returns false'. Refute it at one input. -/
def flightToldWrong : ChangeSpec := { name := "flightTold", fn := fun _ => fun
  | [d1, d2] => { results := [.lit (.bool false)], args := [d1, d2] }
  | _ => none }
def FlightToldWrongFalsely : Prop := flightToldRow.holds Try.pinned (OpenSpec.ofChange flightToldWrong)

/-- 'derricklaw16.FlightLeaves': WHATEVER THE INPUT: true; the input reads as it did. -/
def flightLeavesSpec : ChangeSpec := { name := "flightLeaves", fn := fun _ => fun
  | [d1, d2, d3] => { results := [.lit (.bool true)], args := [d1, d2, d3] }
  | _ => none }
def flightLeavesRow : OpenClaim := { program := "ytbonaoopkfcabaa", sum := "cf33cf0a1ef1eb0eaf8ece2faac3b1451965d9346c913e400c588ff4daf52392", func := "derrick/derricklaw16.FlightLeaves", spec := "flightLeaves", apart := false }
def FlightLeavesSaid : Prop := flightLeavesRow.holds Try.pinned (OpenSpec.ofChange flightLeavesSpec)

/-- ITS FALSE NEIGHBOUR: 'it returns false'. Refute it at one input. -/
def flightLeavesWrong : ChangeSpec := { name := "flightLeaves", fn := fun _ => fun
  | [d1, d2, d3] => { results := [.lit (.bool false)], args := [d1, d2, d3] }
  | _ => none }
def FlightLeavesWrongFalsely : Prop := flightLeavesRow.holds Try.pinned (OpenSpec.ofChange flightLeavesWrong)

/-- 'derricklaw16.FlightPlays': WHATEVER THE INPUT: true; the input reads as it did. -/
def flightPlaysSpec : ChangeSpec := { name := "flightPlays", fn := fun _ => fun
  | [d1, d2, d3] => { results := [.lit (.bool true)], args := [d1, d2, d3] }
  | _ => none }
def flightPlaysRow : OpenClaim := { program := "ytbonaoopkfcabaa", sum := "cf33cf0a1ef1eb0eaf8ece2faac3b1451965d9346c913e400c588ff4daf52392", func := "derrick/derricklaw16.FlightPlays", spec := "flightPlays", apart := false }
def FlightPlaysSaid : Prop := flightPlaysRow.holds Try.pinned (OpenSpec.ofChange flightPlaysSpec)

/-- ITS FALSE NEIGHBOUR: 'it returns false'. Refute it at one input. -/
def flightPlaysWrong : ChangeSpec := { name := "flightPlays", fn := fun _ => fun
  | [d1, d2, d3] => { results := [.lit (.bool false)], args := [d1, d2, d3] }
  | _ => none }
def FlightPlaysWrongFalsely : Prop := flightPlaysRow.holds Try.pinned (OpenSpec.ofChange flightPlaysWrong)

/-- 'derricklaw16.FlightBounds': WHATEVER THE INPUT: true; the input reads as it did. -/
def flightBoundsSpec : ChangeSpec := { name := "flightBounds", fn := fun _ => fun
  | [d1, d2] => { results := [.lit (.bool true)], args := [d1, d2] }
  | _ => none }
def flightBoundsRow : OpenClaim := { program := "ytbonaoopkfcabaa", sum := "cf33cf0a1ef1eb0eaf8ece2faac3b1451965d9346c913e400c588ff4daf52392", func := "derrick/derricklaw16.FlightBounds", spec := "flightBounds", apart := false }
def FlightBoundsSaid : Prop := flightBoundsRow.holds Try.pinned (OpenSpec.ofChange flightBoundsSpec)

/-- ITS FALSE NEIGHBOUR: 'it returns false'. Refute it at one input. -/
def flightBoundsWrong : ChangeSpec := { name := "flightBounds", fn := fun _ => fun
  | [d1, d2] => { results := [.lit (.bool false)], args := [d1, d2] }
  | _ => none }
def FlightBoundsWrongFalsely : Prop := flightBoundsRow.holds Try.pinned (OpenSpec.ofChange flightBoundsWrong)

/-- 'derricklaw16.FlightNobody': WHATEVER THE INPUT: true; the input reads as it did. -/
def flightNobodySpec : ChangeSpec := { name := "flightNobody", fn := fun _ => fun
  | [d1, d2] => { results := [.lit (.bool true)], args := [d1, d2] }
  | _ => none }
def flightNobodyRow : OpenClaim := { program := "ytbonaoopkfcabaa", sum := "cf33cf0a1ef1eb0eaf8ece2faac3b1451965d9346c913e400c588ff4daf52392", func := "derrick/derricklaw16.FlightNobody", spec := "flightNobody", apart := false }
def FlightNobodySaid : Prop := flightNobodyRow.holds Try.pinned (OpenSpec.ofChange flightNobodySpec)

/-- ITS FALSE NEIGHBOUR: 'it returns false'. Refute it at one input. -/
def flightNobodyWrong : ChangeSpec := { name := "flightNobody", fn := fun _ => fun
  | [d1, d2] => { results := [.lit (.bool false)], args := [d1, d2] }
  | _ => none }
def FlightNobodyWrongFalsely : Prop := flightNobodyRow.holds Try.pinned (OpenSpec.ofChange flightNobodyWrong)

/- THE SECOND FORM. 'bulk': how many values and letters a reading holds, each counted each time it is reached (what is shared counts as often as it is met; a slice's spare places count too). A statement '..UptoSaid' is the law's where the arguments, and the package variables that the reading takes, are together of bulk at most 1048576: NARROWER than '..Said'. Prove '..Said' where nothing that the law and all that it calls make is longer than what came in: it says more and counts as full. Else prove '..UptoSaid'. A law counts once. -/
mutual
def uptoBulk {H : Type} : DataW H → Nat
  | .lit (.string bytes) => bytes.length + 1
  | .lit _ => 1
  | .nil => 1
  | .ptr d => uptoBulk d + 1
  | .slice elems spare => uptoBulkAll elems + uptoBulkAll spare + 1
  | .agg parts => uptoBulkAll parts + 1
  | .iface _ d => uptoBulk d + 1
  | .map entries => uptoBulkEntries entries + 1
  | .held _ => 1
def uptoBulkAll {H : Type} : List (DataW H) → Nat
  | [] => 0
  | d :: r => uptoBulk d + uptoBulkAll r
def uptoBulkEntries {H : Type} : List (Lit × DataW H) → Nat
  | [] => 0
  | x :: r => uptoBulkEntry x + uptoBulkEntries r
def uptoBulkEntry {H : Type} : Lit × DataW H → Nat
  | (.string bytes, d) => bytes.length + uptoBulk d + 1
  | (_, d) => uptoBulk d + 1
 end
def uptoSmall : (H : Type) → List (DataW H) → Bool := fun _ ds => decide (uptoBulkAll ds ≤ 1048576)
def OpenSpec.upto (s : _root_.Go.ChangeSpec) : _root_.Go.OpenSpec := { _root_.Go.OpenSpec.ofChange s with cond := some uptoSmall }

/-- 'derricklaw16.FlightTold', WHERE WHAT IT READS IS OF BULK AT MOST 1048576: true; the input reads as it did. -/
def flightToldUptoRow : OpenClaim := { program := "ytbonaoopkfcabaa", sum := "cf33cf0a1ef1eb0eaf8ece2faac3b1451965d9346c913e400c588ff4daf52392", func := "derrick/derricklaw16.FlightTold", spec := "flightTold", apart := false, narrowed := true }
def FlightToldUptoSaid : Prop := flightToldUptoRow.holds Try.pinned (OpenSpec.upto flightToldSpec)

/-- 'derricklaw16.FlightLeaves', WHERE WHAT IT READS IS OF BULK AT MOST 1048576: true; the input reads as it did. -/
def flightLeavesUptoRow : OpenClaim := { program := "ytbonaoopkfcabaa", sum := "cf33cf0a1ef1eb0eaf8ece2faac3b1451965d9346c913e400c588ff4daf52392", func := "derrick/derricklaw16.FlightLeaves", spec := "flightLeaves", apart := false, narrowed := true }
def FlightLeavesUptoSaid : Prop := flightLeavesUptoRow.holds Try.pinned (OpenSpec.upto flightLeavesSpec)

/-- 'derricklaw16.FlightPlays', WHERE WHAT IT READS IS OF BULK AT MOST 1048576: true; the input reads as it did. -/
def flightPlaysUptoRow : OpenClaim := { program := "ytbonaoopkfcabaa", sum := "cf33cf0a1ef1eb0eaf8ece2faac3b1451965d9346c913e400c588ff4daf52392", func := "derrick/derricklaw16.FlightPlays", spec := "flightPlays", apart := false, narrowed := true }
def FlightPlaysUptoSaid : Prop := flightPlaysUptoRow.holds Try.pinned (OpenSpec.upto flightPlaysSpec)

/-- 'derricklaw16.FlightBounds', WHERE WHAT IT READS IS OF BULK AT MOST 1048576: true; the input reads as it did. -/
def flightBoundsUptoRow : OpenClaim := { program := "ytbonaoopkfcabaa", sum := "cf33cf0a1ef1eb0eaf8ece2faac3b1451965d9346c913e400c588ff4daf52392", func := "derrick/derricklaw16.FlightBounds", spec := "flightBounds", apart := false, narrowed := true }
def FlightBoundsUptoSaid : Prop := flightBoundsUptoRow.holds Try.pinned (OpenSpec.upto flightBoundsSpec)

/-- 'derricklaw16.FlightNobody', WHERE WHAT IT READS IS OF BULK AT MOST 1048576: true; the input reads as it did. -/
def flightNobodyUptoRow : OpenClaim := { program := "ytbonaoopkfcabaa", sum := "cf33cf0a1ef1eb0eaf8ece2faac3b1451965d9346c913e400c588ff4daf52392", func := "derrick/derricklaw16.FlightNobody", spec := "flightNobody", apart := false, narrowed := true }
def FlightNobodyUptoSaid : Prop := flightNobodyUptoRow.holds Try.pinned (OpenSpec.upto flightNobodySpec)

end Rows
end Go.Proofs.Ytbonaoopkfcabaa
