/-
  No cell of these rows narrows 'for every input' (looked for: loops, veiled, ifaces, maps, wideKeys, modest, calm, conditions, laid).
  DERIVED. THE GIVEN ROWS OF THIS SEAT. 5 by the template 'for every input the law returns true; each argument reads behind the call as it read before'; 0 by the template 'total and deterministic' (their statements: YtfcblhdonmfnpaaTotals.lean).
  GIVEN WITH THE SEED: the statements are not yours to turn. If you find one false, say at which input.
  Laid BY PROGRAM, IN A SANDBOX (cutbox-rows.mjs): the forced cells as the released guide's own fill.sh prints them over the translation 8961781f5ed4790a… (all of the seat's roots in one cut). By AI agents, Wed Nov 11 2026. No macro, syntax, notation, axiom, sorry.
-/
import Derived.Test.YtfcblhdonmfnpaaChecked
import GoSem.Claim
import GoSem.ClaimJoined
import GoSem.ClaimMapViews
import Derived.JoinedTies
import Derived.KernelRfl
namespace Go.Proofs.Ytfcblhdonmfnpaa
/- THE CELL 'sum', in the pinned program and in every row, IS THE sha256 OF THE DUMP (.gsa) THAT YtfcblhdonmfnpaaProg.lean LOADS. Nothing in Lean hashes anything: it is a label: what it is worth is what the hold of that sum in a sandbox is worth. -/
noncomputable def Try.pinned : Pinned := { name := "ytfcblhdonmfnpaa", sum := "8961781f5ed4790a45782e79fbc6ce78793daa6b9fb75680bd383010b5388288", checked := Try.checked }
namespace Rows
def none {H : Type} : Left H := { results := [], args := [] }

/-- 'derricklaw01.OctetHalves': WHATEVER THE INPUT: true; the input reads as it did. -/
def octetHalvesSpec : ChangeSpec := { name := "octetHalves", fn := fun _ => fun
  | [d1, d2, d3, d4] => { results := [.lit (.bool true)], args := [d1, d2, d3, d4] }
  | _ => none }
def octetHalvesRow : OpenClaim := { program := "ytfcblhdonmfnpaa", sum := "8961781f5ed4790a45782e79fbc6ce78793daa6b9fb75680bd383010b5388288", func := "derrick/derricklaw01.OctetHalves", spec := "octetHalves", apart := false }
def OctetHalvesSaid : Prop := octetHalvesRow.holds Try.pinned (OpenSpec.ofChange octetHalvesSpec)

/-- ITS FALSE NEIGHBOUR: 'it returns false'. Refute it at one input. -/
def octetHalvesWrong : ChangeSpec := { name := "octetHalves", fn := fun _ => fun
  | [d1, d2, d3, d4] => { results := [.lit (.bool false)], args := [d1, d2, d3, d4] }
  | _ => none }
def OctetHalvesWrongFalsely : Prop := octetHalvesRow.holds Try.pinned (OpenSpec.ofChange octetHalvesWrong)

/-- 'derricklaw01.OctetEnds': WHATEVER THE INPUT: true; the input reads as it did. -/
def octetEndsSpec : ChangeSpec := { name := "octetEnds", fn := fun _ => fun
  | [d1, d2, d3] => { results := [.lit (.bool true)], args := [d1, d2, d3] }
  | _ => none }
def octetEndsRow : OpenClaim := { program := "ytfcblhdonmfnpaa", sum := "8961781f5ed4790a45782e79fbc6ce78793daa6b9fb75680bd383010b5388288", func := "derrick/derricklaw01.OctetEnds", spec := "octetEnds", apart := false }
def OctetEndsSaid : Prop := octetEndsRow.holds Try.pinned (OpenSpec.ofChange octetEndsSpec)

/-- ITS FALSE NEIGHBOUR: 'it returns false'. Refute it at one input. -/
def octetEndsWrong : ChangeSpec := { name := "octetEnds", fn := fun _ => fun
  | [d1, d2, d3] => { results := [.lit (.bool false)], args := [d1, d2, d3] }
  | _ => none }
def OctetEndsWrongFalsely : Prop := octetEndsRow.holds Try.pinned (OpenSpec.ofChange octetEndsWrong)

/-- 'derricklaw01.OctetOne': WHATEVER THE INPUT: true; the input reads as it did. -/
def octetOneSpec : ChangeSpec := { name := "octetOne", fn := fun _ => fun
  | [d1, d2] => { results := [.lit (.bool true)], args := [d1, d2] }
  | _ => none }
def octetOneRow : OpenClaim := { program := "ytfcblhdonmfnpaa", sum := "8961781f5ed4790a45782e79fbc6ce78793daa6b9fb75680bd383010b5388288", func := "derrick/derricklaw01.OctetOne", spec := "octetOne", apart := false }
def OctetOneSaid : Prop := octetOneRow.holds Try.pinned (OpenSpec.ofChange octetOneSpec)

/-- ITS FALSE NEIGHBOUR: 'it returns false'. Refute it at one input. -/
def octetOneWrong : ChangeSpec := { name := "octetOne", fn := fun _ => fun
  | [d1, d2] => { results := [.lit (.bool false)], args := [d1, d2] }
  | _ => none }
def OctetOneWrongFalsely : Prop := octetOneRow.holds Try.pinned (OpenSpec.ofChange octetOneWrong)

/-- 'derricklaw01.OctetTells': WHATEVER THE INPUT: true; the input reads as it did. -/
def octetTellsSpec : ChangeSpec := { name := "octetTells", fn := fun _ => fun
  | [d1, d2, d3, d4] => { results := [.lit (.bool true)], args := [d1, d2, d3, d4] }
  | _ => none }
def octetTellsRow : OpenClaim := { program := "ytfcblhdonmfnpaa", sum := "8961781f5ed4790a45782e79fbc6ce78793daa6b9fb75680bd383010b5388288", func := "derrick/derricklaw01.OctetTells", spec := "octetTells", apart := false }
def OctetTellsSaid : Prop := octetTellsRow.holds Try.pinned (OpenSpec.ofChange octetTellsSpec)

/-- ITS FALSE NEIGHBOUR: 'it returns false'. Refute it at one input. -/
def octetTellsWrong : ChangeSpec := { name := "octetTells", fn := fun _ => fun
  | [d1, d2, d3, d4] => { results := [.lit (.bool false)], args := [d1, d2, d3, d4] }
  | _ => none }
def OctetTellsWrongFalsely : Prop := octetTellsRow.holds Try.pinned (OpenSpec.ofChange octetTellsWrong)

/-- 'derricklaw01.OctetBack': WHATEVER THE INPUT: true; the input reads as it did. -/
def octetBackSpec : ChangeSpec := { name := "octetBack", fn := fun _ => fun
  | [d1, d2, d3] => { results := [.lit (.bool true)], args := [d1, d2, d3] }
  | _ => none }
def octetBackRow : OpenClaim := { program := "ytfcblhdonmfnpaa", sum := "8961781f5ed4790a45782e79fbc6ce78793daa6b9fb75680bd383010b5388288", func := "derrick/derricklaw01.OctetBack", spec := "octetBack", apart := false }
def OctetBackSaid : Prop := octetBackRow.holds Try.pinned (OpenSpec.ofChange octetBackSpec)

/-- ITS FALSE NEIGHBOUR: 'it returns false'. Refute it at one input. -/
def octetBackWrong : ChangeSpec := { name := "octetBack", fn := fun _ => fun
  | [d1, d2, d3] => { results := [.lit (.bool false)], args := [d1, d2, d3] }
  | _ => none }
def OctetBackWrongFalsely : Prop := octetBackRow.holds Try.pinned (OpenSpec.ofChange octetBackWrong)

/- THE SECOND FORM. 'bulk': how many values and letters a reading holds, each counted each time it is reached (what is shared counts as often as it is met; a slice's spare places count too). A statement '..UptoSaid' is the law's where the arguments, and the package variables that the reading takes, are together of bulk at most 1048576: NARROWER than '..Said'. Prove '..Said' where nothing that the law and all that it calls make is longer than what came in: it says more and counts as full. Else prove '..UptoSaid'. A law counts once. -/
mutual
def uptoBulk {H : Type} : DataW H → Nat
  | .lit (.string bytes) => bytes.length + 1
  | .lit _ => 1
  | .nil => 1
  | .ptr d => uptoBulk d + 1
  | .slice elems spare => uptoBulkAll elems + uptoBulkAll spare + 1
  | .agg parts => uptoBulkAll parts + 1
  | .iface _ d => uptoBulk d + 1
  | .map entries => uptoBulkEntries entries + 1
  | .held _ => 1
def uptoBulkAll {H : Type} : List (DataW H) → Nat
  | [] => 0
  | d :: r => uptoBulk d + uptoBulkAll r
def uptoBulkEntries {H : Type} : List (Lit × DataW H) → Nat
  | [] => 0
  | x :: r => uptoBulkEntry x + uptoBulkEntries r
def uptoBulkEntry {H : Type} : Lit × DataW H → Nat
  | (.string bytes, d) => bytes.length + uptoBulk d + 1
  | (_, d) => uptoBulk d + 1
 end
def uptoSmall : (H : Type) → List (DataW H) → Bool := fun _ ds => decide (uptoBulkAll ds ≤ 1048576)
def OpenSpec.upto (s : _root_.Go.ChangeSpec) : _root_.Go.OpenSpec := { _root_.Go.OpenSpec.ofChange s with cond := some uptoSmall }

/-- 'derricklaw01.OctetHalves', WHERE WHAT IT READS IS OF BULK AT MOST 1048576: true; the input reads as it did. -/
def octetHalvesUptoRow : OpenClaim := { program := "ytfcblhdonmfnpaa", sum := "8961781f5ed4790a45782e79fbc6ce78793daa6b9fb75680bd383010b5388288", func := "derrick/derricklaw01.OctetHalves", spec := "octetHalves", apart := false, narrowed := true }
def OctetHalvesUptoSaid : Prop := octetHalvesUptoRow.holds Try.pinned (OpenSpec.upto octetHalvesSpec)

/-- 'derricklaw01.OctetEnds', WHERE WHAT IT READS IS OF BULK AT MOST 1048576: true; the input reads as it did. -/
def octetEndsUptoRow : OpenClaim := { program := "ytfcblhdonmfnpaa", sum := "8961781f5ed4790a45782e79fbc6ce78793daa6b9fb75680bd383010b5388288", func := "derrick/derricklaw01.OctetEnds", spec := "octetEnds", apart := false, narrowed := true }
def OctetEndsUptoSaid : Prop := octetEndsUptoRow.holds Try.pinned (OpenSpec.upto octetEndsSpec)

/-- 'derricklaw01.OctetOne', WHERE WHAT IT READS IS OF BULK AT MOST 1048576: true; the input reads as it did. -/
def octetOneUptoRow : OpenClaim := { program := "ytfcblhdonmfnpaa", sum := "8961781f5ed4790a45782e79fbc6ce78793daa6b9fb75680bd383010b5388288", func := "derrick/derricklaw01.OctetOne", spec := "octetOne", apart := false, narrowed := true }
def OctetOneUptoSaid : Prop := octetOneUptoRow.holds Try.pinned (OpenSpec.upto octetOneSpec)

/-- 'derricklaw01.OctetTells', WHERE WHAT IT READS IS OF BULK AT MOST 1048576: true; the input reads as it did. -/
def octetTellsUptoRow : OpenClaim := { program := "ytfcblhdonmfnpaa", sum := "8961781f5ed4790a45782e79fbc6ce78793daa6b9fb75680bd383010b5388288", func := "derrick/derricklaw01.OctetTells", spec := "octetTells", apart := false, narrowed := true }
def OctetTellsUptoSaid : Prop := octetTellsUptoRow.holds Try.pinned (OpenSpec.upto octetTellsSpec)

/-- 'derricklaw01.OctetBack', WHERE WHAT IT READS IS OF BULK AT MOST 1048576: true; the input reads as it did. -/
def octetBackUptoRow : OpenClaim := { program := "ytfcblhdonmfnpaa", sum := "8961781f5ed4790a45782e79fbc6ce78793daa6b9fb75680bd383010b5388288", func := "derrick/derricklaw01.OctetBack", spec := "octetBack", apart := false, narrowed := true }
def OctetBackUptoSaid : Prop := octetBackUptoRow.holds Try.pinned (OpenSpec.upto octetBackSpec)

end Rows
end Go.Proofs.Ytfcblhdonmfnpaa
