/- The chain of TopRefuses, part 48. -/
import Derived.Test.YtgemonlknehegaaGreatDoorK46
namespace Go.Proofs.YtgemonlknehegaaGreatDoor.AI
open Go WB
set_option linter.unusedVariables false
set_option maxRecDepth 100000
noncomputable section
theorem w5_q (b2 b3 b4 b : Bool) (s : List UInt8) (c : Int) (m : Nat) : DT.fol (pE true b2 b3 b4 [n, y] b) (T5 s c m) = some (cErr true b2 b3 b4 s c [cOp s, cQone s] 1 (qL s), .b false true) := by cases b2 <;> cases b3 <;> cases b4 <;> cases b <;> kernel_rfl
theorem w5_an (b3 b4 b : Bool) (s : List UInt8) (c : Int) (m : Nat) : DT.fol (pE true true b3 b4 [n, n, y] b) (T5 s c m) = some (cErr true true b3 b4 s c [cOp s, cQone s, decide (0 < Int.ofNat (oA s).2.1.length)] 1 (qL s), .b false true) := by cases b3 <;> cases b4 <;> cases b <;> kernel_rfl
theorem w5_cl (b3 b4 b : Bool) (s : List UInt8) (c : Int) (m : Nat) : DT.fol (pE true false b3 b4 [n, n, n, y, y, y] b) (T5 s c m) = some (cErr true false b3 b4 s c ([cOp s, cQone s, !(hdS s).rd] ++ (d0 s ++ [!decide (qC1 s = 1)])) 5 (qL s), .b false true) := by cases b3 <;> cases b4 <;> cases b <;> kernel_rfl
end
end Go.Proofs.YtgemonlknehegaaGreatDoor.AI
