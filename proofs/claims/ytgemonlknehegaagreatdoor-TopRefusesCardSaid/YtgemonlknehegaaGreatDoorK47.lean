/- The chain of TopRefuses, part 47. -/
import Derived.Test.YtgemonlknehegaaGreatDoorK46
namespace Go.Proofs.YtgemonlknehegaaGreatDoor.AI
open Go WB
set_option linter.unusedVariables false
set_option maxRecDepth 100000
noncomputable section
theorem w5_op1 (b2 b3 b4 b : Bool) (s : List UInt8) (c : Int) (m : Nat) : DT.fol (pE true b2 b3 b4 [y] b) (T5 s c m) = some (cErr true b2 b3 b4 s c [cOp s] 4 (qL s), .b false true) := by cases b2 <;> cases b3 <;> cases b4 <;> cases b <;> kernel_rfl
theorem w5_op0 (b2 b3 b4 b : Bool) (s : List UInt8) (c : Int) (m : Nat) : DT.fol (pE false b2 b3 b4 [y] b) (T5 s c m) = some (cErr false b2 b3 b4 s c [cOp s] 4 [], .b false true) := by cases b2 <;> cases b3 <;> cases b4 <;> cases b <;> kernel_rfl
end
end Go.Proofs.YtgemonlknehegaaGreatDoor.AI
