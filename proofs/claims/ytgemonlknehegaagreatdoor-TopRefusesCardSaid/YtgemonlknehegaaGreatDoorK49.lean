/- The chain of TopRefuses, part 49. -/
import Derived.Test.YtgemonlknehegaaGreatDoorK46
namespace Go.Proofs.YtgemonlknehegaaGreatDoor.AI
open Go WB
set_option linter.unusedVariables false
set_option maxRecDepth 100000
noncomputable section
theorem w5_t0 (b3 b4 b : Bool) (s : List UInt8) (c : Int) (m : Nat) : DT.fol (pE true false b3 b4 [n, n, n, y, y, n, y, y, y] b) (T5 s c m) = some (cErr true false b3 b4 s c ([cOp s, cQone s, !(hdS s).rd] ++ (d0 s ++ ([!decide (qC1 s = 1)] ++ (d0 s ++ [decide (qT1 s = 0)])))) 4 (qL s), .b false true) := by cases b3 <;> cases b4 <;> cases b <;> kernel_rfl
theorem w5_t8 (b3 b4 b : Bool) (s : List UInt8) (c : Int) (m : Nat) : DT.fol (pE true false b3 b4 [n, n, n, y, y, n, y, y, n, y, y, y] b) (T5 s c m) = some (cErr true false b3 b4 s c (W7 s) 4 (qL s), .b false true) := by cases b3 <;> cases b4 <;> cases b <;> kernel_rfl
def wOk : List WB := [n, n, n, y, y, n, y, y, n, y, y, n]
theorem w5_ok (b3 b4 : Bool) (s : List UInt8) (c : Int) (m : Nat) : DT.fol ([n, y, n, n, y, y] ++ (shp true false b3 b4 ++ (wOk ++ ([y, n, y, y, y, n, n, y, y] ++ (shp true false b3 b4 ++ (wOk ++ [y, n])))))) (T5 s c m) = some ([decide (600 < Int.ofNat s.length)] ++ (hd9 s ++ (W7 s ++ ([rkM true false b3 b4 s, decide (hst c = 1000)] ++ (d0 s ++ (hd9 s ++ (W7 s ++ [rkM true false b3 b4 s, decide ((1 : Int) = 0)])))))), .b false true) := by cases b3 <;> cases b4 <;> kernel_rfl
end
end Go.Proofs.YtgemonlknehegaaGreatDoor.AI
