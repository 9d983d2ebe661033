/- The chain of TopRefuses, part 20. -/
import Derived.Test.YtgemonlknehegaaGreatDoorK14
import Derived.KernelRfl
namespace Go.Proofs.YtgemonlknehegaaGreatDoor.AI
open Go
set_option maxRecDepth 1000000
theorem piece86 : allE (okTo st86) (iterK rL 20 st66.t [] st66.h) = true := by kernel_rfl
theorem piece100 : allE (okTo st100) (iterK rL 14 st86.t [] st86.h) = true := by kernel_rfl
theorem pieceE : allE (okEnd 4 stE) (rL st100.t [] st100.h) = true := by kernel_rfl
end Go.Proofs.YtgemonlknehegaaGreatDoor.AI
