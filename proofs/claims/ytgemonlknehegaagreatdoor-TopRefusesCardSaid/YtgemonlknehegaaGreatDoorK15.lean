/- The chain of TopRefuses, part 15. -/
import Derived.Test.YtgemonlknehegaaGreatDoorK14
import Derived.KernelRfl
namespace Go.Proofs.YtgemonlknehegaaGreatDoor.AI
open Go
set_option maxRecDepth 1000000
theorem piece2 : allE (okTo st2) (iterK rL 2 st0.t [] st0.h) = true := by kernel_rfl
theorem piece3 : allE (okTo st3) (iterK rL 1 st2.t [] st2.h) = true := by kernel_rfl
end Go.Proofs.YtgemonlknehegaaGreatDoor.AI
