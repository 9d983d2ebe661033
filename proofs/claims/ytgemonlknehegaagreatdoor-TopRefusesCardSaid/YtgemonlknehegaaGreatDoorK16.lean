/- The chain of TopRefuses, part 16. -/
import Derived.Test.YtgemonlknehegaaGreatDoorK14
import Derived.KernelRfl
namespace Go.Proofs.YtgemonlknehegaaGreatDoor.AI
open Go
set_option maxRecDepth 1000000
theorem piece4 : allE (okTo st4) (iterK rL 1 st3.t [] st3.h) = true := by kernel_rfl
end Go.Proofs.YtgemonlknehegaaGreatDoor.AI
