/- The chain of TopRefuses, part 18. -/
import Derived.Test.YtgemonlknehegaaGreatDoorK14
import Derived.KernelRfl
namespace Go.Proofs.YtgemonlknehegaaGreatDoor.AI
open Go
set_option maxRecDepth 1000000
theorem piece6 : allE (okTo st6) (iterK rL 1 st5.t [] st5.h) = true := by kernel_rfl
theorem piece26 : allE (okTo st26) (iterK rL 20 st6.t [] st6.h) = true := by kernel_rfl
end Go.Proofs.YtgemonlknehegaaGreatDoor.AI
