/- The chain of TopRefuses, part 19. -/
import Derived.Test.YtgemonlknehegaaGreatDoorK14
import Derived.KernelRfl
namespace Go.Proofs.YtgemonlknehegaaGreatDoor.AI
open Go
set_option maxRecDepth 1000000
theorem piece46 : allE (okTo st46) (iterK rL 20 st26.t [] st26.h) = true := by kernel_rfl
theorem piece66 : allE (okTo st66) (iterK rL 20 st46.t [] st46.h) = true := by kernel_rfl
end Go.Proofs.YtgemonlknehegaaGreatDoor.AI
