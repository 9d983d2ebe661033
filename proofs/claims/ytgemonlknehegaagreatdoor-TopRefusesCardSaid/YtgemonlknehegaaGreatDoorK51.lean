/- The chain of TopRefuses, part 51. -/
import Derived.Test.YtgemonlknehegaaGreatDoorRows
import Derived.Test.YtgemonlknehegaaGreatDoorCards
import Derived.WalkKit
import Derived.ProofKit
import Derived.LaidMore
import Derived.Stop.Joined
namespace Go.Proofs.YtgemonlknehegaaGreatDoor.topRefuses
open Go.ChangeShapes Go.WideShapes Go.ChangeAt Go.WideMaps Go.WideElems Go.RowKit
set_option maxRecDepth 100000
theorem p1 : (Rows.topRefusesRow.inPlace == Tryz.prog.inPlace 5) = true := by kernel_rfl
theorem p2 : (Rows.topRefusesRow.unfollowed == Tryz.prog.unfollowed 5) = true := by kernel_rfl
theorem p3 : (Rows.topRefusesRow.recurses == Tryz.prog.recurses 5) = true := by kernel_rfl
theorem p4 : (Rows.topRefusesRow.named == Tryz.prog.varsNamed 5) = true := by kernel_rfl
theorem jf : joinedFacts Tryz.prog 5 Tryz.f5 Rows.topRefusesSpec Rows.topRefusesRow = true := by
  unfold joinedFacts
  rw [p1, p2, p3, p4]
  kernel_rfl
theorem wr : Tryz.f5.isWrapper Tryz.pinned.checked.prog Rows.topRefusesRow.wrapper Rows.topRefusesRow.mainSum := by
  unfold Func.isWrapper
  first | (rw [if_pos (by decide +kernel)]; kernel_rfl) | (rw [if_neg (by decide +kernel)]; exact ⟨rfl, rfl⟩)
theorem fnm : Tryz.pinned.checked.prog.funcNamed Rows.topRefusesRow.func = some 5 := by kernel_rfl
theorem isi : Tryz.f5.isInstance Tryz.pinned.checked.prog Rows.topRefusesRow.origin Rows.topRefusesRow.targs := (of_decide_eq_true (by kernel_rfl))
end Go.Proofs.YtgemonlknehegaaGreatDoor.topRefuses
