/- The chain of TopRefuses, part 53. -/
import Derived.Test.YtgemonlknehegaaGreatDoorK52
import Derived.Test.YtgemonlknehegaaGreatDoorTie
import Derived.Test.YtgemonlknehegaaGreatDoorCards
namespace Go.Proofs.YtgemonlknehegaaGreatDoor
open Go Go.ChangeShapes Go.WideShapes Go.ChangeAt Go.WideMaps Go.WideElems Go.RowKit
set_option maxRecDepth 100000
theorem topRefuses_holds : Rows.TopRefusesSaid := topRefuses.over
theorem topRefuses_wf : Rows.topRefusesRow.wfByText (OpenSpec.ofChange Rows.topRefusesSpec) = true := by kernel_rfl
theorem topRefuses_main : Tryz.pinned.checked.prog.mainIs = some (true, "16c470c61363746e37a2cac3760bb04b8da72b08d22565b3d112478804b09aed".toList) := by kernel_rfl
theorem topRefuses_looks : false = Tryz.pinned.checked.prog.looks [] := by kernel_rfl
theorem topRefuses_hall : ([9, 5].all fun u => !Tryz.prog.wantsStandIn u) = true := by kernel_rfl
theorem topRefuses_goes : false = Rows.topRefusesRow.goesBy Tryz.pinned.checked.prog := by kernel_rfl
theorem topRefuses_card : Rows.TopRefusesCardSaid :=
  Claim7.holds_tied_plain_at .later [] [.data, .data, .data] true (true, "16c470c61363746e37a2cac3760bb04b8da72b08d22565b3d112478804b09aed") false topRefuses_holds (fun _ h => by cases h) topRefuses_wf (fun _ h => by cases h) topRefuses_row_tie rfl ⟨rfl, rfl⟩ topRefuses_main rfl
    (fun f fn hf hfn => by
      obtain rfl : f = 5 := Option.some.inj (topRefuses.fnm.symm.trans hf) |>.symm
      obtain rfl : fn = Tryz.f5 := (Option.some.inj (Tryz.func5.symm.trans hfn)).symm
      exact ⟨topRefuses_looks, fun j t ht => by
        rw [Tryz.params5] at ht
        have hm : t ∈ [9, 5] := by simpa using Array.mem_of_getElem? ht
        exact (show Tryz.prog.wantsStandIn t = false by simpa using List.all_eq_true.1 topRefuses_hall t hm)⟩)
    topRefuses_goes
#print axioms topRefuses_holds
#print axioms topRefuses_card
end Go.Proofs.YtgemonlknehegaaGreatDoor
