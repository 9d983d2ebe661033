/- RankOrder: answer before authority before additional, with AA all the more but for the additional, and each rank from 1 to 5 has a name of its own; for every aa and every two numbers. -/
import Derived.Test.YtmjheknoijdfgaaOwnRank
namespace Go.Proofs.Ytmjheknoijdfgaa.OwnOrder
open Go.RowKit Go.Proofs.Ytmjheknoijdfgaa.Own
set_option linter.unusedVariables false
theorem name_empty (x : Int) (h : 1 ≤ x ∧ x ≤ 5) : (nameOf x).toList ≠ [] := by
  have hc : x = 1 ∨ x = 2 ∨ x = 3 ∨ x = 4 ∨ x = 5 := by omega
  rcases hc with rfl | rfl | rfl | rfl | rfl <;> decide +kernel
theorem name_none (x : Int) (h : x ≤ 0 ∨ 6 ≤ x) : (nameOf x).toList = [] := by
  rw [nameOf_out x h]
  decide +kernel
theorem name_own (x y : Int) (h : 1 ≤ x ∧ x ≤ 5) (h1 : 0 ≤ y) (h2 : y ≤ 6) (hne : ¬ x = y) : ((nameOf x).toList == (nameOf y).toList) = false := by
  have hc : x = 1 ∨ x = 2 ∨ x = 3 ∨ x = 4 ∨ x = 5 := by omega
  have hd : y = 0 ∨ y = 1 ∨ y = 2 ∨ y = 3 ∨ y = 4 ∨ y = 5 ∨ y = 6 := by omega
  rcases hc with rfl | rfl | rfl | rfl | rfl <;> rcases hd with rfl | rfl | rfl | rfl | rfl | rfl | rfl <;> first | (exact absurd rfl hne) | decide +kernel
set_option maxHeartbeats 1000000 in
theorem walk (aa : Bool) (a b : Int) (w : World) (h0 : 0 ≤ a) (h1 : a ≤ 255) (h2 : 0 ≤ b) (h3 : b ≤ 255) :
    Calls Try.prog 6 #[.bool aa, .int .u8 a, .int .u8 b] w fun e w' => e = .returned (.bool true) ∧ Below w.heap.size w w' := by
  have HB := Aside.mk (Below.refl w.heap.size w)
  have o1 : decide (ofB 2 aa < ofB 1 aa) = true := by cases aa <;> rfl
  have o2 : decide (ofB 3 aa < ofB 2 aa) = true := by cases aa <;> rfl
  have o3 : decide (ofB 1 false < ofB 1 true) = true := by rfl
  have o4 : decide (ofB 1 false < ofB 2 true) = true := by rfl
  have o5 : (ofB 3 true == ofB 3 false) = true := by rfl
  go_enter Try.func6, Try.ntmps6
  go_wp2_with (first | (go_at_call 7; refine (shown_calls _).mono ?_; rintro e w1 ⟨rfl, hb⟩; have n0_ := Aside.mk (bel_then (by repeat (first | exact HB.out | apply bel_alloc | apply bel_drewN | apply bel_drew)) hb); clear HB; have HB := n0_; clear n0_ hb) | (go_at_call 9; refine (of_calls _ _ _).mono ?_; rintro e w1 ⟨rfl, hb⟩; have n0_ := Aside.mk (bel_then (by repeat (first | exact HB.out | apply bel_alloc | apply bel_drewN | apply bel_drew)) hb); clear HB; have HB := n0_; clear n0_ hb) | (go_at_call 11; refine (name_calls _ _).mono ?_; rintro e w1 ⟨rfl, hb⟩; have n0_ := Aside.mk (bel_then (by repeat (first | exact HB.out | apply bel_alloc | apply bel_drewN | apply bel_drew)) hb); clear HB; have HB := n0_; clear n0_ hb))
  · go_ret
    exact ⟨rfl, by repeat (first | exact HB.out | apply bel_alloc | apply bel_drewN | apply bel_drew)⟩
  · go_ret
    have n := name_own (a % 7) (b % 7) (by omega) (by omega) (by omega) (by assumption)
    exact ⟨by simp [n], by repeat (first | exact HB.out | apply bel_alloc | apply bel_drewN | apply bel_drew)⟩
  · go_ret
    exact ⟨rfl, by repeat (first | exact HB.out | apply bel_alloc | apply bel_drewN | apply bel_drew)⟩
  · exfalso
    rename_i h
    apply h
    by_cases h6 : a % 7 ≤ 5
    · have n := name_empty (a % 7) (by omega)
      simpa [h6] using n
    · have n := name_none (a % 7) (by omega)
      simp [h6, n]
  · go_ret
    exact ⟨rfl, by repeat (first | exact HB.out | apply bel_alloc | apply bel_drewN | apply bel_drew)⟩
  · exfalso
    rename_i h
    exact h (name_none (a % 7) (by omega))
end Go.Proofs.Ytmjheknoijdfgaa.OwnOrder
