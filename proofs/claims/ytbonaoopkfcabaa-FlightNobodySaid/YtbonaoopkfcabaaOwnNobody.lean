/- FlightNobody: the walk. -/
import Derived.Test.YtbonaoopkfcabaaOwnFlightH
namespace Go.Proofs.Ytbonaoopkfcabaa.Own
open Go.RowKit Go.Maps Go.Proofs.Ytbonaoopkfcabaa.PFlightPlays Go.Proofs.YtbonaoopkfcabaaW.PrintWords Go.Proofs.YtbonaoopkfcabaaW.PrintLast Go.Proofs.YtbonaoopkfcabaaW.PrintMore
set_option linter.unusedVariables false
variable {w w1 : World} {S S' : Nat → Prop} {g mb : Nat} {most queue : Int} {L : List Fl}
theorem join_nil (k who : Int) (w : World) : Calls Try.prog 10 #[.pointer none, .int .i64 k, .int .i64 who] w fun e w1 => e = .returned (.int .i64 0) ∧ Below w.heap.size w w1 := by
  go_enter Try.func10, Try.ntmps10
  go_wp2_with (first | (go_at_call 22; refine (of_nil k _).mono ?_; rintro e w1 ⟨rfl, rfl⟩))
  go_quiet (fail)
  go_wp2
  go_quiet (fail)
  go_wp2
  go_ret
  exact ⟨rfl, ⟨rfl, rfl, rfl, Nat.le_refl _, fun _ _ => rfl⟩⟩
set_option maxRecDepth 100000 in
set_option maxHeartbeats 4000000 in
theorem nobody_calls (k who : Int) (hk : (Lit.int .i64 k).wf = true) (w : World) : Calls Try.prog 7 #[.int .i64 k, .int .i64 who] w fun e w1 => e = .returned (.bool true) ∧ Below w.heap.size w w1 := by
  go_enter Try.func7, Try.ntmps7
  go_wp2_with (first | (go_at_call 8; refine (shown_calls _).mono ?_; rintro e w0 ⟨rfl, hb0⟩) | (go_at_call 13; refine (end_nil k _).mono ?_; rintro e w9 ⟨rfl, rfl⟩) | (go_at_call 17; refine (leader_nil k _).mono ?_; rintro e w9 ⟨rfl, rfl⟩) | (go_at_call 9; (with_reducible refine (new_at 1 0 (by decide) (by decide) _).mono ?_); rintro e w1 ⟨g, mb, rfl, h1, hb1⟩) | (go_at_call 16; refine (waiters_nil k _).mono ?_; rintro e w9 ⟨rfl, rfl⟩) | (go_at_call 19; refine (len_nil _).mono ?_; rintro e w9 ⟨rfl, rfl⟩) | (go_at_call 20; refine (sum_nil _).mono ?_; rintro e w9 ⟨rfl, rfl⟩) | (go_at_call 11; (with_reducible refine (leave_nil k who _).mono ?_); rintro e w9 ⟨rfl, rfl⟩) | (go_at_call 10; (with_reducible refine (join_nil k who _).mono ?_); rintro e w6 ⟨rfl, hb6⟩) | (go_at_call 10; have q_ := join_leads h1 (k := k) (who := who) hk rfl (by decide) (by decide); (with_reducible refine q_.mono ?_); clear q_; rintro e w2 ⟨rfl, b, h2, t2⟩; have f2 : findK ([] ++ [⟨k, who, [], b, .slice none 0 0⟩]) k = some ⟨k, who, [], b, .slice none 0 0⟩ := by simp [findK]) | (go_at_call 10; have q_ := join_full h2 (k := k) (who := who) hk f2 (by show ¬ ((0 : Nat) : Int) < 0; decide); (with_reducible refine q_.mono ?_); clear q_; rintro e w3 ⟨rfl, hb3⟩; have h3 := h2.below hb3; clear h2; have hj : wrap64 (k + 1) ≠ k := (by unfold wrap64; omega); have f3 : findK ([] ++ [⟨k, who, [], b, .slice none 0 0⟩]) (wrap64 (k + 1)) = none := by simp [findK]; exact fun e => hj e.symm) | (go_at_call 10; have q_ := join_over h3 (k := wrap64 (k + 1)) (who := who) (wrap64_wf _) f3 (by show ¬ ((1 : Nat) : Int) < 1; decide); (with_reducible refine q_.mono ?_); clear q_; rintro e w4 ⟨rfl, hb4⟩; have h4 := h3.below hb4) | (go_at_call 11; have q_ := leave_not (h4.below hb6) (k := k) (who := who) hk f2 (by simp) (Nat.zero_le _); (with_reducible refine q_.mono ?_); clear q_; rintro e w5 ⟨rfl, hb5⟩))
  go_ret
  have b1 := below_step hb0 hb1
  have b2 := t2.below b1 (fun i hi => Nat.le_trans hb0.size hi.1)
  exact ⟨rfl, below_step (below_step (below_step (below_step b2 hb3) hb4) hb6) hb5⟩
end Go.Proofs.Ytbonaoopkfcabaa.Own
