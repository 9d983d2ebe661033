/- The example that stands at the head of all statements of the layer. -/
import Derived.Test.YtbonaoopkfcabaaOwnFlightG
namespace Go.Proofs.Ytbonaoopkfcabaa.Own
open Go.RowKit Go.Maps Go.Proofs.Ytbonaoopkfcabaa.PFlightPlays Go.Proofs.YtbonaoopkfcabaaW.PrintWords Go.Proofs.YtbonaoopkfcabaaW.PrintLast Go.Proofs.YtbonaoopkfcabaaW.PrintMore
set_option linter.unusedVariables false
variable {w w1 : World} {S S' : Nat → Prop} {g mb : Nat} {most queue : Int} {L : List Fl}
theorem grow_ge {S : Nat → Prop} {n : Nat} {w : World} (h : ∀ i, S i → n ≤ i) (hn : n ≤ w.heap.size) (w' : World) : ∀ i, grow S w w' i → n ≤ i := fun i hi => by
  rcases hi with hi | hi
  · exact h i hi
  · omega
theorem row_one {w : World} {base : Nat} {v : Value} {x : Int} (h : w.ownsRow base 3 1 v 1 [.int .i64 x]) : ∃ b c, v = .slice (some ⟨b, 0, none⟩) 1 c ∧ w.cell? ⟨b, 0, none⟩ = some (.int .i64 x) := by
  obtain ⟨_, h2⟩ := h
  rcases h2 with ⟨_, h0⟩ | ⟨g, cap, cur, rfl, hg, hh, h5, h6, h7, h8⟩
  · omega
  · exact ⟨g, cap, rfl, row_cells (base := base) (cap := cap) (xs := [x]) hh h8 0 (by simp)⟩
set_option maxHeartbeats 1000000 in
theorem shown_calls (w : World) : Calls Try.prog 8 #[] w fun e w1 => e = .returned (.bool true) ∧ Below w.heap.size w w1 := by
  go_enter Try.func8, Try.ntmps8
  go_wp2_with (first | (go_at_call 9; (with_reducible refine (new_at 2 2 (by decide) (by decide) _).mono ?_); rintro e w1 ⟨g, mb, rfl, h1, hb1⟩) | (go_at_call 9; (with_reducible refine (new_not 0 1 (.inl (by decide)) _).mono ?_); rintro e w9 ⟨rfl, rfl⟩) | (go_at_call 10; have q_ := join_leads h1 (k := 5) (who := 1) rfl rfl (by decide) (by decide); (with_reducible refine q_.mono ?_); clear q_; rintro e w2 ⟨rfl, b, h2, t2⟩) | (go_at_call 10; have q_ := join_waits h2 (k := 5) (who := 2) (f := ⟨5, 1, [], b, .slice none 0 0⟩) rfl rfl (by show ((0 : Nat) : Int) < 2; decide) (Nat.zero_le _); (with_reducible refine q_.mono ?_); clear q_; rintro e w3 ⟨rfl, v, h3, t3⟩) | (go_at_call 13; have q_ := end_some h3 (k := 5) (f := ⟨5, 1, [2], b, v⟩) rfl rfl; (with_reducible refine q_.mono ?_); clear q_; rintro e w4 ⟨rfl, h4, F4, t4⟩; obtain ⟨b5, c5, rfl, e5⟩ := row_one F4.row))
  go_ret
  have g1 : ∀ i, (w.heap.size ≤ i ∧ i < w1.heap.size) → w.heap.size ≤ i := fun i hi => hi.1
  have b2 := t2.below hb1 g1
  have g2 := grow_ge g1 hb1.size w2
  have b3 := t3.below b2 g2
  have g3 := grow_ge g2 b2.size w3
  exact ⟨rfl, t4.below b3 g3⟩
end Go.Proofs.Ytbonaoopkfcabaa.Own
