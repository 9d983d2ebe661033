/- RankNever: what is live and more credible is never beaten, what is not live always is, and of two that are live one beats the other, both just if they are as credible; for every two entries and moment. -/
import Derived.Test.YtmjheknoijdfgaaOwnRank
namespace Go.Proofs.Ytmjheknoijdfgaa.OwnNever
open Go.RowKit Go.Proofs.Ytmjheknoijdfgaa.Own
set_option linter.unusedVariables false
set_option maxHeartbeats 1000000 in
theorem never_11lt (a0 a1 a2 a3 a4 b0 b1 b2 b3 b4 : Value) (ra xa rb xb now : Int) (w : World) (ha : now < xa) (hb : now < xb) (hr : ra < rb) :
    Calls Try.prog 3 #[.agg #[a0, a1, a2, a3, a4, .int .i64 ra, .int .u64 xa], .agg #[b0, b1, b2, b3, b4, .int .i64 rb, .int .u64 xb], .int .u64 now] w fun e w' => e = .returned (.bool true) ∧ Below w.heap.size w w' := by
  have f1 : beatsB ra xa rb now = true := by
    have h1 : now < xa := by omega
    have h2 : ra ≤ rb := by omega
    simp [beatsB, h1, h2]
  have f2 : beatsB rb xb ra now = false := by
    have h1 : now < xb := by omega
    have h2 : ¬ rb ≤ ra := by omega
    simp [beatsB, h1, h2]
  have g1 : decide (now < xa) = true := decide_eq_true (by omega)
  have g2 : decide (now < xb) = true := decide_eq_true (by omega)
  have g3 : decide (xa ≤ now) = false := decide_eq_false (by omega)
  have g4 : decide (ra ≤ rb) = true := decide_eq_true (by omega)
  have g5 : (ra == rb) = false := beq_eq_false_iff_ne.mpr (by omega)
  have HB := Aside.mk (Below.refl w.heap.size w)
  clear ha hb hr
  go_enter Try.func3, Try.ntmps3
  go_wp2_with (first | (go_at_call 7; refine (shown_calls _).mono ?_; rintro e w1 ⟨rfl, hb⟩; obtain ⟨hc, hf⟩ := bcell hb; have hz : w.heap.size + 2 ≤ w1.heap.size := (by have h_ := hb.size; (try simp at h_); omega); have hz0 : w.heap.size < w1.heap.size := (by omega); have hz1 : w.heap.size + 1 < w1.heap.size := (by omega); have n0_ := Aside.mk (bel_then (by repeat (first | exact HB.out | apply bel_alloc | apply bel_drewN | apply bel_drew)) hb); clear HB; have HB := n0_; clear n0_ hb) | (go_at_call 8; refine (beats_calls _ _ _ _ _ _ _ _ _ _ _ _ _ _ _ _).mono ?_; rintro e w1 ⟨rfl, hb⟩; obtain ⟨hc, hf⟩ := bcell hb; have hz : w.heap.size + 2 ≤ w1.heap.size := (by have h_ := hb.size; (try simp at h_); omega); have hz0 : w.heap.size < w1.heap.size := (by omega); have hz1 : w.heap.size + 1 < w1.heap.size := (by omega); have n0_ := Aside.mk (bel_then (by repeat (first | exact HB.out | apply bel_alloc | apply bel_drewN | apply bel_drew)) hb); clear HB; have HB := n0_; clear n0_ hb))
  go_ret
  exact ⟨by first | rfl | (simp [*] <;> rfl), by repeat (first | exact HB.out | apply bel_alloc | apply bel_drewN | apply bel_drew)⟩
set_option maxHeartbeats 1000000 in
theorem never_11eq (a0 a1 a2 a3 a4 b0 b1 b2 b3 b4 : Value) (ra xa rb xb now : Int) (w : World) (ha : now < xa) (hb : now < xb) (hr : ra = rb) :
    Calls Try.prog 3 #[.agg #[a0, a1, a2, a3, a4, .int .i64 ra, .int .u64 xa], .agg #[b0, b1, b2, b3, b4, .int .i64 rb, .int .u64 xb], .int .u64 now] w fun e w' => e = .returned (.bool true) ∧ Below w.heap.size w w' := by
  have f1 : beatsB ra xa rb now = true := by
    have h1 : now < xa := by omega
    have h2 : ra ≤ rb := by omega
    simp [beatsB, h1, h2]
  have f2 : beatsB rb xb ra now = true := by
    have h1 : now < xb := by omega
    have h2 : rb ≤ ra := by omega
    simp [beatsB, h1, h2]
  have g1 : decide (now < xa) = true := decide_eq_true (by omega)
  have g2 : decide (now < xb) = true := decide_eq_true (by omega)
  have g3 : decide (xa ≤ now) = false := decide_eq_false (by omega)
  have g4 : decide (ra ≤ rb) = true := decide_eq_true (by omega)
  have g5 : (ra == rb) = true := beq_iff_eq.mpr hr
  have HB := Aside.mk (Below.refl w.heap.size w)
  clear ha hb hr
  go_enter Try.func3, Try.ntmps3
  go_wp2_with (first | (go_at_call 7; refine (shown_calls _).mono ?_; rintro e w1 ⟨rfl, hb⟩; obtain ⟨hc, hf⟩ := bcell hb; have hz : w.heap.size + 2 ≤ w1.heap.size := (by have h_ := hb.size; (try simp at h_); omega); have hz0 : w.heap.size < w1.heap.size := (by omega); have hz1 : w.heap.size + 1 < w1.heap.size := (by omega); have n0_ := Aside.mk (bel_then (by repeat (first | exact HB.out | apply bel_alloc | apply bel_drewN | apply bel_drew)) hb); clear HB; have HB := n0_; clear n0_ hb) | (go_at_call 8; refine (beats_calls _ _ _ _ _ _ _ _ _ _ _ _ _ _ _ _).mono ?_; rintro e w1 ⟨rfl, hb⟩; obtain ⟨hc, hf⟩ := bcell hb; have hz : w.heap.size + 2 ≤ w1.heap.size := (by have h_ := hb.size; (try simp at h_); omega); have hz0 : w.heap.size < w1.heap.size := (by omega); have hz1 : w.heap.size + 1 < w1.heap.size := (by omega); have n0_ := Aside.mk (bel_then (by repeat (first | exact HB.out | apply bel_alloc | apply bel_drewN | apply bel_drew)) hb); clear HB; have HB := n0_; clear n0_ hb))
  go_ret
  exact ⟨by first | rfl | (simp [*] <;> rfl), by repeat (first | exact HB.out | apply bel_alloc | apply bel_drewN | apply bel_drew)⟩
set_option maxHeartbeats 1000000 in
theorem never_11gt (a0 a1 a2 a3 a4 b0 b1 b2 b3 b4 : Value) (ra xa rb xb now : Int) (w : World) (ha : now < xa) (hb : now < xb) (hr : rb < ra) :
    Calls Try.prog 3 #[.agg #[a0, a1, a2, a3, a4, .int .i64 ra, .int .u64 xa], .agg #[b0, b1, b2, b3, b4, .int .i64 rb, .int .u64 xb], .int .u64 now] w fun e w' => e = .returned (.bool true) ∧ Below w.heap.size w w' := by
  have f1 : beatsB ra xa rb now = false := by
    have h1 : now < xa := by omega
    have h2 : ¬ ra ≤ rb := by omega
    simp [beatsB, h1, h2]
  have f2 : beatsB rb xb ra now = true := by
    have h1 : now < xb := by omega
    have h2 : rb ≤ ra := by omega
    simp [beatsB, h1, h2]
  have g1 : decide (now < xa) = true := decide_eq_true (by omega)
  have g2 : decide (now < xb) = true := decide_eq_true (by omega)
  have g3 : decide (xa ≤ now) = false := decide_eq_false (by omega)
  have g4 : decide (ra ≤ rb) = false := decide_eq_false (by omega)
  have g5 : (ra == rb) = false := beq_eq_false_iff_ne.mpr (by omega)
  have HB := Aside.mk (Below.refl w.heap.size w)
  clear ha hb hr
  go_enter Try.func3, Try.ntmps3
  go_wp2_with (first | (go_at_call 7; refine (shown_calls _).mono ?_; rintro e w1 ⟨rfl, hb⟩; obtain ⟨hc, hf⟩ := bcell hb; have hz : w.heap.size + 2 ≤ w1.heap.size := (by have h_ := hb.size; (try simp at h_); omega); have hz0 : w.heap.size < w1.heap.size := (by omega); have hz1 : w.heap.size + 1 < w1.heap.size := (by omega); have n0_ := Aside.mk (bel_then (by repeat (first | exact HB.out | apply bel_alloc | apply bel_drewN | apply bel_drew)) hb); clear HB; have HB := n0_; clear n0_ hb) | (go_at_call 8; refine (beats_calls _ _ _ _ _ _ _ _ _ _ _ _ _ _ _ _).mono ?_; rintro e w1 ⟨rfl, hb⟩; obtain ⟨hc, hf⟩ := bcell hb; have hz : w.heap.size + 2 ≤ w1.heap.size := (by have h_ := hb.size; (try simp at h_); omega); have hz0 : w.heap.size < w1.heap.size := (by omega); have hz1 : w.heap.size + 1 < w1.heap.size := (by omega); have n0_ := Aside.mk (bel_then (by repeat (first | exact HB.out | apply bel_alloc | apply bel_drewN | apply bel_drew)) hb); clear HB; have HB := n0_; clear n0_ hb))
  go_ret
  exact ⟨by first | rfl | (simp [*] <;> rfl), by repeat (first | exact HB.out | apply bel_alloc | apply bel_drewN | apply bel_drew)⟩
set_option maxHeartbeats 1000000 in
theorem never_10lt (a0 a1 a2 a3 a4 b0 b1 b2 b3 b4 : Value) (ra xa rb xb now : Int) (w : World) (ha : now < xa) (hb : xb ≤ now) (hr : ra < rb) :
    Calls Try.prog 3 #[.agg #[a0, a1, a2, a3, a4, .int .i64 ra, .int .u64 xa], .agg #[b0, b1, b2, b3, b4, .int .i64 rb, .int .u64 xb], .int .u64 now] w fun e w' => e = .returned (.bool true) ∧ Below w.heap.size w w' := by
  have f1 : beatsB ra xa rb now = true := by
    have h1 : now < xa := by omega
    have h2 : ra ≤ rb := by omega
    simp [beatsB, h1, h2]
  have f2 : beatsB rb xb ra now = true := by
    have h1 : ¬ now < xb := by omega
    simp [beatsB, h1]
  have g1 : decide (now < xa) = true := decide_eq_true (by omega)
  have g2 : decide (now < xb) = false := decide_eq_false (by omega)
  have g3 : decide (xa ≤ now) = false := decide_eq_false (by omega)
  have g4 : decide (ra ≤ rb) = true := decide_eq_true (by omega)
  have g5 : (ra == rb) = false := beq_eq_false_iff_ne.mpr (by omega)
  have HB := Aside.mk (Below.refl w.heap.size w)
  clear ha hb hr
  go_enter Try.func3, Try.ntmps3
  go_wp2_with (first | (go_at_call 7; refine (shown_calls _).mono ?_; rintro e w1 ⟨rfl, hb⟩; obtain ⟨hc, hf⟩ := bcell hb; have hz : w.heap.size + 2 ≤ w1.heap.size := (by have h_ := hb.size; (try simp at h_); omega); have hz0 : w.heap.size < w1.heap.size := (by omega); have hz1 : w.heap.size + 1 < w1.heap.size := (by omega); have n0_ := Aside.mk (bel_then (by repeat (first | exact HB.out | apply bel_alloc | apply bel_drewN | apply bel_drew)) hb); clear HB; have HB := n0_; clear n0_ hb) | (go_at_call 8; refine (beats_calls _ _ _ _ _ _ _ _ _ _ _ _ _ _ _ _).mono ?_; rintro e w1 ⟨rfl, hb⟩; obtain ⟨hc, hf⟩ := bcell hb; have hz : w.heap.size + 2 ≤ w1.heap.size := (by have h_ := hb.size; (try simp at h_); omega); have hz0 : w.heap.size < w1.heap.size := (by omega); have hz1 : w.heap.size + 1 < w1.heap.size := (by omega); have n0_ := Aside.mk (bel_then (by repeat (first | exact HB.out | apply bel_alloc | apply bel_drewN | apply bel_drew)) hb); clear HB; have HB := n0_; clear n0_ hb))
  go_ret
  exact ⟨by first | rfl | (simp [*] <;> rfl), by repeat (first | exact HB.out | apply bel_alloc | apply bel_drewN | apply bel_drew)⟩
set_option maxHeartbeats 1000000 in
theorem never_10eq (a0 a1 a2 a3 a4 b0 b1 b2 b3 b4 : Value) (ra xa rb xb now : Int) (w : World) (ha : now < xa) (hb : xb ≤ now) (hr : ra = rb) :
    Calls Try.prog 3 #[.agg #[a0, a1, a2, a3, a4, .int .i64 ra, .int .u64 xa], .agg #[b0, b1, b2, b3, b4, .int .i64 rb, .int .u64 xb], .int .u64 now] w fun e w' => e = .returned (.bool true) ∧ Below w.heap.size w w' := by
  have f1 : beatsB ra xa rb now = true := by
    have h1 : now < xa := by omega
    have h2 : ra ≤ rb := by omega
    simp [beatsB, h1, h2]
  have f2 : beatsB rb xb ra now = true := by
    have h1 : ¬ now < xb := by omega
    simp [beatsB, h1]
  have g1 : decide (now < xa) = true := decide_eq_true (by omega)
  have g2 : decide (now < xb) = false := decide_eq_false (by omega)
  have g3 : decide (xa ≤ now) = false := decide_eq_false (by omega)
  have g4 : decide (ra ≤ rb) = true := decide_eq_true (by omega)
  have g5 : (ra == rb) = true := beq_iff_eq.mpr hr
  have HB := Aside.mk (Below.refl w.heap.size w)
  clear ha hb hr
  go_enter Try.func3, Try.ntmps3
  go_wp2_with (first | (go_at_call 7; refine (shown_calls _).mono ?_; rintro e w1 ⟨rfl, hb⟩; obtain ⟨hc, hf⟩ := bcell hb; have hz : w.heap.size + 2 ≤ w1.heap.size := (by have h_ := hb.size; (try simp at h_); omega); have hz0 : w.heap.size < w1.heap.size := (by omega); have hz1 : w.heap.size + 1 < w1.heap.size := (by omega); have n0_ := Aside.mk (bel_then (by repeat (first | exact HB.out | apply bel_alloc | apply bel_drewN | apply bel_drew)) hb); clear HB; have HB := n0_; clear n0_ hb) | (go_at_call 8; refine (beats_calls _ _ _ _ _ _ _ _ _ _ _ _ _ _ _ _).mono ?_; rintro e w1 ⟨rfl, hb⟩; obtain ⟨hc, hf⟩ := bcell hb; have hz : w.heap.size + 2 ≤ w1.heap.size := (by have h_ := hb.size; (try simp at h_); omega); have hz0 : w.heap.size < w1.heap.size := (by omega); have hz1 : w.heap.size + 1 < w1.heap.size := (by omega); have n0_ := Aside.mk (bel_then (by repeat (first | exact HB.out | apply bel_alloc | apply bel_drewN | apply bel_drew)) hb); clear HB; have HB := n0_; clear n0_ hb))
  go_ret
  exact ⟨by first | rfl | (simp [*] <;> rfl), by repeat (first | exact HB.out | apply bel_alloc | apply bel_drewN | apply bel_drew)⟩
set_option maxHeartbeats 1000000 in
theorem never_10gt (a0 a1 a2 a3 a4 b0 b1 b2 b3 b4 : Value) (ra xa rb xb now : Int) (w : World) (ha : now < xa) (hb : xb ≤ now) (hr : rb < ra) :
    Calls Try.prog 3 #[.agg #[a0, a1, a2, a3, a4, .int .i64 ra, .int .u64 xa], .agg #[b0, b1, b2, b3, b4, .int .i64 rb, .int .u64 xb], .int .u64 now] w fun e w' => e = .returned (.bool true) ∧ Below w.heap.size w w' := by
  have f1 : beatsB ra xa rb now = false := by
    have h1 : now < xa := by omega
    have h2 : ¬ ra ≤ rb := by omega
    simp [beatsB, h1, h2]
  have f2 : beatsB rb xb ra now = true := by
    have h1 : ¬ now < xb := by omega
    simp [beatsB, h1]
  have g1 : decide (now < xa) = true := decide_eq_true (by omega)
  have g2 : decide (now < xb) = false := decide_eq_false (by omega)
  have g3 : decide (xa ≤ now) = false := decide_eq_false (by omega)
  have g4 : decide (ra ≤ rb) = false := decide_eq_false (by omega)
  have g5 : (ra == rb) = false := beq_eq_false_iff_ne.mpr (by omega)
  have HB := Aside.mk (Below.refl w.heap.size w)
  clear ha hb hr
  go_enter Try.func3, Try.ntmps3
  go_wp2_with (first | (go_at_call 7; refine (shown_calls _).mono ?_; rintro e w1 ⟨rfl, hb⟩; obtain ⟨hc, hf⟩ := bcell hb; have hz : w.heap.size + 2 ≤ w1.heap.size := (by have h_ := hb.size; (try simp at h_); omega); have hz0 : w.heap.size < w1.heap.size := (by omega); have hz1 : w.heap.size + 1 < w1.heap.size := (by omega); have n0_ := Aside.mk (bel_then (by repeat (first | exact HB.out | apply bel_alloc | apply bel_drewN | apply bel_drew)) hb); clear HB; have HB := n0_; clear n0_ hb) | (go_at_call 8; refine (beats_calls _ _ _ _ _ _ _ _ _ _ _ _ _ _ _ _).mono ?_; rintro e w1 ⟨rfl, hb⟩; obtain ⟨hc, hf⟩ := bcell hb; have hz : w.heap.size + 2 ≤ w1.heap.size := (by have h_ := hb.size; (try simp at h_); omega); have hz0 : w.heap.size < w1.heap.size := (by omega); have hz1 : w.heap.size + 1 < w1.heap.size := (by omega); have n0_ := Aside.mk (bel_then (by repeat (first | exact HB.out | apply bel_alloc | apply bel_drewN | apply bel_drew)) hb); clear HB; have HB := n0_; clear n0_ hb))
  go_ret
  exact ⟨by first | rfl | (simp [*] <;> rfl), by repeat (first | exact HB.out | apply bel_alloc | apply bel_drewN | apply bel_drew)⟩
set_option maxHeartbeats 1000000 in
theorem never_01lt (a0 a1 a2 a3 a4 b0 b1 b2 b3 b4 : Value) (ra xa rb xb now : Int) (w : World) (ha : xa ≤ now) (hb : now < xb) (hr : ra < rb) :
    Calls Try.prog 3 #[.agg #[a0, a1, a2, a3, a4, .int .i64 ra, .int .u64 xa], .agg #[b0, b1, b2, b3, b4, .int .i64 rb, .int .u64 xb], .int .u64 now] w fun e w' => e = .returned (.bool true) ∧ Below w.heap.size w w' := by
  have f1 : beatsB ra xa rb now = true := by
    have h1 : ¬ now < xa := by omega
    simp [beatsB, h1]
  have f2 : beatsB rb xb ra now = false := by
    have h1 : now < xb := by omega
    have h2 : ¬ rb ≤ ra := by omega
    simp [beatsB, h1, h2]
  have g1 : decide (now < xa) = false := decide_eq_false (by omega)
  have g2 : decide (now < xb) = true := decide_eq_true (by omega)
  have g3 : decide (xa ≤ now) = true := decide_eq_true (by omega)
  have g4 : decide (ra ≤ rb) = true := decide_eq_true (by omega)
  have g5 : (ra == rb) = false := beq_eq_false_iff_ne.mpr (by omega)
  have HB := Aside.mk (Below.refl w.heap.size w)
  clear ha hb hr
  go_enter Try.func3, Try.ntmps3
  go_wp2_with (first | (go_at_call 7; refine (shown_calls _).mono ?_; rintro e w1 ⟨rfl, hb⟩; obtain ⟨hc, hf⟩ := bcell hb; have hz : w.heap.size + 2 ≤ w1.heap.size := (by have h_ := hb.size; (try simp at h_); omega); have hz0 : w.heap.size < w1.heap.size := (by omega); have hz1 : w.heap.size + 1 < w1.heap.size := (by omega); have n0_ := Aside.mk (bel_then (by repeat (first | exact HB.out | apply bel_alloc | apply bel_drewN | apply bel_drew)) hb); clear HB; have HB := n0_; clear n0_ hb) | (go_at_call 8; refine (beats_calls _ _ _ _ _ _ _ _ _ _ _ _ _ _ _ _).mono ?_; rintro e w1 ⟨rfl, hb⟩; obtain ⟨hc, hf⟩ := bcell hb; have hz : w.heap.size + 2 ≤ w1.heap.size := (by have h_ := hb.size; (try simp at h_); omega); have hz0 : w.heap.size < w1.heap.size := (by omega); have hz1 : w.heap.size + 1 < w1.heap.size := (by omega); have n0_ := Aside.mk (bel_then (by repeat (first | exact HB.out | apply bel_alloc | apply bel_drewN | apply bel_drew)) hb); clear HB; have HB := n0_; clear n0_ hb))
  go_ret
  exact ⟨by first | rfl | (simp [*] <;> rfl), by repeat (first | exact HB.out | apply bel_alloc | apply bel_drewN | apply bel_drew)⟩
set_option maxHeartbeats 1000000 in
theorem never_01eq (a0 a1 a2 a3 a4 b0 b1 b2 b3 b4 : Value) (ra xa rb xb now : Int) (w : World) (ha : xa ≤ now) (hb : now < xb) (hr : ra = rb) :
    Calls Try.prog 3 #[.agg #[a0, a1, a2, a3, a4, .int .i64 ra, .int .u64 xa], .agg #[b0, b1, b2, b3, b4, .int .i64 rb, .int .u64 xb], .int .u64 now] w fun e w' => e = .returned (.bool true) ∧ Below w.heap.size w w' := by
  have f1 : beatsB ra xa rb now = true := by
    have h1 : ¬ now < xa := by omega
    simp [beatsB, h1]
  have f2 : beatsB rb xb ra now = true := by
    have h1 : now < xb := by omega
    have h2 : rb ≤ ra := by omega
    simp [beatsB, h1, h2]
  have g1 : decide (now < xa) = false := decide_eq_false (by omega)
  have g2 : decide (now < xb) = true := decide_eq_true (by omega)
  have g3 : decide (xa ≤ now) = true := decide_eq_true (by omega)
  have g4 : decide (ra ≤ rb) = true := decide_eq_true (by omega)
  have g5 : (ra == rb) = true := beq_iff_eq.mpr hr
  have HB := Aside.mk (Below.refl w.heap.size w)
  clear ha hb hr
  go_enter Try.func3, Try.ntmps3
  go_wp2_with (first | (go_at_call 7; refine (shown_calls _).mono ?_; rintro e w1 ⟨rfl, hb⟩; obtain ⟨hc, hf⟩ := bcell hb; have hz : w.heap.size + 2 ≤ w1.heap.size := (by have h_ := hb.size; (try simp at h_); omega); have hz0 : w.heap.size < w1.heap.size := (by omega); have hz1 : w.heap.size + 1 < w1.heap.size := (by omega); have n0_ := Aside.mk (bel_then (by repeat (first | exact HB.out | apply bel_alloc | apply bel_drewN | apply bel_drew)) hb); clear HB; have HB := n0_; clear n0_ hb) | (go_at_call 8; refine (beats_calls _ _ _ _ _ _ _ _ _ _ _ _ _ _ _ _).mono ?_; rintro e w1 ⟨rfl, hb⟩; obtain ⟨hc, hf⟩ := bcell hb; have hz : w.heap.size + 2 ≤ w1.heap.size := (by have h_ := hb.size; (try simp at h_); omega); have hz0 : w.heap.size < w1.heap.size := (by omega); have hz1 : w.heap.size + 1 < w1.heap.size := (by omega); have n0_ := Aside.mk (bel_then (by repeat (first | exact HB.out | apply bel_alloc | apply bel_drewN | apply bel_drew)) hb); clear HB; have HB := n0_; clear n0_ hb))
  go_ret
  exact ⟨by first | rfl | (simp [*] <;> rfl), by repeat (first | exact HB.out | apply bel_alloc | apply bel_drewN | apply bel_drew)⟩
set_option maxHeartbeats 1000000 in
theorem never_01gt (a0 a1 a2 a3 a4 b0 b1 b2 b3 b4 : Value) (ra xa rb xb now : Int) (w : World) (ha : xa ≤ now) (hb : now < xb) (hr : rb < ra) :
    Calls Try.prog 3 #[.agg #[a0, a1, a2, a3, a4, .int .i64 ra, .int .u64 xa], .agg #[b0, b1, b2, b3, b4, .int .i64 rb, .int .u64 xb], .int .u64 now] w fun e w' => e = .returned (.bool true) ∧ Below w.heap.size w w' := by
  have f1 : beatsB ra xa rb now = true := by
    have h1 : ¬ now < xa := by omega
    simp [beatsB, h1]
  have f2 : beatsB rb xb ra now = true := by
    have h1 : now < xb := by omega
    have h2 : rb ≤ ra := by omega
    simp [beatsB, h1, h2]
  have g1 : decide (now < xa) = false := decide_eq_false (by omega)
  have g2 : decide (now < xb) = true := decide_eq_true (by omega)
  have g3 : decide (xa ≤ now) = true := decide_eq_true (by omega)
  have g4 : decide (ra ≤ rb) = false := decide_eq_false (by omega)
  have g5 : (ra == rb) = false := beq_eq_false_iff_ne.mpr (by omega)
  have HB := Aside.mk (Below.refl w.heap.size w)
  clear ha hb hr
  go_enter Try.func3, Try.ntmps3
  go_wp2_with (first | (go_at_call 7; refine (shown_calls _).mono ?_; rintro e w1 ⟨rfl, hb⟩; obtain ⟨hc, hf⟩ := bcell hb; have hz : w.heap.size + 2 ≤ w1.heap.size := (by have h_ := hb.size; (try simp at h_); omega); have hz0 : w.heap.size < w1.heap.size := (by omega); have hz1 : w.heap.size + 1 < w1.heap.size := (by omega); have n0_ := Aside.mk (bel_then (by repeat (first | exact HB.out | apply bel_alloc | apply bel_drewN | apply bel_drew)) hb); clear HB; have HB := n0_; clear n0_ hb) | (go_at_call 8; refine (beats_calls _ _ _ _ _ _ _ _ _ _ _ _ _ _ _ _).mono ?_; rintro e w1 ⟨rfl, hb⟩; obtain ⟨hc, hf⟩ := bcell hb; have hz : w.heap.size + 2 ≤ w1.heap.size := (by have h_ := hb.size; (try simp at h_); omega); have hz0 : w.heap.size < w1.heap.size := (by omega); have hz1 : w.heap.size + 1 < w1.heap.size := (by omega); have n0_ := Aside.mk (bel_then (by repeat (first | exact HB.out | apply bel_alloc | apply bel_drewN | apply bel_drew)) hb); clear HB; have HB := n0_; clear n0_ hb))
  go_ret
  exact ⟨by first | rfl | (simp [*] <;> rfl), by repeat (first | exact HB.out | apply bel_alloc | apply bel_drewN | apply bel_drew)⟩
set_option maxHeartbeats 1000000 in
theorem never_00lt (a0 a1 a2 a3 a4 b0 b1 b2 b3 b4 : Value) (ra xa rb xb now : Int) (w : World) (ha : xa ≤ now) (hb : xb ≤ now) (hr : ra < rb) :
    Calls Try.prog 3 #[.agg #[a0, a1, a2, a3, a4, .int .i64 ra, .int .u64 xa], .agg #[b0, b1, b2, b3, b4, .int .i64 rb, .int .u64 xb], .int .u64 now] w fun e w' => e = .returned (.bool true) ∧ Below w.heap.size w w' := by
  have f1 : beatsB ra xa rb now = true := by
    have h1 : ¬ now < xa := by omega
    simp [beatsB, h1]
  have f2 : beatsB rb xb ra now = true := by
    have h1 : ¬ now < xb := by omega
    simp [beatsB, h1]
  have g1 : decide (now < xa) = false := decide_eq_false (by omega)
  have g2 : decide (now < xb) = false := decide_eq_false (by omega)
  have g3 : decide (xa ≤ now) = true := decide_eq_true (by omega)
  have g4 : decide (ra ≤ rb) = true := decide_eq_true (by omega)
  have g5 : (ra == rb) = false := beq_eq_false_iff_ne.mpr (by omega)
  have HB := Aside.mk (Below.refl w.heap.size w)
  clear ha hb hr
  go_enter Try.func3, Try.ntmps3
  go_wp2_with (first | (go_at_call 7; refine (shown_calls _).mono ?_; rintro e w1 ⟨rfl, hb⟩; obtain ⟨hc, hf⟩ := bcell hb; have hz : w.heap.size + 2 ≤ w1.heap.size := (by have h_ := hb.size; (try simp at h_); omega); have hz0 : w.heap.size < w1.heap.size := (by omega); have hz1 : w.heap.size + 1 < w1.heap.size := (by omega); have n0_ := Aside.mk (bel_then (by repeat (first | exact HB.out | apply bel_alloc | apply bel_drewN | apply bel_drew)) hb); clear HB; have HB := n0_; clear n0_ hb) | (go_at_call 8; refine (beats_calls _ _ _ _ _ _ _ _ _ _ _ _ _ _ _ _).mono ?_; rintro e w1 ⟨rfl, hb⟩; obtain ⟨hc, hf⟩ := bcell hb; have hz : w.heap.size + 2 ≤ w1.heap.size := (by have h_ := hb.size; (try simp at h_); omega); have hz0 : w.heap.size < w1.heap.size := (by omega); have hz1 : w.heap.size + 1 < w1.heap.size := (by omega); have n0_ := Aside.mk (bel_then (by repeat (first | exact HB.out | apply bel_alloc | apply bel_drewN | apply bel_drew)) hb); clear HB; have HB := n0_; clear n0_ hb))
  go_ret
  exact ⟨by first | rfl | (simp [*] <;> rfl), by repeat (first | exact HB.out | apply bel_alloc | apply bel_drewN | apply bel_drew)⟩
set_option maxHeartbeats 1000000 in
theorem never_00eq (a0 a1 a2 a3 a4 b0 b1 b2 b3 b4 : Value) (ra xa rb xb now : Int) (w : World) (ha : xa ≤ now) (hb : xb ≤ now) (hr : ra = rb) :
    Calls Try.prog 3 #[.agg #[a0, a1, a2, a3, a4, .int .i64 ra, .int .u64 xa], .agg #[b0, b1, b2, b3, b4, .int .i64 rb, .int .u64 xb], .int .u64 now] w fun e w' => e = .returned (.bool true) ∧ Below w.heap.size w w' := by
  have f1 : beatsB ra xa rb now = true := by
    have h1 : ¬ now < xa := by omega
    simp [beatsB, h1]
  have f2 : beatsB rb xb ra now = true := by
    have h1 : ¬ now < xb := by omega
    simp [beatsB, h1]
  have g1 : decide (now < xa) = false := decide_eq_false (by omega)
  have g2 : decide (now < xb) = false := decide_eq_false (by omega)
  have g3 : decide (xa ≤ now) = true := decide_eq_true (by omega)
  have g4 : decide (ra ≤ rb) = true := decide_eq_true (by omega)
  have g5 : (ra == rb) = true := beq_iff_eq.mpr hr
  have HB := Aside.mk (Below.refl w.heap.size w)
  clear ha hb hr
  go_enter Try.func3, Try.ntmps3
  go_wp2_with (first | (go_at_call 7; refine (shown_calls _).mono ?_; rintro e w1 ⟨rfl, hb⟩; obtain ⟨hc, hf⟩ := bcell hb; have hz : w.heap.size + 2 ≤ w1.heap.size := (by have h_ := hb.size; (try simp at h_); omega); have hz0 : w.heap.size < w1.heap.size := (by omega); have hz1 : w.heap.size + 1 < w1.heap.size := (by omega); have n0_ := Aside.mk (bel_then (by repeat (first | exact HB.out | apply bel_alloc | apply bel_drewN | apply bel_drew)) hb); clear HB; have HB := n0_; clear n0_ hb) | (go_at_call 8; refine (beats_calls _ _ _ _ _ _ _ _ _ _ _ _ _ _ _ _).mono ?_; rintro e w1 ⟨rfl, hb⟩; obtain ⟨hc, hf⟩ := bcell hb; have hz : w.heap.size + 2 ≤ w1.heap.size := (by have h_ := hb.size; (try simp at h_); omega); have hz0 : w.heap.size < w1.heap.size := (by omega); have hz1 : w.heap.size + 1 < w1.heap.size := (by omega); have n0_ := Aside.mk (bel_then (by repeat (first | exact HB.out | apply bel_alloc | apply bel_drewN | apply bel_drew)) hb); clear HB; have HB := n0_; clear n0_ hb))
  go_ret
  exact ⟨by first | rfl | (simp [*] <;> rfl), by repeat (first | exact HB.out | apply bel_alloc | apply bel_drewN | apply bel_drew)⟩
set_option maxHeartbeats 1000000 in
theorem never_00gt (a0 a1 a2 a3 a4 b0 b1 b2 b3 b4 : Value) (ra xa rb xb now : Int) (w : World) (ha : xa ≤ now) (hb : xb ≤ now) (hr : rb < ra) :
    Calls Try.prog 3 #[.agg #[a0, a1, a2, a3, a4, .int .i64 ra, .int .u64 xa], .agg #[b0, b1, b2, b3, b4, .int .i64 rb, .int .u64 xb], .int .u64 now] w fun e w' => e = .returned (.bool true) ∧ Below w.heap.size w w' := by
  have f1 : beatsB ra xa rb now = true := by
    have h1 : ¬ now < xa := by omega
    simp [beatsB, h1]
  have f2 : beatsB rb xb ra now = true := by
    have h1 : ¬ now < xb := by omega
    simp [beatsB, h1]
  have g1 : decide (now < xa) = false := decide_eq_false (by omega)
  have g2 : decide (now < xb) = false := decide_eq_false (by omega)
  have g3 : decide (xa ≤ now) = true := decide_eq_true (by omega)
  have g4 : decide (ra ≤ rb) = false := decide_eq_false (by omega)
  have g5 : (ra == rb) = false := beq_eq_false_iff_ne.mpr (by omega)
  have HB := Aside.mk (Below.refl w.heap.size w)
  clear ha hb hr
  go_enter Try.func3, Try.ntmps3
  go_wp2_with (first | (go_at_call 7; refine (shown_calls _).mono ?_; rintro e w1 ⟨rfl, hb⟩; obtain ⟨hc, hf⟩ := bcell hb; have hz : w.heap.size + 2 ≤ w1.heap.size := (by have h_ := hb.size; (try simp at h_); omega); have hz0 : w.heap.size < w1.heap.size := (by omega); have hz1 : w.heap.size + 1 < w1.heap.size := (by omega); have n0_ := Aside.mk (bel_then (by repeat (first | exact HB.out | apply bel_alloc | apply bel_drewN | apply bel_drew)) hb); clear HB; have HB := n0_; clear n0_ hb) | (go_at_call 8; refine (beats_calls _ _ _ _ _ _ _ _ _ _ _ _ _ _ _ _).mono ?_; rintro e w1 ⟨rfl, hb⟩; obtain ⟨hc, hf⟩ := bcell hb; have hz : w.heap.size + 2 ≤ w1.heap.size := (by have h_ := hb.size; (try simp at h_); omega); have hz0 : w.heap.size < w1.heap.size := (by omega); have hz1 : w.heap.size + 1 < w1.heap.size := (by omega); have n0_ := Aside.mk (bel_then (by repeat (first | exact HB.out | apply bel_alloc | apply bel_drewN | apply bel_drew)) hb); clear HB; have HB := n0_; clear n0_ hb))
  go_ret
  exact ⟨by first | rfl | (simp [*] <;> rfl), by repeat (first | exact HB.out | apply bel_alloc | apply bel_drewN | apply bel_drew)⟩

theorem walk (a0 a1 a2 a3 a4 b0 b1 b2 b3 b4 : Value) (ra xa rb xb now : Int) (w : World) :
    Calls Try.prog 3 #[.agg #[a0, a1, a2, a3, a4, .int .i64 ra, .int .u64 xa], .agg #[b0, b1, b2, b3, b4, .int .i64 rb, .int .u64 xb], .int .u64 now] w fun e w' => e = .returned (.bool true) ∧ Below w.heap.size w w' := by
  by_cases ha : now < xa <;> by_cases hb : now < xb <;> rcases Int.lt_trichotomy ra rb with hr | hr | hr
  · exact never_11lt _ _ _ _ _ _ _ _ _ _ _ _ _ _ _ _ (by omega) (by omega) hr
  · exact never_11eq _ _ _ _ _ _ _ _ _ _ _ _ _ _ _ _ (by omega) (by omega) hr
  · exact never_11gt _ _ _ _ _ _ _ _ _ _ _ _ _ _ _ _ (by omega) (by omega) hr
  · exact never_10lt _ _ _ _ _ _ _ _ _ _ _ _ _ _ _ _ (by omega) (by omega) hr
  · exact never_10eq _ _ _ _ _ _ _ _ _ _ _ _ _ _ _ _ (by omega) (by omega) hr
  · exact never_10gt _ _ _ _ _ _ _ _ _ _ _ _ _ _ _ _ (by omega) (by omega) hr
  · exact never_01lt _ _ _ _ _ _ _ _ _ _ _ _ _ _ _ _ (by omega) (by omega) hr
  · exact never_01eq _ _ _ _ _ _ _ _ _ _ _ _ _ _ _ _ (by omega) (by omega) hr
  · exact never_01gt _ _ _ _ _ _ _ _ _ _ _ _ _ _ _ _ (by omega) (by omega) hr
  · exact never_00lt _ _ _ _ _ _ _ _ _ _ _ _ _ _ _ _ (by omega) (by omega) hr
  · exact never_00eq _ _ _ _ _ _ _ _ _ _ _ _ _ _ _ _ (by omega) (by omega) hr
  · exact never_00gt _ _ _ _ _ _ _ _ _ _ _ _ _ _ _ _ (by omega) (by omega) hr
end Go.Proofs.Ytmjheknoijdfgaa.OwnNever
