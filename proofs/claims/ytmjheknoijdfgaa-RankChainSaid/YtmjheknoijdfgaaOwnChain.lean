/- RankChain: what beats something that beats a third thing beats that, if the one between is live, and beats it later too; for every three entries, moment and delay. -/
import Derived.Test.YtmjheknoijdfgaaOwnRank
namespace Go.Proofs.Ytmjheknoijdfgaa.OwnChain
open Go.RowKit Go.Proofs.Ytmjheknoijdfgaa.Own
set_option linter.unusedVariables false
set_option maxHeartbeats 1000000 in
theorem chain_wraps (a0 a1 a2 a3 a4 b0 b1 b2 b3 b4 c0 c1 c2 c3 c4 : Value) (ra xa rb xb rc xc now later T : Int) (w : World) (ht : IntKind.u64.wrap (now + IntKind.u64.wrap later) = T) (hT : T < now) :
    Calls Try.prog 4 #[.agg #[a0, a1, a2, a3, a4, .int .i64 ra, .int .u64 xa], .agg #[b0, b1, b2, b3, b4, .int .i64 rb, .int .u64 xb], .agg #[c0, c1, c2, c3, c4, .int .i64 rc, .int .u64 xc], .int .u64 now, .int .u32 later] w fun e w' => e = .returned (.bool true) ∧ Below w.heap.size w w' := by
  have g0 : decide (T < now) = true := decide_eq_true hT
  have HB := Aside.mk (Below.refl w.heap.size w)
  clear hT
  go_enter Try.func4, Try.ntmps4
  go_wp2_with (first | (go_at_call 7; refine (shown_calls _).mono ?_; rintro e w1 ⟨rfl, hb⟩; obtain ⟨hc, hf⟩ := bcell hb; have hz : w.heap.size + 3 ≤ w1.heap.size := (by have h_ := hb.size; (try simp at h_); omega); have hz0 : w.heap.size < w1.heap.size := (by omega); have hz1 : w.heap.size + 1 < w1.heap.size := (by omega); have hz2 : w.heap.size + 2 < w1.heap.size := (by omega); have n0_ := Aside.mk (bel_then (by repeat (first | exact HB.out | apply bel_alloc | apply bel_drewN | apply bel_drew)) hb); clear HB; have HB := n0_; clear n0_ hb) | (go_at_call 8; refine (beats_calls _ _ _ _ _ _ _ _ _ _ _ _ _ _ _ _).mono ?_; rintro e w1 ⟨rfl, hb⟩; obtain ⟨hc, hf⟩ := bcell hb; have hz : w.heap.size + 3 ≤ w1.heap.size := (by have h_ := hb.size; (try simp at h_); omega); have hz0 : w.heap.size < w1.heap.size := (by omega); have hz1 : w.heap.size + 1 < w1.heap.size := (by omega); have hz2 : w.heap.size + 2 < w1.heap.size := (by omega); have n0_ := Aside.mk (bel_then (by repeat (first | exact HB.out | apply bel_alloc | apply bel_drewN | apply bel_drew)) hb); clear HB; have HB := n0_; clear n0_ hb))
  go_ret
  exact ⟨by first | rfl | (simp [*] <;> rfl), by repeat (first | exact HB.out | apply bel_alloc | apply bel_drewN | apply bel_drew)⟩
set_option maxHeartbeats 1000000 in
theorem chain_not (a0 a1 a2 a3 a4 b0 b1 b2 b3 b4 c0 c1 c2 c3 c4 : Value) (ra xa rb xb rc xc now later T : Int) (w : World) (ht : IntKind.u64.wrap (now + IntKind.u64.wrap later) = T) (hT : now ≤ T) (f1 : beatsB ra xa rb now = false) :
    Calls Try.prog 4 #[.agg #[a0, a1, a2, a3, a4, .int .i64 ra, .int .u64 xa], .agg #[b0, b1, b2, b3, b4, .int .i64 rb, .int .u64 xb], .agg #[c0, c1, c2, c3, c4, .int .i64 rc, .int .u64 xc], .int .u64 now, .int .u32 later] w fun e w' => e = .returned (.bool true) ∧ Below w.heap.size w w' := by
  have g0 : decide (T < now) = false := decide_eq_false (by omega)
  have HB := Aside.mk (Below.refl w.heap.size w)
  clear hT
  go_enter Try.func4, Try.ntmps4
  go_wp2_with (first | (go_at_call 7; refine (shown_calls _).mono ?_; rintro e w1 ⟨rfl, hb⟩; obtain ⟨hc, hf⟩ := bcell hb; have hz : w.heap.size + 3 ≤ w1.heap.size := (by have h_ := hb.size; (try simp at h_); omega); have hz0 : w.heap.size < w1.heap.size := (by omega); have hz1 : w.heap.size + 1 < w1.heap.size := (by omega); have hz2 : w.heap.size + 2 < w1.heap.size := (by omega); have n0_ := Aside.mk (bel_then (by repeat (first | exact HB.out | apply bel_alloc | apply bel_drewN | apply bel_drew)) hb); clear HB; have HB := n0_; clear n0_ hb) | (go_at_call 8; refine (beats_calls _ _ _ _ _ _ _ _ _ _ _ _ _ _ _ _).mono ?_; rintro e w1 ⟨rfl, hb⟩; obtain ⟨hc, hf⟩ := bcell hb; have hz : w.heap.size + 3 ≤ w1.heap.size := (by have h_ := hb.size; (try simp at h_); omega); have hz0 : w.heap.size < w1.heap.size := (by omega); have hz1 : w.heap.size + 1 < w1.heap.size := (by omega); have hz2 : w.heap.size + 2 < w1.heap.size := (by omega); have n0_ := Aside.mk (bel_then (by repeat (first | exact HB.out | apply bel_alloc | apply bel_drewN | apply bel_drew)) hb); clear HB; have HB := n0_; clear n0_ hb))
  go_ret
  exact ⟨by first | rfl | (simp [*] <;> rfl), by repeat (first | exact HB.out | apply bel_alloc | apply bel_drewN | apply bel_drew)⟩
set_option maxHeartbeats 1000000 in
theorem chain_one (a0 a1 a2 a3 a4 b0 b1 b2 b3 b4 c0 c1 c2 c3 c4 : Value) (ra xa rb xb rc xc now later T : Int) (w : World) (ht : IntKind.u64.wrap (now + IntKind.u64.wrap later) = T) (hT : now ≤ T) (f1 : beatsB ra xa rb now = true) (f2 : beatsB rb xb rc now = false) (f4 : beatsB ra xa rb T = true) :
    Calls Try.prog 4 #[.agg #[a0, a1, a2, a3, a4, .int .i64 ra, .int .u64 xa], .agg #[b0, b1, b2, b3, b4, .int .i64 rb, .int .u64 xb], .agg #[c0, c1, c2, c3, c4, .int .i64 rc, .int .u64 xc], .int .u64 now, .int .u32 later] w fun e w' => e = .returned (.bool true) ∧ Below w.heap.size w w' := by
  have g0 : decide (T < now) = false := decide_eq_false (by omega)
  have HB := Aside.mk (Below.refl w.heap.size w)
  clear hT
  go_enter Try.func4, Try.ntmps4
  go_wp2_with (first | (go_at_call 7; refine (shown_calls _).mono ?_; rintro e w1 ⟨rfl, hb⟩; obtain ⟨hc, hf⟩ := bcell hb; have hz : w.heap.size + 3 ≤ w1.heap.size := (by have h_ := hb.size; (try simp at h_); omega); have hz0 : w.heap.size < w1.heap.size := (by omega); have hz1 : w.heap.size + 1 < w1.heap.size := (by omega); have hz2 : w.heap.size + 2 < w1.heap.size := (by omega); have n0_ := Aside.mk (bel_then (by repeat (first | exact HB.out | apply bel_alloc | apply bel_drewN | apply bel_drew)) hb); clear HB; have HB := n0_; clear n0_ hb) | (go_at_call 8; refine (beats_calls _ _ _ _ _ _ _ _ _ _ _ _ _ _ _ _).mono ?_; rintro e w1 ⟨rfl, hb⟩; obtain ⟨hc, hf⟩ := bcell hb; have hz : w.heap.size + 3 ≤ w1.heap.size := (by have h_ := hb.size; (try simp at h_); omega); have hz0 : w.heap.size < w1.heap.size := (by omega); have hz1 : w.heap.size + 1 < w1.heap.size := (by omega); have hz2 : w.heap.size + 2 < w1.heap.size := (by omega); have n0_ := Aside.mk (bel_then (by repeat (first | exact HB.out | apply bel_alloc | apply bel_drewN | apply bel_drew)) hb); clear HB; have HB := n0_; clear n0_ hb))
  go_ret
  exact ⟨by first | rfl | (simp [*] <;> rfl), by repeat (first | exact HB.out | apply bel_alloc | apply bel_drewN | apply bel_drew)⟩
set_option maxHeartbeats 1000000 in
theorem chain_dead (a0 a1 a2 a3 a4 b0 b1 b2 b3 b4 c0 c1 c2 c3 c4 : Value) (ra xa rb xb rc xc now later T : Int) (w : World) (ht : IntKind.u64.wrap (now + IntKind.u64.wrap later) = T) (hT : now ≤ T) (f1 : beatsB ra xa rb now = true) (f2 : beatsB rb xb rc now = true) (hb_ : xb ≤ now) (f4 : beatsB ra xa rb T = true) :
    Calls Try.prog 4 #[.agg #[a0, a1, a2, a3, a4, .int .i64 ra, .int .u64 xa], .agg #[b0, b1, b2, b3, b4, .int .i64 rb, .int .u64 xb], .agg #[c0, c1, c2, c3, c4, .int .i64 rc, .int .u64 xc], .int .u64 now, .int .u32 later] w fun e w' => e = .returned (.bool true) ∧ Below w.heap.size w w' := by
  have g0 : decide (T < now) = false := decide_eq_false (by omega)
  have g5 : decide (xb ≤ now) = true := decide_eq_true hb_
  have HB := Aside.mk (Below.refl w.heap.size w)
  clear hT hb_
  go_enter Try.func4, Try.ntmps4
  go_wp2_with (first | (go_at_call 7; refine (shown_calls _).mono ?_; rintro e w1 ⟨rfl, hb⟩; obtain ⟨hc, hf⟩ := bcell hb; have hz : w.heap.size + 3 ≤ w1.heap.size := (by have h_ := hb.size; (try simp at h_); omega); have hz0 : w.heap.size < w1.heap.size := (by omega); have hz1 : w.heap.size + 1 < w1.heap.size := (by omega); have hz2 : w.heap.size + 2 < w1.heap.size := (by omega); have n0_ := Aside.mk (bel_then (by repeat (first | exact HB.out | apply bel_alloc | apply bel_drewN | apply bel_drew)) hb); clear HB; have HB := n0_; clear n0_ hb) | (go_at_call 8; refine (beats_calls _ _ _ _ _ _ _ _ _ _ _ _ _ _ _ _).mono ?_; rintro e w1 ⟨rfl, hb⟩; obtain ⟨hc, hf⟩ := bcell hb; have hz : w.heap.size + 3 ≤ w1.heap.size := (by have h_ := hb.size; (try simp at h_); omega); have hz0 : w.heap.size < w1.heap.size := (by omega); have hz1 : w.heap.size + 1 < w1.heap.size := (by omega); have hz2 : w.heap.size + 2 < w1.heap.size := (by omega); have n0_ := Aside.mk (bel_then (by repeat (first | exact HB.out | apply bel_alloc | apply bel_drewN | apply bel_drew)) hb); clear HB; have HB := n0_; clear n0_ hb))
  go_ret
  exact ⟨by first | rfl | (simp [*] <;> rfl), by repeat (first | exact HB.out | apply bel_alloc | apply bel_drewN | apply bel_drew)⟩
set_option maxHeartbeats 1000000 in
theorem chain_all (a0 a1 a2 a3 a4 b0 b1 b2 b3 b4 c0 c1 c2 c3 c4 : Value) (ra xa rb xb rc xc now later T : Int) (w : World) (ht : IntKind.u64.wrap (now + IntKind.u64.wrap later) = T) (hT : now ≤ T) (f1 : beatsB ra xa rb now = true) (f2 : beatsB rb xb rc now = true) (hb_ : now < xb) (f3 : beatsB ra xa rc now = true) (f4 : beatsB ra xa rb T = true) :
    Calls Try.prog 4 #[.agg #[a0, a1, a2, a3, a4, .int .i64 ra, .int .u64 xa], .agg #[b0, b1, b2, b3, b4, .int .i64 rb, .int .u64 xb], .agg #[c0, c1, c2, c3, c4, .int .i64 rc, .int .u64 xc], .int .u64 now, .int .u32 later] w fun e w' => e = .returned (.bool true) ∧ Below w.heap.size w w' := by
  have g0 : decide (T < now) = false := decide_eq_false (by omega)
  have g5 : decide (xb ≤ now) = false := decide_eq_false (by omega)
  have HB := Aside.mk (Below.refl w.heap.size w)
  clear hT hb_
  go_enter Try.func4, Try.ntmps4
  go_wp2_with (first | (go_at_call 7; refine (shown_calls _).mono ?_; rintro e w1 ⟨rfl, hb⟩; obtain ⟨hc, hf⟩ := bcell hb; have hz : w.heap.size + 3 ≤ w1.heap.size := (by have h_ := hb.size; (try simp at h_); omega); have hz0 : w.heap.size < w1.heap.size := (by omega); have hz1 : w.heap.size + 1 < w1.heap.size := (by omega); have hz2 : w.heap.size + 2 < w1.heap.size := (by omega); have n0_ := Aside.mk (bel_then (by repeat (first | exact HB.out | apply bel_alloc | apply bel_drewN | apply bel_drew)) hb); clear HB; have HB := n0_; clear n0_ hb) | (go_at_call 8; refine (beats_calls _ _ _ _ _ _ _ _ _ _ _ _ _ _ _ _).mono ?_; rintro e w1 ⟨rfl, hb⟩; obtain ⟨hc, hf⟩ := bcell hb; have hz : w.heap.size + 3 ≤ w1.heap.size := (by have h_ := hb.size; (try simp at h_); omega); have hz0 : w.heap.size < w1.heap.size := (by omega); have hz1 : w.heap.size + 1 < w1.heap.size := (by omega); have hz2 : w.heap.size + 2 < w1.heap.size := (by omega); have n0_ := Aside.mk (bel_then (by repeat (first | exact HB.out | apply bel_alloc | apply bel_drewN | apply bel_drew)) hb); clear HB; have HB := n0_; clear n0_ hb))
  go_ret
  exact ⟨by first | rfl | (simp [*] <;> rfl), by repeat (first | exact HB.out | apply bel_alloc | apply bel_drewN | apply bel_drew)⟩

theorem beatsB_iff (ro x r now : Int) : beatsB ro x r now = true ↔ (x ≤ now ∨ ro ≤ r) := by
  unfold beatsB
  simp
theorem wrap_u64 (n : Int) : IntKind.u64.wrap n = n % 18446744073709551616 := by simp [IntKind.wrap, IntKind.bits, IntKind.signed]
theorem walk (a0 a1 a2 a3 a4 b0 b1 b2 b3 b4 c0 c1 c2 c3 c4 : Value) (ra xa rb xb rc xc now later : Int) (w : World) (h0 : 0 ≤ now ∧ now ≤ 18446744073709551615) (h1 : 0 ≤ later ∧ later ≤ 4294967295) :
    Calls Try.prog 4 #[.agg #[a0, a1, a2, a3, a4, .int .i64 ra, .int .u64 xa], .agg #[b0, b1, b2, b3, b4, .int .i64 rb, .int .u64 xb], .agg #[c0, c1, c2, c3, c4, .int .i64 rc, .int .u64 xc], .int .u64 now, .int .u32 later] w fun e w' => e = .returned (.bool true) ∧ Below w.heap.size w w' := by
  obtain ⟨T, ht⟩ : ∃ T, IntKind.u64.wrap (now + IntKind.u64.wrap later) = T := ⟨_, rfl⟩
  by_cases hT : T < now
  · exact chain_wraps _ _ _ _ _ _ _ _ _ _ _ _ _ _ _ _ _ _ _ _ _ _ _ T w ht hT
  · by_cases f1 : beatsB ra xa rb now = true
    · have f4 : beatsB ra xa rb T = true := by
        rw [beatsB_iff] at *
        omega
      by_cases f2 : beatsB rb xb rc now = true
      · by_cases hb : xb ≤ now
        · exact chain_dead _ _ _ _ _ _ _ _ _ _ _ _ _ _ _ _ _ _ _ _ _ _ _ T w ht (by omega) f1 f2 hb f4
        · have f3 : beatsB ra xa rc now = true := by
            rw [beatsB_iff] at *
            omega
          exact chain_all _ _ _ _ _ _ _ _ _ _ _ _ _ _ _ _ _ _ _ _ _ _ _ T w ht (by omega) f1 f2 (by omega) f3 f4
      · exact chain_one _ _ _ _ _ _ _ _ _ _ _ _ _ _ _ _ _ _ _ _ _ _ _ T w ht (by omega) f1 (by simpa using f2) f4
    · exact chain_not _ _ _ _ _ _ _ _ _ _ _ _ _ _ _ _ _ _ _ _ _ _ _ T w ht (by omega) (by simpa using f1)
end Go.Proofs.Ytmjheknoijdfgaa.OwnChain
