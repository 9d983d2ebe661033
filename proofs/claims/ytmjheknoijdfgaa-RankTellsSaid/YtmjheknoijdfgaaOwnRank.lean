/- What the functions of package rank and of its reference answer, each by a walk of its own: whether something may take another thing's place, the rank of a section, a rank's name, the example that stands at the head of all statements. -/
import Derived.Test.YtmjheknoijdfgaaProg
import Derived.WalkKit
import Derived.Below
import Derived.WalkLawsBesides
namespace Go.Proofs.Ytmjheknoijdfgaa.Own
open Go.RowKit
set_option linter.unusedVariables false

structure Aside (p : Prop) : Prop where mk :: (out : p)
theorem bel_alloc {w W : World} (h : Below w.heap.size w W) (o : Obj) : Below w.heap.size w (W.alloc o) := h.alloc h.size o
theorem bel_drew {B : Nat} {w W : World} (h : Below B w W) : Below B w W.drew := ⟨h.os, h.tape, h.output, h.size, h.block⟩
theorem bel_drewN {B : Nat} {w W : World} (h : Below B w W) (n : Nat) : Below B w (W.drewN n) := ⟨h.os, h.tape, h.output, h.size, h.block⟩
theorem bel_then {w W w2 : World} (h : Below w.heap.size w W) (k : Below W.heap.size W w2) : Below w.heap.size w w2 :=
  h.trans ⟨k.os, k.tape, k.output, k.size, fun i hi => k.block i (Nat.lt_of_lt_of_le hi h.size)⟩

theorem bcell {W w1 : World} (hb : Below W.heap.size W w1) : (∀ b o, b < W.heap.size → w1.cell? ⟨b, o, none⟩ = W.cell? ⟨b, o, none⟩) ∧ (∀ b o, b < W.heap.size → w1.frozen? ⟨b, o, none⟩ = W.frozen? ⟨b, o, none⟩) :=
  ⟨fun b o h => hb.cell (p := ⟨b, o, none⟩) h, fun b o h => hb.frozen (p := ⟨b, o, none⟩) h⟩

/-- may something of rank r take the place of what has rank ro, and lives till x? -/
def beatsB (ro x r now : Int) : Bool := !(decide (now < x)) || decide (ro ≤ r)
set_option maxHeartbeats 400000 in
theorem beats_calls (p0 p1 p2 p3 p4 q0 q1 q2 q3 q4 : Value) (ro x r y now : Int) (w : World) :
    Calls Try.prog 8 #[.agg #[p0, p1, p2, p3, p4, .int .i64 ro, .int .u64 x], .agg #[q0, q1, q2, q3, q4, .int .i64 r, .int .u64 y], .int .u64 now] w
      fun e w' => e = .returned (.bool (beatsB ro x r now)) ∧ Below w.heap.size w w' := by
  go_enter Try.func8, Try.ntmps8
  go_wp2
  all_goals
    go_ret
    exact ⟨by simp [beatsB, *], bel_alloc (bel_alloc (Below.refl _ _) _) _⟩
set_option maxHeartbeats 400000 in
theorem refBeats_calls (p0 p1 p2 p3 p4 q0 q1 q2 q3 q4 : Value) (ro x r y now : Int) (w : World) :
    Calls Try.prog 13 #[.agg #[p0, p1, p2, p3, p4, .int .i64 ro, .int .u64 x], .agg #[q0, q1, q2, q3, q4, .int .i64 r, .int .u64 y], .int .u64 now] w
      fun e w' => e = .returned (.bool (beatsB ro x r now)) ∧ Below w.heap.size w w' := by
  by_cases h : x ≤ now
  · have h' : ¬ now < x := by omega
    go_enter Try.func13, Try.ntmps13
    go_wp2
    go_ret
    exact ⟨by simp [beatsB, h'], bel_alloc (bel_alloc (Below.refl _ _) _) _⟩
  · have h' : now < x := by omega
    go_enter Try.func13, Try.ntmps13
    go_wp2
    go_ret
    exact ⟨by simp [beatsB, h'], bel_alloc (bel_alloc (Below.refl _ _) _) _⟩

/-- a rank's name -/
def nameOf (r : Int) : ByteArray :=
  if r = 1 then ⟨#[97, 100, 100, 105, 116, 105, 111, 110, 97, 108]⟩ else if r = 2 then ⟨#[97, 117, 116, 104, 111, 114, 105, 116, 121]⟩ else if r = 3 then ⟨#[97, 110, 115, 119, 101, 114]⟩
  else if r = 4 then ⟨#[97, 117, 116, 104, 111, 114, 105, 116, 121, 32, 97, 97]⟩ else if r = 5 then ⟨#[97, 110, 115, 119, 101, 114, 32, 97, 97]⟩ else ⟨#[]⟩
theorem nameOf_out (r : Int) (h : r ≤ 0 ∨ 6 ≤ r) : nameOf r = ⟨#[]⟩ := by
  unfold nameOf
  rw [if_neg (by omega), if_neg (by omega), if_neg (by omega), if_neg (by omega), if_neg (by omega)]
set_option maxHeartbeats 1000000 in
theorem name_calls (r : Int) (w : World) : Calls Try.prog 11 #[.int .i64 r] w fun e w' => e = .returned (.string (nameOf r)) ∧ Below w.heap.size w w' := by
  by_cases h : r < 0
  · rw [nameOf_out r (by omega)]
    go_enter Try.func11, Try.ntmps11
    go_wp2
    go_ret
    exact ⟨rfl, bel_alloc (Below.refl _ _) _⟩
  · by_cases h6 : 6 ≤ r
    · have h' : decide (r < 0) = false := decide_eq_false h
      rw [nameOf_out r (by omega)]
      go_enter Try.func11, Try.ntmps11
      go_wp2
      go_ret
      exact ⟨rfl, bel_alloc (Below.refl _ _) _⟩
    · have hc : r = 0 ∨ r = 1 ∨ r = 2 ∨ r = 3 ∨ r = 4 ∨ r = 5 := by omega
      clear h h6
      rcases hc with rfl | rfl | rfl | rfl | rfl | rfl
      all_goals
        go_enter Try.func11, Try.ntmps11
        go_wp2
        go_ret
        exact ⟨rfl, bel_alloc (Below.refl _ _) _⟩
set_option maxHeartbeats 1000000 in
theorem refName_calls (r : Int) (w : World) : Calls Try.prog 12 #[.int .i64 r] w fun e w' => e = .returned (.string (nameOf r)) ∧ Below w.heap.size w w' := by
  by_cases h : r = 1 ∨ r = 2 ∨ r = 3 ∨ r = 4 ∨ r = 5
  · rcases h with rfl | rfl | rfl | rfl | rfl
    all_goals
      go_enter Try.func12, Try.ntmps12
      go_wp2
      go_ret
      exact ⟨rfl, Below.refl _ _⟩
  · have h1 : (r == 1) = false := beq_eq_false_iff_ne.mpr (by omega)
    have h2 : (r == 2) = false := beq_eq_false_iff_ne.mpr (by omega)
    have h3 : (r == 3) = false := beq_eq_false_iff_ne.mpr (by omega)
    have h4 : (r == 4) = false := beq_eq_false_iff_ne.mpr (by omega)
    have h5 : (r == 5) = false := beq_eq_false_iff_ne.mpr (by omega)
    rw [nameOf_out r (by omega)]
    clear h
    go_enter Try.func12, Try.ntmps12
    go_wp2
    go_ret
    exact ⟨rfl, Below.refl _ _⟩

/-- the rank of a section -/
def ofB (s : Int) (aa : Bool) : Int := if s = 1 then (if aa = true then 5 else 3) else if s = 2 then (if aa = true then 4 else 2) else if s = 3 then 1 else 0
theorem ofB_out (s : Int) (aa : Bool) (h : s < 1 ∨ 3 < s) : ofB s aa = 0 := by
  unfold ofB
  rw [if_neg (by omega), if_neg (by omega), if_neg (by omega)]
set_option maxHeartbeats 1000000 in
theorem of_calls (s : Int) (aa : Bool) (w : World) : Calls Try.prog 9 #[.int .i64 s, .bool aa] w fun e w' => e = .returned (.int .i64 (ofB s aa)) ∧ Below w.heap.size w w' := by
  by_cases h : s < 1
  · rw [ofB_out s aa (by omega)]
    go_enter Try.func9, Try.ntmps9
    go_wp2
    go_ret
    exact ⟨rfl, bel_alloc (Below.refl _ _) _⟩
  · by_cases h6 : 3 < s
    · rw [ofB_out s aa (by omega)]
      have h' : decide (s < 1) = false := decide_eq_false h
      go_enter Try.func9, Try.ntmps9
      go_wp2
      go_ret
      exact ⟨rfl, bel_alloc (Below.refl _ _) _⟩
    · have hc : s = 1 ∨ s = 2 ∨ s = 3 := by omega
      clear h h6
      rcases hc with rfl | rfl | rfl <;> cases aa
      all_goals
        go_enter Try.func9, Try.ntmps9
        go_wp2
        go_ret
        exact ⟨rfl, bel_alloc (Below.refl _ _) _⟩
set_option maxHeartbeats 1000000 in
theorem refOf_calls (s : Int) (aa : Bool) (w : World) : Calls Try.prog 10 #[.int .i64 s, .bool aa] w fun e w' => e = .returned (.int .i64 (ofB s aa)) ∧ Below w.heap.size w w' := by
  by_cases h : s = 1 ∨ s = 2 ∨ s = 3
  · rcases h with rfl | rfl | rfl <;> cases aa
    all_goals
      go_enter Try.func10, Try.ntmps10
      go_wp2
      go_ret
      exact ⟨rfl, by repeat (first | exact Below.refl _ _ | apply bel_drewN | apply bel_drew)⟩
  · have h1 : (s == 1) = false := beq_eq_false_iff_ne.mpr (by omega)
    have h2 : (s == 2) = false := beq_eq_false_iff_ne.mpr (by omega)
    have h3 : (s == 3) = false := beq_eq_false_iff_ne.mpr (by omega)
    rw [ofB_out s aa (by omega)]
    clear h
    go_enter Try.func10, Try.ntmps10
    go_wp2
    go_ret
    exact ⟨rfl, by repeat (first | exact Below.refl _ _ | apply bel_drewN | apply bel_drew)⟩

set_option maxHeartbeats 1000000 in
theorem shown_calls (w : World) : Calls Try.prog 7 #[] w fun e w' => e = .returned (.bool true) ∧ Below w.heap.size w w' := by
  have b1 : beatsB 3 9 5 5 = true := rfl
  have b2 : beatsB 3 9 1 5 = false := rfl
  have n3 : nameOf 3 = ⟨#[97, 110, 115, 119, 101, 114]⟩ := rfl
  have HB := Aside.mk (Below.refl w.heap.size w)
  go_enter Try.func7, Try.ntmps7
  go_wp2_with (first | (go_at_call 8; refine (beats_calls _ _ _ _ _ _ _ _ _ _ _ _ _ _ _ _).mono ?_; rintro e w1 ⟨rfl, hb⟩; obtain ⟨hc, hf⟩ := bcell hb; have n0_ := Aside.mk (bel_then (by repeat (first | exact HB.out | apply bel_alloc | apply bel_drewN | apply bel_drew)) hb); clear HB; have HB := n0_; clear n0_ hb) | (go_at_call 11; refine (name_calls _ _).mono ?_; rintro e w1 ⟨rfl, hb⟩; have n0_ := Aside.mk (bel_then (by repeat (first | exact HB.out | apply bel_alloc | apply bel_drewN | apply bel_drew)) hb); clear HB; have HB := n0_; clear n0_ hb))
  go_ret
  exact ⟨rfl, by repeat (first | exact HB.out | apply bel_alloc | apply bel_drewN | apply bel_drew)⟩
end Go.Proofs.Ytmjheknoijdfgaa.Own
