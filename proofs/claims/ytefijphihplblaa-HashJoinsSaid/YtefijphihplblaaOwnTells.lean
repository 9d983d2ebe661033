/- HashTells: any text's sum, any question's key and shard, and how any questions are spread over any number of shards are what the reference answers; for every input within the bounds that the statement names. -/
import Derived.Test.YtefijphihplblaaOwnSpread
import Derived.Deep.RegionHeld3
namespace Go.Proofs.Ytefijphihplblaa.OwnTells
open Go.RowKit Go.Proofs.Ytefijphihplblaa.PHashTells Go.Proofs.Ytefijphihplblaa.OwnHashP Go.Proofs.Ytefijphihplblaa.OwnHash Go.Proofs.Ytefijphihplblaa.OwnSpread Go.Proofs.YtefijphihplblaaW.PrintWords Go.Proofs.YtefijphihplblaaW.PrintLast Go.Proofs.YtefijphihplblaaW.PrintMore
set_option linter.unusedVariables false
theorem keep_cell {W w1 : World} (hb : Below W.heap.size W w1) {b o : Nat} {v : Value} (h : W.cell? ⟨b, o, none⟩ = some v) : w1.cell? ⟨b, o, none⟩ = some v := by
  have hlt : b < W.heap.size := World.block_lt_of_cell? W ⟨b, o, none⟩ h
  rw [hb.cell (p := ⟨b, o, none⟩) hlt]
  exact h
theorem keep_all {w W w9 : World} {A : Option Addr} {l : List S29} {b1 : Nat} {u0 u1 u2 : Value} (H : (Below w.heap.size w W ∧ k29.C W A l.length l ∧ W.cell? ⟨b1, 0, none⟩ = some (u0) ∧ W.cell? ⟨b1, 1, none⟩ = some (u1) ∧ W.cell? ⟨b1, 2, none⟩ = some (u2))) (hb : Below W.heap.size W w9) :
    (Below w.heap.size w w9 ∧ k29.C w9 A l.length l ∧ w9.cell? ⟨b1, 0, none⟩ = some (u0) ∧ w9.cell? ⟨b1, 1, none⟩ = some (u1) ∧ w9.cell? ⟨b1, 2, none⟩ = some (u2)) :=
  ⟨below_step H.1 hb, Kd.C_below H.2.1 hb, keep_cell hb H.2.2.1, keep_cell hb H.2.2.2.1, keep_cell hb H.2.2.2.2⟩
theorem keep_drew {w W : World} {A : Option Addr} {l : List S29} {b1 : Nat} {u0 u1 u2 : Value} (H : (Below w.heap.size w W ∧ k29.C W A l.length l ∧ W.cell? ⟨b1, 0, none⟩ = some (u0) ∧ W.cell? ⟨b1, 1, none⟩ = some (u1) ∧ W.cell? ⟨b1, 2, none⟩ = some (u2))) :
    (Below w.heap.size w W.drew ∧ k29.C W.drew A l.length l ∧ W.drew.cell? ⟨b1, 0, none⟩ = some (u0) ∧ W.drew.cell? ⟨b1, 1, none⟩ = some (u1) ∧ W.drew.cell? ⟨b1, 2, none⟩ = some (u2)) :=
  ⟨below_drew1 H.1, Kd.C_drew H.2.1, H.2.2⟩
theorem key_any (n : ByteArray) (t c : Int) (hx : GoodQ ⟨n, t, c⟩) (w : World) : Calls Try.prog 10 #[.agg #[.string n, .int .u16 t, .int .u16 c]] w fun e w' => e = .returned (.string (keyB ⟨n, t, c⟩)) ∧ Below w.heap.size w w' :=
  hash_Key.calls 3 _ _ _ _ w (key_is ⟨n, t, c⟩ hx 3 (by decide))
theorem refKey_any (n : ByteArray) (t c : Int) (hx : GoodQ ⟨n, t, c⟩) (w : World) : Calls Try.prog 13 #[.agg #[.string n, .int .u16 t, .int .u16 c]] w fun e w' => e = .returned (.string (keyB ⟨n, t, c⟩)) ∧ Below w.heap.size w w' :=
  derrickref09_Key.calls _ _ _ _ w (refKey_is ⟨n, t, c⟩ hx)
theorem below_drawn {w w' : World} (h : Drawn0 w w') : Below w.heap.size w w' := by
  obtain ⟨⟨n, rfl⟩⟩ := h
  exact pw_below_drewN (Below.refl _ _) n
theorem of_any (s : ByteArray) (hs : s.size ≤ 2000) (w : World) : Calls Try.prog 9 #[.string s] w fun e w' => e = .returned (.int .u32 (sumOf s)) ∧ Below w.heap.size w w' :=
  (hash_Of.calls 2001 s _ w (of_is s (by omega) 2001 (by omega))).mono fun _ _ h => ⟨h.1, below_drawn h.2⟩
theorem refOf_any (s : ByteArray) (hs : s.size ≤ 2000) (w : World) : Calls Try.prog 12 #[.string s] w fun e w' => e = .returned (.int .u32 (sumOf s)) ∧ Below w.heap.size w w' :=
  (derrickref09_Of.calls 2001 s _ w (refOf_is s (by omega) 2001 (by omega))).mono fun _ _ h => ⟨h.1, below_drawn h.2⟩
theorem refShard_any (n : ByteArray) (t c m : Int) (hx : GoodQ ⟨n, t, c⟩) (hm : m ≤ 9223372036854775807) (w : World) : Calls Try.prog 15 #[.agg #[.string n, .int .u16 t, .int .u16 c], .int .i64 m] w fun e w' => e = .returned (.int .i64 (shardOf ⟨n, t, c⟩ m)) ∧ Below w.heap.size w w' :=
  derrickref09_Shard.calls 311 _ _ _ _ _ w (refShard_is ⟨n, t, c⟩ hx m hm 311 (by decide))
theorem refSpread_calls (A : Option Addr) (cap : Nat) (l : List S29) (m : Int) (w : World) (hr : k29.C w A l.length l) (hc : l.length ≤ cap) (hl : l.length ≤ 200) (hg : ∀ x ∈ l, GoodQ x) :
    Calls Try.prog 18 #[.slice A l.length cap, .int .i64 m] w (SpreadPost l m w) := by
  refine (derrickref09_Spread.calls 4000 A cap l m (spreadOf l m) w hr hc (refSpread_is l hg hl m 4000 (by decide))).mono ?_
  rintro e w' ⟨v, rfl, hR, hb⟩
  obtain ⟨B, c, rfl, h1, h2⟩ := Kd.R_reads hR
  exact ⟨B, c, rfl, h1, h2, hb⟩
theorem ints_same (A B : Option Addr) (c d : Nat) (x : List Int) (w : World) (h0 : Kd.C (Kd.int .i64) w A x.length x) (h1 : x.length ≤ c) (h2 : Kd.C (Kd.int .i64) w B x.length x) (h3 : x.length ≤ d) (hs : x.length ≤ 1000) :
    Calls Try.prog 16 #[.slice A x.length c, .slice B x.length d] w fun e w' => e = .returned (.bool true) ∧ Below w.heap.size w w' := by
  have hi := ints_is x x (by omega) 1001 (by omega)
  rw [decide_eq_true rfl] at hi
  exact (derrickref09_Ints.calls 1001 A c x B d x true w h0 h1 h2 h3 hi).mono fun _ _ h => ⟨h.1, below_drawn h.2⟩
theorem spread_short (l : List S29) (m : Int) : (spreadOf l m).length ≤ 1000 := by
  unfold spreadOf
  split
  · rw [countsTo_length]; omega
  · simp
theorem shown_calls (w : World) : Calls Try.prog 8 #[] w fun e w' => e = .returned (.bool true) ∧ Drawn0 w w' := derricklaw09_shown.calls 2 true w (shown_is 2 (by decide))
theorem few_calls (A : Option Addr) (cap : Nat) (l : List S29) (w : World) (hr : k29.C w A l.length l) (hc : l.length ≤ cap) (h : Few l) : Calls Try.prog 11 #[.slice A l.length cap] w fun e w' => e = .returned (.bool true) ∧ Drawn0 w w' :=
  derricklaw09_few.calls 404 A cap l true w hr hc (few_yes l h 404 (by decide))
theorem many_calls (A : Option Addr) (cap : Nat) (l : List S29) (w : World) (hr : k29.C w A l.length l) (hc : l.length ≤ cap) (h : ¬ Few l) (hs : l.length ≤ 9223372036854775806) : Calls Try.prog 11 #[.slice A l.length cap] w fun e w' => e = .returned (.bool false) ∧ Drawn0 w w' :=
  derricklaw09_few.calls 404 A cap l false w hr hc (few_no l h hs 404 (by decide))
set_option maxHeartbeats 1000000 in
theorem tells_long (s n : ByteArray) (t c : Int) (A : Option Addr) (cap : Nat) (l : List S29) (m : Int) (w : World) (h : 2000 < s.size) :
    Calls Try.prog 5 #[.string s, .agg #[.string n, .int .u16 t, .int .u16 c], .slice A l.length cap, .int .i64 m] w fun e w' => e = .returned (.bool true) ∧ Below w.heap.size w w' := by
  have g1 : decide (2000 < (s.size : Int)) = true := decide_eq_true (by omega)
  have HB := Aside0.mk (Below.refl w.heap.size w)
  go_enter Try.func5, Try.ntmps5
  go_wp2_with (go_at_call 8; refine (shown_calls _).mono ?_; rintro e w1 ⟨rfl, ⟨m1, rfl⟩⟩)
  go_ret
  exact ⟨rfl, by repeat (first | exact HB.out | apply below_alloc | apply pw_below_drewN | apply below_drew1)⟩
set_option maxHeartbeats 1000000 in
theorem tells_name (s n : ByteArray) (t c : Int) (A : Option Addr) (cap : Nat) (l : List S29) (m : Int) (w : World) (h : s.size ≤ 2000) (h2 : 300 < n.size) :
    Calls Try.prog 5 #[.string s, .agg #[.string n, .int .u16 t, .int .u16 c], .slice A l.length cap, .int .i64 m] w fun e w' => e = .returned (.bool true) ∧ Below w.heap.size w w' := by
  have g1 : decide (2000 < (s.size : Int)) = false := decide_eq_false (by omega)
  have g2 : decide (300 < (n.size : Int)) = true := decide_eq_true (by omega)
  have HB := Aside0.mk (Below.refl w.heap.size w)
  go_enter Try.func5, Try.ntmps5
  go_wp2_with (go_at_call 8; refine (shown_calls _).mono ?_; rintro e w1 ⟨rfl, ⟨m1, rfl⟩⟩)
  go_ret
  exact ⟨rfl, by repeat (first | exact HB.out | apply below_alloc | apply pw_below_drewN | apply below_drew1)⟩
set_option maxHeartbeats 1000000 in
theorem tells_many (s n : ByteArray) (t c : Int) (A : Option Addr) (cap : Nat) (l : List S29) (m : Int) (w : World) (h : s.size ≤ 2000) (h2 : n.size ≤ 300) (hr : k29.C w A l.length l) (hc : l.length ≤ cap) (hf : ¬ Few l) (hs : l.length ≤ 9223372036854775806) :
    Calls Try.prog 5 #[.string s, .agg #[.string n, .int .u16 t, .int .u16 c], .slice A l.length cap, .int .i64 m] w fun e w' => e = .returned (.bool true) ∧ Below w.heap.size w w' := by
  have g1 : decide (2000 < (s.size : Int)) = false := decide_eq_false (by omega)
  have g2 : decide (300 < (n.size : Int)) = false := decide_eq_false (by omega)
  have HR := Aside0.mk hr
  have HC := Aside0.mk hc
  have HF := Aside0.mk hf
  have HS := Aside0.mk hs
  clear hr hc hf hs h h2
  have HB := Aside0.mk (Below.refl w.heap.size w)
  go_enter Try.func5, Try.ntmps5
  go_wp2_with (first | (go_at_call 8; refine (shown_calls _).mono ?_; rintro e w1 ⟨rfl, ⟨m1, rfl⟩⟩) | (go_at_call 11; refine (many_calls _ _ _ _ ?_ HC.out HF.out HS.out).mono ?_; (exact Kd.C_below HR.out (by repeat (first | exact Below.refl _ _ | apply below_alloc | apply pw_below_drewN | apply below_drew1))); rintro e w2 ⟨rfl, ⟨m2, rfl⟩⟩))
  go_ret
  exact ⟨rfl, by repeat (first | exact HB.out | apply below_alloc | apply pw_below_drewN | apply below_drew1)⟩
set_option maxHeartbeats 2000000 in
set_option maxRecDepth 100000 in
theorem tells_all (s n : ByteArray) (t c : Int) (A : Option Addr) (cap : Nat) (l : List S29) (m : Int) (w : World) (hs : s.size ≤ 2000) (hx : GoodQ ⟨n, t, c⟩) (hr : k29.C w A l.length l) (hc : l.length ≤ cap) (hf : Few l) (hg : ∀ x ∈ l, GoodQ x) (hm : m ≤ 9223372036854775807) :
    Calls Try.prog 5 #[.string s, .agg #[.string n, .int .u16 t, .int .u16 c], .slice A l.length cap, .int .i64 m] w fun e w' => e = .returned (.bool true) ∧ Below w.heap.size w w' := by
  have hn : n.size ≤ 300 := hx.small
  have g1 : decide (2000 < (s.size : Int)) = false := decide_eq_false (by omega)
  have g2 : decide (300 < (n.size : Int)) = false := decide_eq_false (by omega)
  have HX := Aside0.mk hx
  have HR := Aside0.mk hr
  have HC := Aside0.mk hc
  have HF := Aside0.mk hf
  have HN := Aside0.mk hf.1
  have HG := Aside0.mk hg
  have HL := Aside0.mk hs
  have HM := Aside0.mk hm
  have HI := Aside0.mk (spread_short l m)
  clear hr hc hf hs hx hg hm hn
  have HB := Aside0.mk (Below.refl w.heap.size w)
  go_enter Try.func5, Try.ntmps5
  go_wp2_with (first | (go_at_call 8; refine (shown_calls _).mono ?_; rintro e w1 ⟨rfl, ⟨m1, rfl⟩⟩) | (go_at_call 11; refine (few_calls _ _ _ _ ?_ HC.out HF.out).mono ?_; (exact Kd.C_below HR.out (by repeat (first | exact Below.refl _ _ | apply below_alloc | apply pw_below_drewN | apply below_drew1))); rintro e w2 ⟨rfl, ⟨m2, rfl⟩⟩))
  have HS : (Below w.heap.size w ((w.alloc (.cells #[.string n, .int .u16 t, .int .u16 c] 29)).drewN (m1 + m2)) ∧ k29.C ((w.alloc (.cells #[.string n, .int .u16 t, .int .u16 c] 29)).drewN (m1 + m2)) A l.length l ∧ ((w.alloc (.cells #[.string n, .int .u16 t, .int .u16 c] 29)).drewN (m1 + m2)).cell? ⟨w.heap.size, 0, none⟩ = some (.string n) ∧ ((w.alloc (.cells #[.string n, .int .u16 t, .int .u16 c] 29)).drewN (m1 + m2)).cell? ⟨w.heap.size, 1, none⟩ = some (.int .u16 t) ∧ ((w.alloc (.cells #[.string n, .int .u16 t, .int .u16 c] 29)).drewN (m1 + m2)).cell? ⟨w.heap.size, 2, none⟩ = some (.int .u16 c)) := ⟨by repeat (first | exact HB.out | apply below_alloc | apply pw_below_drewN | apply below_drew1), Kd.C_below HR.out (by repeat (first | exact Below.refl _ _ | apply below_alloc | apply pw_below_drewN | apply below_drew1)), by simp⟩
  clear HB
  generalize ((w.alloc (.cells #[.string n, .int .u16 t, .int .u16 c] 29)).drewN (m1 + m2)) = W2 at HS ⊢
  go_region_held3 (fun w' => (Below w.heap.size w w' ∧ k29.C w' A l.length l ∧ w'.cell? ⟨w.heap.size, 0, none⟩ = some (.string n) ∧ w'.cell? ⟨w.heap.size, 1, none⟩ = some (.int .u16 t) ∧ w'.cell? ⟨w.heap.size, 2, none⟩ = some (.int .u16 c))) (first | exact keep_all (by assumption) hb | exact HS | exact keep_drew HS) (first | (go_at_call 9; refine (of_any _ ?_ _).mono ?_; exact HL.out; rintro e_ w9 ⟨rfl, hb⟩) | (go_at_call 12; refine (refOf_any _ ?_ _).mono ?_; exact HL.out; rintro e_ w9 ⟨rfl, hb⟩) | (go_at_call 10; refine (key_any _ _ _ HX.out _).mono ?_; rintro e_ w9 ⟨rfl, hb⟩) | (go_at_call 13; refine (refKey_any _ _ _ HX.out _).mono ?_; rintro e_ w9 ⟨rfl, hb⟩) | (go_at_call 14; refine (shard_calls _ _ _ _ HX.out _).mono ?_; rintro e_ w9 ⟨rfl, hb⟩) | (go_at_call 15; refine (refShard_any _ _ _ _ HX.out HM.out _).mono ?_; rintro e_ w9 ⟨rfl, hb⟩) | (go_at_call 17; refine (spread_calls _ _ _ _ _ ?_ HC.out HN.out HG.out).mono ?_; (exact (And.left (And.right (by assumption : Below w.heap.size w _ ∧ k29.C _ A l.length l ∧ _)))); rintro e_ w9 ⟨B1, c1, rfl, hl1, hC1, hb⟩) | (go_at_call 18; refine (refSpread_calls _ _ _ _ _ ?_ HC.out HN.out HG.out).mono ?_; (exact (And.left (And.right (by assumption : Below w.heap.size w _ ∧ k29.C _ A l.length l ∧ _)))); rintro e_ w9 ⟨B2, c2, rfl, hl2, hC2, hb⟩; have hC3 := Kd.C_below hC1 hb) | (go_at_call 16; refine (ints_same _ _ _ _ _ _ hC3 hl1 hC2 hl2 HI.out).mono ?_; rintro e_ w9 ⟨rfl, hb⟩))
  rename_i HF2
  go_wp2
  go_ret
  exact ⟨by first | rfl | (simp [*] <;> rfl), HF2.1⟩

theorem walk (s n : ByteArray) (t c : Int) (A : Option Addr) (cap : Nat) (l : List S29) (m : Int) (w : World) (hr : k29.C w A l.length l) (hc : l.length ≤ cap) (hs : l.length ≤ 9223372036854775806) (ht : 0 ≤ t ∧ t ≤ 65535) (hcc : 0 ≤ c ∧ c ≤ 65535) (hg : ∀ x ∈ l, (0 ≤ x.f1 ∧ x.f1 ≤ 65535) ∧ (0 ≤ x.f2 ∧ x.f2 ≤ 65535)) (hm : m ≤ 9223372036854775807) :
    Calls Try.prog 5 #[.string s, .agg #[.string n, .int .u16 t, .int .u16 c], .slice A l.length cap, .int .i64 m] w fun e w' => e = .returned (.bool true) ∧ Below w.heap.size w w' := by
  by_cases h1 : 2000 < s.size
  · exact tells_long s n t c A cap l m w h1
  · by_cases h2 : 300 < n.size
    · exact tells_name s n t c A cap l m w (by omega) h2
    · by_cases hf : Few l
      · exact tells_all s n t c A cap l m w (by omega) ⟨by show n.size ≤ 300; omega, ht, hcc⟩ hr hc hf (fun x hx => ⟨hf.2 x hx, (hg x hx).1, (hg x hx).2⟩) hm
      · exact tells_many s n t c A cap l m w (by omega) (by omega) hr hc hf hs
end Go.Proofs.Ytefijphihplblaa.OwnTells
