/- HashJoins: questions of two lists are spread as both together, one by one, and over one shard all stand there; for every two lists of questions and number of shards. -/
import Derived.Test.YtefijphihplblaaOwnSpreads
import Derived.Test.YtefijphihplblaaOwnSpreadB
import Derived.Deep.QuietTactic
import Derived.BigQuiet
namespace Go.Proofs.Ytefijphihplblaa.OwnJoins
open Go.RowKit Go.Proofs.Ytefijphihplblaa.PHashTells Go.Proofs.Ytefijphihplblaa.OwnHashP Go.Proofs.Ytefijphihplblaa.OwnHash Go.Proofs.Ytefijphihplblaa.OwnSpread Go.Proofs.Ytefijphihplblaa.OwnSpreadB Go.Proofs.Ytefijphihplblaa.OwnTells Go.Proofs.Ytefijphihplblaa.OwnSpreads Go.Proofs.YtefijphihplblaaW.PrintWords Go.Proofs.YtefijphihplblaaW.PrintLast Go.Proofs.YtefijphihplblaaW.PrintMore
set_option linter.unusedVariables false

theorem info29 : (Try.prog.info? 29).map (fun i => (i.zero, i.size, i.bytes)) = some (some (.agg #[.string ⟨#[]⟩, .int .u16 0, .int .u16 0]), 3, 24) := by kernel_rfl
theorem k29_made {W : World} {base : Nat} {ok : Nat → Prop} (x : S29) (cs : List Value) (h : k29.K W x cs) : k29.M W base ok x cs := by
  obtain rfl := k29_open h
  exact k29_mkM W base ok x
theorem spreadB_at (A : Option Addr) (cap : Nat) (xs : List S29) (n : Nat) (m : Int) (w : World) (hn : xs.length = n) (hr : k29.C w A n xs) (hc : n ≤ cap) (hl : xs.length ≤ 1000) (hg : ∀ x ∈ xs, GoodQ x) :
    Calls Try.prog 17 #[.slice A n cap, .int .i64 m] w (SpreadPost xs m w) := by
  subst hn
  exact spreadB_calls A cap xs m w hr hc hl hg
theorem spread_one (l : List S29) : spreadOf l 1 = [(l.length : Int)] := by
  unfold spreadOf
  rw [if_pos (by decide)]
  have h0 : ∀ x ∈ l, shardOf x 1 = 0 := fun x _ => by have := shardOf_range x 1 (by decide); omega
  have h1 : countOf l 1 0 = l.length := by
    unfold countOf
    rw [List.countP_eq_length.2]
    intro x hx
    simp [h0 x hx]
  show [countOf l 1 ((0 : Nat) : Int)] = _
  rw [show (((0 : Nat) : Int)) = 0 from rfl, h1]
theorem ints_one (l : List S29) (A B : Option Addr) (c d : Nat) (w : World) (h0 : Kd.C (Kd.int .i64) w A (spreadOf l 1).length (spreadOf l 1)) (h1 : (spreadOf l 1).length ≤ c) (h2 : Kd.C (Kd.int .i64) w B 1 [(l.length : Int)]) (h3 : 1 ≤ d) :
    Calls Try.prog 16 #[.slice A (spreadOf l 1).length c, .slice B 1 d] w fun e w' => e = .returned (.bool true) ∧ Below w.heap.size w w' := by
  rw [spread_one] at h0 h1 ⊢
  exact ints_same A B c d [(l.length : Int)] w h0 h1 h2 h3 (by simp)
set_option maxHeartbeats 4000000 in
set_option maxRecDepth 100000 in
theorem joins_all (A A2 : Option Addr) (cap cap2 : Nat) (l k : List S29) (b : Int) (m : Int) (w : World) (hb0 : 0 ≤ b) (hb1 : b ≤ 255) (hm : 1 + b % 16 = m) (h1 : 1 ≤ m) (h2 : m ≤ 16) (hr : k29.C w A l.length l) (hc : l.length ≤ cap) (hf : Few l) (hg : ∀ x ∈ l, GoodQ x)
    (hr2 : k29.C w A2 k.length k) (hc2 : k.length ≤ cap2) (hf2 : Few k) (hg2 : ∀ x ∈ k, GoodQ x) :
    Calls Try.prog 7 #[.slice A l.length cap, .slice A2 k.length cap2, .int .u8 b] w fun e w' => e = .returned (.bool true) ∧ Below w.heap.size w w' := by
  have HR := Aside0.mk hr
  have HC := Aside0.mk hc
  have HF := Aside0.mk hf
  have HN := Aside0.mk hf.1
  have HG := Aside0.mk hg
  have HR2 := Aside0.mk hr2
  have HC2 := Aside0.mk hc2
  have HF2 := Aside0.mk hf2
  have HN2 := Aside0.mk hf2.1
  have HG2 := Aside0.mk hg2
  have hn := hf.1
  have hn2 := hf2.1
  have HG3 := Aside0.mk (show ∀ x ∈ l ++ k, GoodQ x from fun x hx => (List.mem_append.1 hx).elim (hg x) (hg2 x))
  have HN3 := Aside0.mk (show (l ++ k).length ≤ 1000 by rw [List.length_append]; omega)
  have z1 := spread_len l m h1 h2
  have z2 := spread_len k m h1 h2
  have z3 := spread_len (l ++ k) m h1 h2
  have g1 : (((spreadOf l m).length : Int) != m) = false := by rw [bne_eq_false_iff_eq]; omega
  have g2 : (((spreadOf k m).length : Int) != m) = false := by rw [bne_eq_false_iff_eq]; omega
  have g3 : (((spreadOf (l ++ k) m).length : Int) != m) = false := by rw [bne_eq_false_iff_eq]; omega
  have q1 : m ≤ ((spreadOf l m).length : Int) := by omega
  have q2 : m ≤ ((spreadOf k m).length : Int) := by omega
  have q3 : m ≤ ((spreadOf (l ++ k) m).length : Int) := by omega
  clear hr hc hf hg hr2 hc2 hf2 hg2 z1 z2 z3
  have HB := Aside0.mk (Below.refl w.heap.size w)
  go_enter Try.func7, Try.ntmps7
  go_wp2_with (first | (go_at_call 8; refine (shown_calls _).mono ?_; rintro e w1 ⟨rfl, ⟨m1, rfl⟩⟩) | (go_at_call 11; refine (few_calls _ _ _ _ ?_ ?_ ?_).mono ?_; (first | exact Kd.C_below HR.out (by repeat (first | exact HB.out | apply below_alloc | apply pw_below_drewN | apply below_drew1)) | exact Kd.C_below HR2.out (by repeat (first | exact HB.out | apply below_alloc | apply pw_below_drewN | apply below_drew1))); (first | exact HC.out | exact HC2.out); (first | exact HF.out | exact HF2.out); rintro e w2 ⟨rfl, ⟨m2, rfl⟩⟩) | ((with_reducible refine gate_callee (f := 17) rfl ?_); refine goesL_ (some 29) rfl rfl Try.func17 (by kernel_rfl) rfl #[.slice A l.length cap, .int .i64 m] rfl (by (try simp only [List.map_toArray, List.map_cons, List.map_nil]); first | done | rfl) ?_; refine (spread_calls A cap l m _ ?_ HC.out HN.out HG.out).mono ?_; (exact Kd.C_below HR.out (by repeat (first | exact HB.out | apply below_alloc | apply pw_below_drewN | apply below_drew1))); rintro e_ w7 ⟨B1, c1, rfl, hl1, hC1, hb⟩; refine ⟨_, rfl, ?_⟩; have n0_ := Aside0.mk (below_step (by repeat (first | exact HB.out | apply below_alloc | apply pw_below_drewN | apply below_drew1)) hb); have HX1 := Aside0.mk hC1; clear HB hb hl1 hC1; have HB := n0_; clear n0_) | ((with_reducible refine gate_callee (f := 17) rfl ?_); refine goesL_ (some 32) rfl rfl Try.func17 (by kernel_rfl) rfl #[.slice A2 k.length cap2, .int .i64 m] rfl (by (try simp only [List.map_toArray, List.map_cons, List.map_nil]); first | done | rfl) ?_; refine (spread_calls A2 cap2 k m _ ?_ HC2.out HN2.out HG2.out).mono ?_; (exact Kd.C_below HR2.out (by repeat (first | exact HB.out | apply below_alloc | apply pw_below_drewN | apply below_drew1))); rintro e_ w8 ⟨B2, c2, rfl, hl2, hC2, hb⟩; refine ⟨_, rfl, ?_⟩; have n0_ := Aside0.mk (below_step (by repeat (first | exact HB.out | apply below_alloc | apply pw_below_drewN | apply below_drew1)) hb); have n1_ := Aside0.mk (Kd.C_below (by first | exact HX1.out | exact Kd.C_drewN HX1.out _ | exact Kd.C_drew HX1.out) hb); have HX2 := Aside0.mk hC2; have H8 := Aside0.mk (Below.refl w8.heap.size w8); clear HB HX1 hb hl2 hC2; have HB := n0_; have HX1 := n1_; clear n0_ n1_) | ((with_reducible refine gate_dst (N := 33) rfl ?_); refine Kd.R_lit k29 (w0 := w8) w8.heap.size 29 ?hg (N := 33) ?hd (xs := ([] : List S29)) (inner := []) (ok := fun _ => True) (okp := fun _ => True) ?hr ?hp (fun _ hk => hk) trivial (Below.refl _ _) (Nat.le_refl _) (by simp) ?_; (case hd => rfl); (case hg => rfl); (case hr => first | (go_simp; done) | (go_simp; rfl)); (case hp => exact (Reps.none _ _)); intro v1 w9 ho hb hg_ hnew_; clear hg_ hnew_; have HV1 := Aside0.mk ho; have n0_ := Aside0.mk hb; clear H8 ho hb; have H8 := n0_; clear n0_) | ((with_reducible refine gate_builtin (b := .append) (xs := #[.tmp 33, .tmp 34]) rfl ?_); at_builtin; refine Kd.R_append_rows k29 (Rr := k29.K w) (w0 := w8) w8.heap.size rfl (.tmp 33) (.tmp 34) 32 29 (.agg #[.string ⟨#[]⟩, .int .u16 0, .int .u16 0]) 24 rfl Try.underlying32 info29 rfl (by decide) (by omega) v1 ([] : List S29) l _ _ _ (fun _ => True) (fun k_ => True ∧ some k_ ≠ (v1 : Value).ownBlock) rfl rfl ?aO ?aR (fun x cs h => k29_made x cs h) (fun _ hk => hk) (fun _ _ => trivial) ?aB ?aS ?aL ?_; (case aO => exact HV1.out); (case aR => exact (Kd.C_below HR.out (below_step HB.out H8.out))); (case aB => exact H8.out); (case aS => exact H8.out.size); (case aL => simp; omega); intro v2 w10 ho hb hg_ hat_; clear hg_ hat_; have HV2 := Aside0.mk ho; have n0_ := Aside0.mk hb; clear H8 ho hb; have H8 := n0_; clear n0_) | ((with_reducible refine gate_builtin (b := .append) (xs := #[.tmp 35, .tmp 36]) rfl ?_); at_builtin; refine Kd.R_append_rows k29 (Rr := k29.K w) (w0 := w8) w8.heap.size rfl (.tmp 35) (.tmp 36) 32 29 (.agg #[.string ⟨#[]⟩, .int .u16 0, .int .u16 0]) 24 rfl Try.underlying32 info29 rfl (by decide) (by omega) v2 ([] ++ l) k _ _ _ (fun _ => True) (fun k_ => True ∧ some k_ ≠ (v2 : Value).ownBlock) rfl rfl ?aO ?aR (fun x cs h => k29_made x cs h) (fun _ hk => hk) (fun _ _ => trivial) ?aB ?aS ?aL ?_; (case aO => exact HV2.out); (case aR => exact (Kd.C_below HR2.out (below_step HB.out H8.out))); (case aB => exact H8.out); (case aS => exact H8.out.size); (case aL => simp; omega); intro v3 w11 ho hb hg_ hat_; clear hg_ hat_; have HV3 := Aside0.mk ho; have n0_ := Aside0.mk hb; clear H8 ho hb; have H8 := n0_; clear n0_; obtain ⟨A3, c3, rfl, h3, hC3⟩ := Kd.R_reads HV3.out; clear HV3; have HY3 := Aside0.mk (show k29.C w11 A3 (l.length + k.length) (l ++ k) by simpa using hC3); have HC3 := Aside0.mk (show l.length + k.length ≤ c3 by simpa using h3); clear hC3 h3) | ((with_reducible refine gate_callee (f := 17) rfl ?_); refine goesL_ (some 39) rfl rfl Try.func17 (by kernel_rfl) rfl #[.slice A3 (l.length + k.length) c3, .int .i64 m] rfl (by (try simp only [List.map_toArray, List.map_cons, List.map_nil]); first | done | rfl) ?_; refine (spreadB_at A3 c3 (l ++ k) _ m _ (by simp) HY3.out HC3.out HN3.out HG3.out).mono ?_; rintro e_ w12 ⟨B3, c4, rfl, hl3, hC3, hb⟩; refine ⟨_, rfl, ?_⟩; have n0_ := Aside0.mk (below_step (by repeat (first | exact H8.out | apply below_alloc | apply pw_below_drewN | apply below_drew1)) hb); clear H8; have H8 := n0_; clear n0_; have n1_ := Aside0.mk (Kd.C_below HX1.out H8.out); have n2_ := Aside0.mk (Kd.C_below HX2.out H8.out); have HX3 := Aside0.mk hC3; have n3_ := Aside0.mk (below_step HB.out H8.out); clear HX1 HX2 HB hl3 hC3 hb; have HX1 := n1_; have HX2 := n2_; have HB := n3_; clear n1_ n2_ n3_))
  go_loopw [12] (fun v wr => ∃ i : Int, v = .int .i64 i ∧ Aside0 (0 ≤ i ∧ i ≤ m) ∧ Aside0 (Below w12.heap.size w12 wr)) (fun v _ => (m - intOf v).toNat)
  case atStart => exact ⟨0, rfl, ⟨⟨by omega, by omega⟩⟩, ⟨Below.refl _ _⟩⟩
  case round =>
    obtain ⟨i, rfl, HI, HW⟩ := hrel
    by_cases hi : i < m
    · have h0 : 0 ≤ i := HI.out.1
      obtain ⟨ad1, e0, d1⟩ := int_at HX1.out i h0 (by omega)
      cases e0
      obtain ⟨ad2, e0, d2⟩ := int_at HX2.out i h0 (by omega)
      cases e0
      obtain ⟨ad3, e0, d3⟩ := int_at HX3.out i h0 (by omega)
      cases e0
      replace d1 := (HW.out.cell (World.block_lt_of_cell? _ _ d1)).trans d1
      replace d2 := (HW.out.cell (World.block_lt_of_cell? _ _ d2)).trans d2
      replace d3 := (HW.out.cell (World.block_lt_of_cell? _ _ d3)).trans d3
      rw [rd_spread l m i h1 h2 h0 hi] at d1
      rw [rd_spread k m i h1 h2 h0 hi] at d2
      rw [rd_spread (l ++ k) m i h1 h2 h0 hi, countOf_append] at d3
      have r1 := countOf_range l m i
      have r2 := countOf_range k m i
      obtain ⟨x1, hx1⟩ : ∃ x, countOf l m i = x := ⟨_, rfl⟩
      obtain ⟨x2, hx2⟩ : ∃ x, countOf k m i = x := ⟨_, rfl⟩
      rw [hx1] at d1 d3 r1
      rw [hx2] at d2 d3 r2
      have zs : IntKind.i64.wrap (x1 + x2) = x1 + x2 := by rw [IntKind.wrap_i64]; omega
      have s1 : i < ((spreadOf l m).length : Int) := by omega
      have s2 : i < ((spreadOf k m).length : Int) := by omega
      have s3 : i < ((spreadOf (l ++ k) m).length : Int) := by omega
      have r11 := r1.1
      have r21 := r2.1
      have r12 : x1 ≤ 200 := by omega
      have r22 : x2 ≤ 200 := by omega
      clear r1 r2 hx1 hx2
      go_wp2
      go_quiet (fail)
      go_wp2
      go_roundw
      case rel => exact ⟨i + 1, rfl, ⟨by omega⟩, ⟨by repeat (first | exact HW.out | apply pw_below_drewN | apply below_drew1)⟩⟩
      case measure => simp [intOf]; omega
    · obtain rfl : m = i := by have := HI.out; omega
      clear HI hi
      have HQ := Aside0.mk (below_step HB.out HW.out)
      have HI1 := Aside0.mk (spread_short l 1)
      go_wp2_with (first | ((with_reducible refine gate_callee (f := 17) rfl ?_); (try (refine gate_guard (by rfl) ?_; dsimp only)); refine goesL_ (some 78) rfl rfl Try.func17 (by kernel_rfl) rfl #[.slice A l.length cap, .int .i64 1] rfl (by (try simp only [List.map_toArray, List.map_cons, List.map_nil]); first | done | rfl) ?_; refine (spread_calls A cap l 1 _ ?_ HC.out HN.out HG.out).mono ?_; (exact Kd.C_below HR.out (by repeat (first | exact HQ.out | apply below_alloc | apply pw_below_drewN | apply below_drew1))); rintro e_ w13 ⟨B4, c5, rfl, hl4, hC4, hb⟩; refine ⟨_, rfl, ?_⟩; have n0_ := Aside0.mk (below_step (by repeat (first | exact HQ.out | apply below_alloc | apply pw_below_drewN | apply below_drew1)) hb); have HX4 := Aside0.mk hC4; have HL4 := Aside0.mk hl4; clear HQ hb hl4 hC4; have HQ := n0_; have HQ13 := Aside0.mk (Below.refl w13.heap.size w13); clear n0_) | ((with_reducible refine gate_dst (N := 81) rfl ?_); (try (refine gate_guard (by rfl) ?_; dsimp only)); refine Kd.R_lit (Kd.int .i64) (w0 := w13) w13.heap.size 3 ?hg (N := 81) ?hd (xs := ([(l.length : Int)] : List Int)) (inner := [.int .i64 (l.length : Int)]) (ok := fun _ => True) (okp := fun _ => True) ?hr ?hp (fun _ hk => hk) trivial (Below.refl _ _) (Nat.le_refl _) (by simp) ?_; (case hd => rfl); (case hg => rfl); (case hr => first | (go_simp; done) | (go_simp; rfl)); (case hp => exact (Reps.one (show Kd.M (Kd.int .i64) _ _ _ (l.length : Int) [.int .i64 (l.length : Int)] from rfl) (Reps.none _ _))); intro v5 w14 ho hb hg_ hnew_; clear hg_ hnew_; obtain ⟨B5, c6, rfl, h5, hC5⟩ := Kd.R_reads ho; have n0_ := Aside0.mk (below_step HQ.out hb); have HX5 := Aside0.mk hC5; have HL5 := Aside0.mk h5; have n1_ := Aside0.mk (Kd.C_below HX4.out hb); clear HQ HX4 ho hb hC5 h5; have HQ := n0_; have HX4 := n1_; clear n0_ n1_) | (go_at_call 16; refine (ints_one l B4 B5 c5 c6 _ HX4.out HL4.out HX5.out HL5.out).mono ?_; rintro e_ w15 ⟨rfl, hb⟩; have n0_ := Aside0.mk (below_step HQ.out hb); clear HQ hb; have HQ := n0_; clear n0_))
      go_ret
      exact ⟨by first | rfl | (simp [*] <;> rfl), by repeat (first | exact HQ.out | apply pw_below_drewN | apply below_drew1)⟩
set_option maxHeartbeats 1000000 in
theorem joins_many1 (A A2 : Option Addr) (cap cap2 : Nat) (l k : List S29) (b : Int) (w : World) (hr : k29.C w A l.length l) (hc : l.length ≤ cap) (hf : ¬ Few l) (hs : l.length ≤ 9223372036854775806) :
    Calls Try.prog 7 #[.slice A l.length cap, .slice A2 k.length cap2, .int .u8 b] w fun e w' => e = .returned (.bool true) ∧ Below w.heap.size w w' := by
  have HR := Aside0.mk hr
  have HC := Aside0.mk hc
  have HF := Aside0.mk hf
  have HS := Aside0.mk hs
  clear hr hc hf hs
  have HB := Aside0.mk (Below.refl w.heap.size w)
  go_enter Try.func7, Try.ntmps7
  go_wp2_with (first | (go_at_call 8; refine (shown_calls _).mono ?_; rintro e w1 ⟨rfl, ⟨m1, rfl⟩⟩) | (go_at_call 11; refine (many_calls _ _ _ _ ?_ HC.out HF.out HS.out).mono ?_; (exact Kd.C_below HR.out (by repeat (first | exact HB.out | apply below_alloc | apply pw_below_drewN | apply below_drew1))); rintro e w2 ⟨rfl, ⟨m2, rfl⟩⟩))
  go_ret
  exact ⟨rfl, (by repeat (first | exact HB.out | apply below_alloc | apply pw_below_drewN | apply below_drew1))⟩
set_option maxHeartbeats 1000000 in
theorem joins_many2 (A A2 : Option Addr) (cap cap2 : Nat) (l k : List S29) (b : Int) (w : World) (hr : k29.C w A l.length l) (hc : l.length ≤ cap) (hf : Few l) (hr2 : k29.C w A2 k.length k) (hc2 : k.length ≤ cap2) (hf2 : ¬ Few k) (hs : k.length ≤ 9223372036854775806) :
    Calls Try.prog 7 #[.slice A l.length cap, .slice A2 k.length cap2, .int .u8 b] w fun e w' => e = .returned (.bool true) ∧ Below w.heap.size w w' := by
  have HR := Aside0.mk hr
  have HC := Aside0.mk hc
  have HF := Aside0.mk hf
  have HR2 := Aside0.mk hr2
  have HC2 := Aside0.mk hc2
  have HF2 := Aside0.mk hf2
  have HS := Aside0.mk hs
  clear hr hc hf hr2 hc2 hf2 hs
  have HB := Aside0.mk (Below.refl w.heap.size w)
  go_enter Try.func7, Try.ntmps7
  go_wp2_with (first | (go_at_call 8; refine (shown_calls _).mono ?_; rintro e w1 ⟨rfl, ⟨m1, rfl⟩⟩) | (go_at_call 11; (with_reducible refine (few_calls A cap l _ ?_ HC.out HF.out).mono ?_); (exact Kd.C_below HR.out (by repeat (first | exact HB.out | apply below_alloc | apply pw_below_drewN | apply below_drew1))); rintro e w2 ⟨rfl, ⟨m2, rfl⟩⟩) | (go_at_call 11; (with_reducible refine (many_calls A2 cap2 k _ ?_ HC2.out HF2.out HS.out).mono ?_); (exact Kd.C_below HR2.out (by repeat (first | exact HB.out | apply below_alloc | apply pw_below_drewN | apply below_drew1))); rintro e w2 ⟨rfl, ⟨m2, rfl⟩⟩))
  go_ret
  exact ⟨rfl, (by repeat (first | exact HB.out | apply below_alloc | apply pw_below_drewN | apply below_drew1))⟩
theorem walk (A A2 : Option Addr) (cap cap2 : Nat) (l k : List S29) (b : Int) (w : World) (hb : 0 ≤ b ∧ b ≤ 255) (hr : k29.C w A l.length l) (hc : l.length ≤ cap) (hs : l.length ≤ 9223372036854775806) (hg : ∀ x ∈ l, (0 ≤ x.f1 ∧ x.f1 ≤ 65535) ∧ (0 ≤ x.f2 ∧ x.f2 ≤ 65535))
    (hr2 : k29.C w A2 k.length k) (hc2 : k.length ≤ cap2) (hs2 : k.length ≤ 9223372036854775806) (hg2 : ∀ x ∈ k, (0 ≤ x.f1 ∧ x.f1 ≤ 65535) ∧ (0 ≤ x.f2 ∧ x.f2 ≤ 65535)) :
    Calls Try.prog 7 #[.slice A l.length cap, .slice A2 k.length cap2, .int .u8 b] w fun e w' => e = .returned (.bool true) ∧ Below w.heap.size w w' := by
  by_cases hf : Few l
  · by_cases hf2 : Few k
    · exact joins_all A A2 cap cap2 l k b (1 + b % 16) w hb.1 hb.2 rfl (by omega) (by omega) hr hc hf (fun x hx => ⟨hf.2 x hx, (hg x hx).1, (hg x hx).2⟩) hr2 hc2 hf2 (fun x hx => ⟨hf2.2 x hx, (hg2 x hx).1, (hg2 x hx).2⟩)
    · exact joins_many2 A A2 cap cap2 l k b w hr hc hf hr2 hc2 hf2 hs2
  · exact joins_many1 A A2 cap cap2 l k b w hr hc hf hs
end Go.Proofs.Ytefijphihplblaa.OwnJoins
