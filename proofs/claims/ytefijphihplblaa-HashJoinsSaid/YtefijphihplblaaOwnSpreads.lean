/- HashSpreads: each question stands in one shard, which there is and is the sum of its key by the number of shards; the counts of all shards together are as many as the questions; for every list of questions and number of shards. -/
import Derived.Test.YtefijphihplblaaOwnTells
namespace Go.Proofs.Ytefijphihplblaa.OwnSpreads
open Go.RowKit Go.Proofs.Ytefijphihplblaa.PHashTells Go.Proofs.Ytefijphihplblaa.OwnHashP Go.Proofs.Ytefijphihplblaa.OwnHash Go.Proofs.Ytefijphihplblaa.OwnSpread Go.Proofs.Ytefijphihplblaa.OwnTells Go.Proofs.YtefijphihplblaaW.PrintWords Go.Proofs.YtefijphihplblaaW.PrintLast Go.Proofs.YtefijphihplblaaW.PrintMore
set_option linter.unusedVariables false

/-- how many of the questions stand in a shard below this one -/
def countLt (l : List S29) (m i : Int) : Int := ((l.countP fun x => decide (shardOf x m < i) : Nat) : Int)
theorem countLt_range (l : List S29) (m i : Int) : 0 ≤ countLt l m i ∧ countLt l m i ≤ l.length := by
  unfold countLt
  have := List.countP_le_length (p := fun x => decide (shardOf x m < i)) (l := l)
  omega
theorem countLt_zero (l : List S29) (m : Int) (h : 1 ≤ m) : countLt l m 0 = 0 := by
  unfold countLt
  rw [List.countP_eq_zero.2]
  · rfl
  · intro x _
    have := shardOf_range x m h
    simp
    omega
theorem countLt_succ (l : List S29) (m i : Int) : countLt l m (i + 1) = countLt l m i + countOf l m i := by
  unfold countLt countOf
  induction l with
  | nil => rfl
  | cons x l ih =>
    rw [List.countP_cons, List.countP_cons, List.countP_cons]
    by_cases h1 : shardOf x m < i
    · have h2 : shardOf x m < i + 1 := by omega
      have h3 : ¬ shardOf x m = i := by omega
      rw [decide_eq_true h1, decide_eq_true h2, decide_eq_false h3, if_pos rfl, if_neg (by decide)]
      omega
    · by_cases h3 : shardOf x m = i
      · have h2 : shardOf x m < i + 1 := by omega
        rw [decide_eq_false h1, decide_eq_true h2, decide_eq_true h3, if_pos rfl, if_neg (by decide)]
        omega
      · have h2 : ¬ shardOf x m < i + 1 := by omega
        rw [decide_eq_false h1, decide_eq_false h2, decide_eq_false h3, if_neg (by decide)]
        omega
theorem countLt_all (l : List S29) (m : Int) (h : 1 ≤ m) : countLt l m m = l.length := by
  unfold countLt
  rw [List.countP_eq_length.2]
  intro x _
  have := shardOf_range x m h
  simp
  omega
theorem rd_spread (l : List S29) (m i : Int) (h1 : 1 ≤ m) (h2 : m ≤ 16) (hi : 0 ≤ i) (him : i < m) : rd (spreadOf l m) i = countOf l m i := by
  unfold spreadOf rd
  rw [if_pos ⟨h1, h2⟩]
  have hj : i.toNat < m.toNat := by omega
  simp only [countsTo, List.getD_eq_getElem?_getD, List.getElem?_map, List.getElem?_range hj, Option.map_some, Option.getD_some]
  rw [show ((i.toNat : Nat) : Int) = i by omega]
theorem count_mine (l : List S29) (m : Int) (i : Nat) (h : i < l.length) : 1 ≤ countOf l m (shardOf l[i] m) := by
  unfold countOf
  have : 0 < l.countP fun x => decide (shardOf x m = shardOf l[i] m) := List.countP_pos_iff.2 ⟨l[i], List.getElem_mem h, by simp⟩
  omega
/-- the cell of a list of numbers -/
theorem int_at {w : World} {A : Option Addr} {n : Nat} {xs : List Int} (h : Kd.C (Kd.int .i64) w A n xs) (i : Int) (h0 : 0 ≤ i) (h1 : i < n) : ∃ ad, A = some ad ∧ w.cell? (ad.add i.toNat) = some (.int .i64 (rd xs i)) := by
  obtain ⟨ad, c, e, _, hK, hc⟩ := Kd.C_get h 0 i h0 h1
  obtain rfl : c = [.int .i64 (xs.getD i.toNat 0)] := hK
  refine ⟨ad, e, ?_⟩
  have := hc 0 _ rfl
  rwa [show (Kd.int .i64).sz = 1 from rfl, Nat.mul_one, Nat.add_zero] at this
theorem of_to (s : ByteArray) (hs : s.size ≤ 2000) (R : Int) (h : Aside0 (sumOf s = R)) (w : World) : Calls Try.prog 9 #[.string s] w fun e w' => e = .returned (.int .u32 R) ∧ Below w.heap.size w w' := by
  have := of_any s hs w
  rw [h.out] at this
  exact this
theorem key_to (n : ByteArray) (t c : Int) (hx : GoodQ ⟨n, t, c⟩) (K : ByteArray) (h : Aside0 (keyB ⟨n, t, c⟩ = K)) (w : World) : Calls Try.prog 10 #[.agg #[.string n, .int .u16 t, .int .u16 c]] w fun e w' => e = .returned (.string K) ∧ Below w.heap.size w w' := by
  have := key_any n t c hx w
  rw [h.out] at this
  exact this
set_option maxHeartbeats 2000000 in
theorem spreads_all (A : Option Addr) (cap : Nat) (l : List S29) (b m : Int) (w : World) (hb0 : 0 ≤ b) (hb1 : b ≤ 255) (hm : 1 + b % 16 = m) (h1 : 1 ≤ m) (h2 : m ≤ 16) (hr : k29.C w A l.length l) (hc : l.length ≤ cap) (hf : Few l) (hg : ∀ x ∈ l, GoodQ x) :
    Calls Try.prog 6 #[.slice A l.length cap, .int .u8 b] w fun e w' => e = .returned (.bool true) ∧ Below w.heap.size w w' := by
  have HR := Aside0.mk hr
  have HC := Aside0.mk hc
  have HF := Aside0.mk hf
  have HN := Aside0.mk hf.1
  have hn := hf.1
  have HG := Aside0.mk hg
  have hlen := spread_len l m h1 h2
  have g1 : (((spreadOf l m).length : Int) != m) = false := by rw [bne_eq_false_iff_eq]; omega
  have hln : m ≤ ((spreadOf l m).length : Int) := by omega
  have HLN := Aside0.mk hlen
  clear hr hc hf hg hlen
  have HB := Aside0.mk (Below.refl w.heap.size w)
  go_enter Try.func6, Try.ntmps6
  go_wp2_with (first | (go_at_call 8; refine (shown_calls _).mono ?_; rintro e w1 ⟨rfl, ⟨m1, rfl⟩⟩) | (go_at_call 11; refine (few_calls _ _ _ _ ?_ HC.out HF.out).mono ?_; (exact Kd.C_below HR.out (by repeat (first | exact Below.refl _ _ | apply below_alloc | apply pw_below_drewN | apply below_drew1))); rintro e w2 ⟨rfl, ⟨m2, rfl⟩⟩) | (go_at_call 17; refine (spread_calls _ _ _ _ _ ?_ HC.out HN.out HG.out).mono ?_; (exact Kd.C_below HR.out (by repeat (first | exact Below.refl _ _ | apply below_alloc | apply pw_below_drewN | apply below_drew1))); rintro e_ w9 ⟨B1, c1, rfl, hl1, hC1, hb⟩; have n0_ := Aside0.mk (below_step (by repeat (first | exact HB.out | apply below_alloc | apply pw_below_drewN | apply below_drew1)) hb); have HX := Aside0.mk hC1; clear HB hb hl1 hC1; have HB := n0_; clear n0_))
  go_loopw [8, 9] (fun v8 v9 wr => ∃ i : Int, v9 = .int .i64 i ∧ v8 = .int .i64 (countLt l m i) ∧ Aside0 (0 ≤ i ∧ i ≤ m) ∧ Aside0 (Below w9.heap.size w9 wr)) (fun _ v9 _ => (m - intOf v9).toNat)
  case atStart => exact ⟨0, rfl, by rw [countLt_zero l m h1], ⟨⟨by omega, by omega⟩⟩, ⟨Below.refl _ _⟩⟩
  case round =>
    obtain ⟨i, rfl, rfl, HI, HW⟩ := hrel
    by_cases hi : i < m
    · have h0 : 0 ≤ i := HI.out.1
      obtain ⟨ad, e0, c0⟩ := int_at HX.out i h0 (by omega)
      cases e0
      replace c0 := (HW.out.cell (World.block_lt_of_cell? w9 _ c0)).trans c0
      rw [rd_spread l m i h1 h2 h0 hi] at c0
      have r0 := countLt_range l m i
      have r1 := countLt_range l m (i + 1)
      rw [countLt_succ] at r1
      have r00 := r0.1
      have r01 := r1.2
      have r02 := r1.1
      clear r0 r1
      go_wp2
      go_roundw
      case rel => exact ⟨i + 1, rfl, by rw [countLt_succ], ⟨by omega⟩, ⟨by repeat (first | exact HW.out | apply pw_below_drewN | apply below_drew)⟩⟩
      case measure => simp [intOf]; omega
    · obtain rfl : m = i := by have := HI.out; omega
      have hall := countLt_all l m h1
      clear HI hi
      go_wp2
      clear hall
      have HBW := Aside0.mk (below_step HB.out HW.out)
      go_loopw [10] (fun v10 wq => ∃ i : Int, v10 = .int .i64 i ∧ Aside0 (0 ≤ i ∧ i ≤ (l.length : Int)) ∧ Aside0 (Below wr.heap.size wr wq)) (fun v10 _ => l.length - (intOf v10).toNat)
      case atStart => exact ⟨0, rfl, ⟨⟨by omega, by omega⟩⟩, ⟨Below.refl _ _⟩⟩
      case round =>
        obtain ⟨i, rfl, HI, HQ⟩ := hrel
        by_cases hi : i < (l.length : Int)
        · have h0 : 0 ≤ i := HI.out.1
          have hj : i.toNat < l.length := by omega
          have e2 : rd_T29 l i = l[i.toNat] := by
            have e := rd_at l i.toNat hj
            rwa [show ((i.toNat : Nat) : Int) = i by omega] at e
          have hx : GoodQ (rd_T29 l i) := by rw [e2]; exact HG.out _ (List.getElem_mem hj)
          have HBQ := Aside0.mk (below_step HBW.out HQ.out)
          obtain ⟨ad, e0, c0, c1', c2⟩ := at_T29 HR.out i h0 hi
          cases e0
          replace c0 := (HBQ.out.cell (World.block_lt_of_cell? w _ c0)).trans c0
          replace c1' := (HBQ.out.cell (World.block_lt_of_cell? w _ c1')).trans c1'
          replace c2 := (HBQ.out.cell (World.block_lt_of_cell? w _ c2)).trans c2
          obtain ⟨s, hs⟩ : ∃ s, shardOf (rd_T29 l i) m = s := ⟨_, rfl⟩
          obtain ⟨K, hK⟩ : ∃ K, keyB (rd_T29 l i) = K := ⟨_, rfl⟩
          obtain ⟨R, hR⟩ : ∃ R, sumOf K = R := ⟨_, rfl⟩
          have hsr := shardOf_range (rd_T29 l i) m h1
          rw [hs] at hsr
          have hmine := count_mine l m i.toNat hj
          rw [← e2, hs] at hmine
          have hRr := sumOf_range K
          rw [hR] at hRr
          have hKs : K.size ≤ 2000 := by rw [← hK, keyB_size]; have := hx.small; omega
          have hsm : R % m = s := by
            rw [← hs]
            unfold shardOf
            rw [if_pos ⟨h1, h2⟩, hK, hR]
          obtain ⟨ad2, e0, c3⟩ := int_at HX.out s hsr.1 (by omega)
          cases e0
          rw [rd_spread l m s h1 h2 hsr.1 hsr.2] at c3
          obtain ⟨n, hn⟩ : ∃ n, countOf l m s = n := ⟨_, rfl⟩
          rw [hn] at c3 hmine
          replace c3 := (HW.out.cell (World.block_lt_of_cell? w9 _ c3)).trans c3
          replace c3 := (HQ.out.cell (World.block_lt_of_cell? _ _ c3)).trans c3
          have hs0 := hsr.1
          have hs1 := hsr.2
          have hR0 := hRr.1
          have hR1 := hRr.2
          have HSH := Aside0.mk hs
          have HK := Aside0.mk hK
          have HRR := Aside0.mk hR
          have HKS := Aside0.mk hKs
          clear hs hK hR hsr hRr hKs hn e2 hj
          go_wp2_with (first | (go_at_call 14; refine (shard_to _ _ _ _ s hx HSH _).mono ?_; rintro e w6 ⟨rfl, hb⟩; replace c0 := (hb.cell (World.block_lt_of_cell? _ _ c0)).trans c0; replace c1' := (hb.cell (World.block_lt_of_cell? _ _ c1')).trans c1'; replace c2 := (hb.cell (World.block_lt_of_cell? _ _ c2)).trans c2; replace c3 := (hb.cell (World.block_lt_of_cell? _ _ c3)).trans c3; have HQ6 := Aside0.mk (below_step (by repeat (first | exact HQ.out | apply pw_below_drewN | apply below_drew1)) hb); clear hb) | (go_at_call 10; refine (key_to _ _ _ hx K HK _).mono ?_; rintro e w7 ⟨rfl, hb⟩; have HQ7 := Aside0.mk (below_step (by repeat (first | exact HQ6.out | apply pw_below_drewN | apply below_drew1)) hb); clear hb) | (go_at_call 9; refine (of_to K HKS.out R HRR _).mono ?_; rintro e w8 ⟨rfl, hb⟩; have HQ8 := Aside0.mk (below_step (by repeat (first | exact HQ7.out | apply pw_below_drewN | apply below_drew1)) hb); clear hb))
          go_roundw
          case rel => exact ⟨i + 1, rfl, ⟨by omega⟩, ⟨by repeat (first | exact HQ8.out | apply pw_below_drewN | apply below_drew1)⟩⟩
          case measure => simp [intOf]; omega
        · have hall : (countLt l m m == (l.length : Int)) = true := by rw [countLt_all l m h1]; simp
          go_wp2
          go_ret
          exact ⟨by first | rfl | (simp [*] <;> rfl), below_step HBW.out (by repeat (first | exact HQ.out | apply pw_below_drewN | apply below_drew1))⟩
set_option maxHeartbeats 1000000 in
theorem spreads_many (A : Option Addr) (cap : Nat) (l : List S29) (b : Int) (w : World) (hr : k29.C w A l.length l) (hc : l.length ≤ cap) (hf : ¬ Few l) (hs : l.length ≤ 9223372036854775806) :
    Calls Try.prog 6 #[.slice A l.length cap, .int .u8 b] w fun e w' => e = .returned (.bool true) ∧ Below w.heap.size w w' := by
  have HR := Aside0.mk hr
  have HC := Aside0.mk hc
  have HF := Aside0.mk hf
  have HS := Aside0.mk hs
  clear hr hc hf hs
  have HB := Aside0.mk (Below.refl w.heap.size w)
  go_enter Try.func6, Try.ntmps6
  go_wp2_with (first | (go_at_call 8; refine (shown_calls _).mono ?_; rintro e w1 ⟨rfl, ⟨m1, rfl⟩⟩) | (go_at_call 11; refine (many_calls _ _ _ _ ?_ HC.out HF.out HS.out).mono ?_; (exact Kd.C_below HR.out (by repeat (first | exact Below.refl _ _ | apply below_alloc | apply pw_below_drewN | apply below_drew1))); rintro e w2 ⟨rfl, ⟨m2, rfl⟩⟩))
  go_ret
  exact ⟨rfl, by repeat (first | exact HB.out | apply below_alloc | apply pw_below_drewN | apply below_drew1)⟩
theorem walk (A : Option Addr) (cap : Nat) (l : List S29) (b : Int) (w : World) (hb : 0 ≤ b ∧ b ≤ 255) (hr : k29.C w A l.length l) (hc : l.length ≤ cap) (hs : l.length ≤ 9223372036854775806) (hg : ∀ x ∈ l, (0 ≤ x.f1 ∧ x.f1 ≤ 65535) ∧ (0 ≤ x.f2 ∧ x.f2 ≤ 65535)) :
    Calls Try.prog 6 #[.slice A l.length cap, .int .u8 b] w fun e w' => e = .returned (.bool true) ∧ Below w.heap.size w w' := by
  by_cases hf : Few l
  · exact spreads_all A cap l b (1 + b % 16) w hb.1 hb.2 rfl (by omega) (by omega) hr hc hf (fun x hx => ⟨hf.2 x hx, (hg x hx).1, (hg x hx).2⟩)
  · exact spreads_many A cap l b w hr hc hf hs
end Go.Proofs.Ytefijphihplblaa.OwnSpreads
