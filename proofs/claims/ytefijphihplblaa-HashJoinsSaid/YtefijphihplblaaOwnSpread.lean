/- What hash.Spread does: it hands back one count for each shard, in an array of its own; a number of shards that may not be gives nothing. -/
import Derived.Test.YtefijphihplblaaOwnHash
namespace Go.Proofs.Ytefijphihplblaa.OwnSpread
open Go.RowKit Go.Proofs.Ytefijphihplblaa.PHashTells Go.Proofs.Ytefijphihplblaa.OwnHashP Go.Proofs.Ytefijphihplblaa.OwnHash Go.Proofs.YtefijphihplblaaW.PrintWords Go.Proofs.YtefijphihplblaaW.PrintLast Go.Proofs.YtefijphihplblaaW.PrintMore
set_option linter.unusedVariables false
theorem shards_calls (m : Int) (w : World) : Calls Try.prog 21 #[.int .i64 m] w fun e w' => e = .returned (.bool (decide (1 ≤ m ∧ m ≤ 16))) ∧ Drawn0 w w' := hash_shards.calls m _ w (shards_is m)
theorem shard_calls (n : ByteArray) (t c m : Int) (hx : GoodQ ⟨n, t, c⟩) (w : World) : Calls Try.prog 14 #[.agg #[.string n, .int .u16 t, .int .u16 c], .int .i64 m] w fun e w' => e = .returned (.int .i64 (shardOf ⟨n, t, c⟩ m)) ∧ Below w.heap.size w w' :=
  hash_Shard.calls 311 _ _ _ _ _ w (shard_is ⟨n, t, c⟩ hx m 311 (by decide))
theorem shard_to (n : ByteArray) (t c m s : Int) (hx : GoodQ ⟨n, t, c⟩) (h : Aside0 (shardOf ⟨n, t, c⟩ m = s)) (w : World) : Calls Try.prog 14 #[.agg #[.string n, .int .u16 t, .int .u16 c], .int .i64 m] w fun e w' => e = .returned (.int .i64 s) ∧ Below w.heap.size w w' := by
  have := shard_calls n t c m hx w
  rw [h.out] at this
  exact this
/-- sixteen counters in a block -/
structure Counts (w : World) (g : Nat) (F : Nat → Int) : Prop where
  cell : ∀ j, j < 16 → w.cell? ⟨g, j, none⟩ = some (.int .i64 (F j))
  free : ∀ j, j < 16 → w.frozen? ⟨g, j, none⟩ = false
theorem Counts.below {w w1 : World} {g : Nat} {F : Nat → Int} (h : Counts w g F) (hb : Below w.heap.size w w1) : Counts w1 g F := by
  refine ⟨fun j hj => ?_, fun j hj => ?_⟩
  · rw [hb.cell (p := ⟨g, j, none⟩) (World.block_lt_of_cell? w _ (h.cell j hj))]
    exact h.cell j hj
  · rw [hb.frozen (p := ⟨g, j, none⟩) (World.block_lt_of_cell? w _ (h.cell j hj))]
    exact h.free j hj
theorem Counts.store {w : World} {g : Nat} {F G : Nat → Int} (h : Counts w g F) (s : Nat) (hs : s < 16) (v : Int) (hG : ∀ j, j < 16 → G j = if j = s then v else F j) : Counts (w.setCell ⟨g, s, none⟩ (.int .i64 v)) g G := by
  refine ⟨fun j hj => ?_, fun j hj => ?_⟩
  · rw [hG j hj]
    by_cases hjs : j = s
    · subst hjs
      rw [if_pos rfl]
      exact World.cell?_setCell_same _ _ _ (h.cell j hj)
    · rw [if_neg hjs, World.cell?_setCell_other _ _ _ _ (by intro e; exact hjs (by simpa using congrArg Addr.off e.symm))]
      exact h.cell j hj
  · rw [World.frozen?_setCell]
    exact h.free j hj
/-- what Spread hands back -/
def SpreadPost (l : List S29) (m : Int) (w : World) (e : Ending) (w' : World) : Prop :=
  ∃ B c, e = .returned (.slice B (spreadOf l m).length c) ∧ (spreadOf l m).length ≤ c ∧ Kd.C (Kd.int .i64) w' B (spreadOf l m).length (spreadOf l m) ∧ Below w.heap.size w w'
theorem take_count (l : List S29) (m : Int) (i : Nat) (hi : i < l.length) (j : Int) : countOf (l.take (i + 1)) m j = countOf (l.take i) m j + (if shardOf l[i] m = j then 1 else 0) := by
  rw [List.take_succ_eq_append_getElem hi, countOf_append, countOf_cons, countOf_nil]
  omega
theorem counts_new (W : World) (G : Nat → Int) (hG : ∀ j, G j = 0) : Counts (W.alloc (.cells #[.int .i64 0, .int .i64 0, .int .i64 0, .int .i64 0, .int .i64 0, .int .i64 0, .int .i64 0, .int .i64 0, .int .i64 0, .int .i64 0, .int .i64 0, .int .i64 0, .int .i64 0, .int .i64 0, .int .i64 0, .int .i64 0] 44)) W.heap.size G := by
  refine ⟨fun j hj => ?_, fun j hj => ?_⟩
  · rw [hG j]
    have h : j = 0 ∨ j = 1 ∨ j = 2 ∨ j = 3 ∨ j = 4 ∨ j = 5 ∨ j = 6 ∨ j = 7 ∨ j = 8 ∨ j = 9 ∨ j = 10 ∨ j = 11 ∨ j = 12 ∨ j = 13 ∨ j = 14 ∨ j = 15 := by omega
    rcases h with rfl | rfl | rfl | rfl | rfl | rfl | rfl | rfl | rfl | rfl | rfl | rfl | rfl | rfl | rfl | rfl <;> simp
  · simp
theorem spread_len (l : List S29) (m : Int) (h1 : 1 ≤ m) (h2 : m ≤ 16) : (spreadOf l m).length = m.toNat := by
  unfold spreadOf
  rw [if_pos ⟨h1, h2⟩, countsTo_length]
theorem spread_end (wr : World) (g : Nat) (l : List S29) (m : Int) (h1 : 1 ≤ m) (h2 : m ≤ 16) (hc : Counts wr g (fun j => countOf l m (j : Int))) : Kd.C (Kd.int .i64) wr (some ⟨g, 0, none⟩) (spreadOf l m).length (spreadOf l m) := by
  have hlen := spread_len l m h1 h2
  refine ⟨rfl, by rw [hlen]; omega, fun _ => ⟨_, rfl, fun j p hp => ⟨[.int .i64 p], rfl, rfl, fun q u hu => ?_⟩⟩⟩
  have hj : j < m.toNat := by rw [← hlen]; exact (List.getElem?_eq_some_iff.1 hp).1
  have hq : q = 0 := by
    have := (List.getElem?_eq_some_iff.1 hu).1
    simpa using this
  subst hq
  obtain rfl : .int .i64 p = u := by simpa using hu
  have hp' : p = countOf l m (j : Int) := by
    have e : (spreadOf l m)[j]? = some (countOf l m (j : Int)) := by
      unfold spreadOf
      rw [if_pos ⟨h1, h2⟩]
      simp [countsTo, hj]
    exact (Option.some.inj (e.symm.trans hp)).symm
  have hc' := hc.cell j (by omega)
  have ha : (⟨g, 0, none⟩ : Addr).add (j * (Kd.int .i64).sz + 0) = ⟨g, j, none⟩ := by
    rw [show (Kd.int .i64).sz = 1 from rfl]
    unfold Addr.add
    by_cases h : j = 0
    · simp [h]
    · simp [h]
  rw [hp', ha]
  exact hc'
theorem slice44 (g : Nat) (m : Int) (h1 : 0 ≤ m) (h2 : m ≤ 16) (W : World) : (Instr.sliceAt 44 (.pointer (some ⟨g, 0, none⟩)) none (some (.int .i64 m)) none).run Try.prog W = .ok (.slice (some ⟨g, 0, none⟩) m.toNat 16) W := by
  have hal : Try.prog.arrayLen 44 = 16 := by kernel_rfl
  have hs : (sizeOf (Try.prog.elem 44)).run Try.prog W = .ok 1 W := by kernel_rfl
  rw [run_sliceAt_array_h W 44 ⟨g, 0, none⟩ (by kernel_rfl) .i64 m h1 (by rw [hal]; exact h2), hs, hal]
  simp [slicedAt, Addr.add]
set_option maxHeartbeats 1000000 in
theorem spread_yes (A : Option Addr) (cap : Nat) (l : List S29) (m : Int) (w : World) (hr : k29.C w A l.length l) (hc : l.length ≤ cap) (hl : l.length ≤ 200) (hg : ∀ x ∈ l, GoodQ x) (h1 : 1 ≤ m) (h2 : m ≤ 16) :
    Calls Try.prog 17 #[.slice A l.length cap, .int .i64 m] w (SpreadPost l m w) := by
  have hd : decide (1 ≤ m ∧ m ≤ 16) = true := decide_eq_true ⟨h1, h2⟩
  have HR := Aside0.mk hr
  have HG := Aside0.mk hg
  have HL := Aside0.mk hl
  clear hr hg hc hl
  have HB := Aside0.mk (Below.refl w.heap.size w)
  go_enter Try.func17, Try.ntmps17
  go_wp2_with (go_at_call 21; refine (shards_calls m _).mono ?_; rintro e w1 ⟨rfl, ⟨m1, rfl⟩⟩)
  have hal : Try.prog.arrayLen 44 = 16 := by kernel_rfl
  clear hd
  go_loopw [13] (fun v wr => ∃ i : Int, v = .int .i64 i ∧ Aside0 (0 ≤ i ∧ i ≤ (l.length : Int)) ∧ Aside0 (Counts wr w.heap.size (fun j => countOf (l.take i.toNat) m (j : Int))) ∧ Aside0 (Below w.heap.size w wr) ∧ Aside0 (w.heap.size < wr.heap.size)) (fun v _ => l.length - (intOf v).toNat)
  case atStart =>
    refine ⟨0, rfl, ⟨⟨Int.le_refl _, by omega⟩⟩, ⟨counts_new (w.drewN m1) _ (fun j => by simp [countOf_nil])⟩, ⟨by repeat (first | exact HB.out | apply below_alloc | apply pw_below_drewN | apply below_drew1)⟩, ⟨by simp⟩⟩
  case round =>
    obtain ⟨i, rfl, HK, HC, HB, HS⟩ := hrel
    by_cases hk : i < (l.length : Int)
    · have h0 : 0 ≤ i := HK.out.1
      have hx : GoodQ (rd_T29 l i) := by
        have e := rd_at l i.toNat (by omega)
        rw [show ((i.toNat : Nat) : Int) = i by omega] at e
        rw [e]
        exact HG.out _ (List.getElem_mem (by omega))
      obtain ⟨ad, e0, c0, c1, c2⟩ := at_T29 HR.out i h0 hk
      cases e0
      replace c0 := (HB.out.cell (World.block_lt_of_cell? w _ c0)).trans c0
      replace c1 := (HB.out.cell (World.block_lt_of_cell? w _ c1)).trans c1
      replace c2 := (HB.out.cell (World.block_lt_of_cell? w _ c2)).trans c2
      have hcap := HL.out
      obtain ⟨s, hs⟩ : ∃ s, shardOf (rd_T29 l i) m = s := ⟨_, rfl⟩
      have hsr := shardOf_range (rd_T29 l i) m h1
      rw [hs] at hsr
      have HSR := Aside0.mk hs
      clear hs
      obtain ⟨n, hn⟩ : ∃ n, countOf (l.take i.toNat) m s = n := ⟨_, rfl⟩
      have hnr := countOf_range (l.take i.toNat) m s
      rw [hn, List.length_take] at hnr
      have hs0 : 0 ≤ s := hsr.1
      have hs1 : s < 16 := by omega
      have n0 : 0 ≤ n := hnr.1
      have n1 : n ≤ 200 := by omega
      have HN := Aside0.mk hn
      have HSM := Aside0.mk hsr
      clear hsr hnr hn
      go_wp2_with (first | (go_at_call 14; refine (shard_to _ _ _ _ s hx HSR _).mono ?_; rintro e w9 ⟨rfl, hb⟩; have n2_ := Aside0.mk ((HC.out.below (by repeat (first | exact Below.refl _ _ | apply below_alloc | apply pw_below_drewN | apply below_drew1))).below hb); have n3_ := Aside0.mk (below_step (by repeat (first | exact HB.out | apply below_alloc | apply pw_below_drewN | apply below_drew1)) hb); have HS9 : Aside0 (w.heap.size < w9.heap.size) := ⟨(by have h_ := hb.size; have h2_ := HS.out; (try simp at h_); omega)⟩; have hcell := n2_.out.cell s.toNat (by omega); have hfree := n2_.out.free s.toNat (by omega); rw [show ((s.toNat : Nat) : Int) = s by omega, HN.out] at hcell; clear HB hb; have HB := n3_; have HC9 := n2_; clear n2_ n3_))
      go_roundw
      case rel =>
        have hi' : i.toNat < l.length := by omega
        have e1 : (i + 1).toNat = i.toNat + 1 := by omega
        have e2 : rd_T29 l i = l[i.toNat] := by
          have e := rd_at l i.toNat hi'
          rwa [show ((i.toNat : Nat) : Int) = i by omega] at e
        refine ⟨i + 1, rfl, ⟨by omega, by omega⟩, ⟨HC9.out.store s.toNat (by omega) (n + 1) (fun j hj => ?_)⟩, ⟨below_set HB.out (Nat.le_refl _)⟩, ⟨?_⟩⟩
        · have h3 := HSR.out
          rw [e2] at h3
          rw [e1, take_count l m i.toNat hi', h3]
          by_cases hjs : j = s.toNat
          · rw [if_pos hjs, if_pos (by omega), ← HN.out, show ((j : Nat) : Int) = s by omega]
          · rw [if_neg hjs, if_neg (by omega), Int.add_zero]
        · have := HS9.out; simp; omega
      case measure => simp [intOf]; omega
    · have hsl := slice44 w.heap.size m (by omega) h2
      go_wp2
      go_ret
      have hi : i.toNat = l.length := by have := HK.out; omega
      have hlen := spread_len l m h1 h2
      have hc' := HC.out
      rw [hi, List.take_length] at hc'
      exact ⟨some ⟨w.heap.size, 0, none⟩, 16, by rw [hlen]; rfl, by rw [hlen]; omega, spread_end _ _ l m h1 h2 hc', by repeat (first | exact HB.out | apply below_alloc | apply pw_below_drewN | apply below_drew1)⟩
set_option maxHeartbeats 400000 in
theorem spread_no (A : Option Addr) (cap : Nat) (l : List S29) (m : Int) (w : World) (h : ¬ (1 ≤ m ∧ m ≤ 16)) : Calls Try.prog 17 #[.slice A l.length cap, .int .i64 m] w (SpreadPost l m w) := by
  have hd : decide (1 ≤ m ∧ m ≤ 16) = false := decide_eq_false h
  have hsp : spreadOf l m = [] := by unfold spreadOf; rw [if_neg h]
  have HB := Aside0.mk (Below.refl w.heap.size w)
  have HS := Aside0.mk hsp
  clear h hsp
  go_enter Try.func17, Try.ntmps17
  go_wp2_with (go_at_call 21; refine (shards_calls m _).mono ?_; rintro e w1 ⟨rfl, ⟨m1, rfl⟩⟩)
  go_ret
  exact ⟨none, 0, by rw [HS.out]; rfl, by rw [HS.out]; exact Nat.le_refl _, by rw [HS.out]; exact Kd.C_nil _ _, by repeat (first | exact HB.out | apply below_alloc | apply pw_below_drewN | apply below_drew1)⟩
theorem spread_calls (A : Option Addr) (cap : Nat) (l : List S29) (m : Int) (w : World) (hr : k29.C w A l.length l) (hc : l.length ≤ cap) (hl : l.length ≤ 200) (hg : ∀ x ∈ l, GoodQ x) :
    Calls Try.prog 17 #[.slice A l.length cap, .int .i64 m] w (SpreadPost l m w) := by
  by_cases h : 1 ≤ m ∧ m ≤ 16
  · exact spread_yes A cap l m w hr hc hl hg h.1 h.2
  · exact spread_no A cap l m w h
end Go.Proofs.Ytefijphihplblaa.OwnSpread
