/- hash.Spread over a thousand questions at most: the walk of OwnSpread with a wider bound on how many there are. -/
import Derived.Test.YtefijphihplblaaOwnSpread
namespace Go.Proofs.Ytefijphihplblaa.OwnSpreadB
open Go.RowKit Go.Proofs.Ytefijphihplblaa.PHashTells Go.Proofs.Ytefijphihplblaa.OwnHashP Go.Proofs.Ytefijphihplblaa.OwnHash Go.Proofs.Ytefijphihplblaa.OwnSpread Go.Proofs.YtefijphihplblaaW.PrintWords Go.Proofs.YtefijphihplblaaW.PrintLast Go.Proofs.YtefijphihplblaaW.PrintMore
set_option linter.unusedVariables false
set_option maxHeartbeats 1000000 in
theorem spread_wide (A : Option Addr) (cap : Nat) (l : List S29) (m : Int) (w : World) (hr : k29.C w A l.length l) (hc : l.length ≤ cap) (hl : l.length ≤ 1000) (hg : ∀ x ∈ l, GoodQ x) (h1 : 1 ≤ m) (h2 : m ≤ 16) :
    Calls Try.prog 17 #[.slice A l.length cap, .int .i64 m] w (SpreadPost l m w) := by
  have hd : decide (1 ≤ m ∧ m ≤ 16) = true := decide_eq_true ⟨h1, h2⟩
  have HR := Aside0.mk hr
  have HG := Aside0.mk hg
  have HL := Aside0.mk hl
  clear hr hg hc hl
  have HB := Aside0.mk (Below.refl w.heap.size w)
  go_enter Try.func17, Try.ntmps17
  go_wp2_with (go_at_call 21; refine (shards_calls m _).mono ?_; rintro e w1 ⟨rfl, ⟨m1, rfl⟩⟩)
  have hal : Try.prog.arrayLen 44 = 16 := by kernel_rfl
  clear hd
  go_loopw [13] (fun v wr => ∃ i : Int, v = .int .i64 i ∧ Aside0 (0 ≤ i ∧ i ≤ (l.length : Int)) ∧ Aside0 (Counts wr w.heap.size (fun j => countOf (l.take i.toNat) m (j : Int))) ∧ Aside0 (Below w.heap.size w wr) ∧ Aside0 (w.heap.size < wr.heap.size)) (fun v _ => l.length - (intOf v).toNat)
  case atStart =>
    refine ⟨0, rfl, ⟨⟨Int.le_refl _, by omega⟩⟩, ⟨counts_new (w.drewN m1) _ (fun j => by simp [countOf_nil])⟩, ⟨by repeat (first | exact HB.out | apply below_alloc | apply pw_below_drewN | apply below_drew1)⟩, ⟨by simp⟩⟩
  case round =>
    obtain ⟨i, rfl, HK, HC, HB, HS⟩ := hrel
    by_cases hk : i < (l.length : Int)
    · have h0 : 0 ≤ i := HK.out.1
      have hx : GoodQ (rd_T29 l i) := by
        have e := rd_at l i.toNat (by omega)
        rw [show ((i.toNat : Nat) : Int) = i by omega] at e
        rw [e]
        exact HG.out _ (List.getElem_mem (by omega))
      obtain ⟨ad, e0, c0, c1, c2⟩ := at_T29 HR.out i h0 hk
      cases e0
      replace c0 := (HB.out.cell (World.block_lt_of_cell? w _ c0)).trans c0
      replace c1 := (HB.out.cell (World.block_lt_of_cell? w _ c1)).trans c1
      replace c2 := (HB.out.cell (World.block_lt_of_cell? w _ c2)).trans c2
      have hcap := HL.out
      obtain ⟨s, hs⟩ : ∃ s, shardOf (rd_T29 l i) m = s := ⟨_, rfl⟩
      have hsr := shardOf_range (rd_T29 l i) m h1
      rw [hs] at hsr
      have HSR := Aside0.mk hs
      clear hs
      obtain ⟨n, hn⟩ : ∃ n, countOf (l.take i.toNat) m s = n := ⟨_, rfl⟩
      have hnr := countOf_range (l.take i.toNat) m s
      rw [hn, List.length_take] at hnr
      have hs0 : 0 ≤ s := hsr.1
      have hs1 : s < 16 := by omega
      have n0 : 0 ≤ n := hnr.1
      have n1 : n ≤ 1000 := by omega
      have HN := Aside0.mk hn
      have HSM := Aside0.mk hsr
      clear hsr hnr hn
      go_wp2_with (first | (go_at_call 14; refine (shard_to _ _ _ _ s hx HSR _).mono ?_; rintro e w9 ⟨rfl, hb⟩; have n2_ := Aside0.mk ((HC.out.below (by repeat (first | exact Below.refl _ _ | apply below_alloc | apply pw_below_drewN | apply below_drew1))).below hb); have n3_ := Aside0.mk (below_step (by repeat (first | exact HB.out | apply below_alloc | apply pw_below_drewN | apply below_drew1)) hb); have HS9 : Aside0 (w.heap.size < w9.heap.size) := ⟨(by have h_ := hb.size; have h2_ := HS.out; (try simp at h_); omega)⟩; have hcell := n2_.out.cell s.toNat (by omega); have hfree := n2_.out.free s.toNat (by omega); rw [show ((s.toNat : Nat) : Int) = s by omega, HN.out] at hcell; clear HB hb; have HB := n3_; have HC9 := n2_; clear n2_ n3_))
      go_roundw
      case rel =>
        have hi' : i.toNat < l.length := by omega
        have e1 : (i + 1).toNat = i.toNat + 1 := by omega
        have e2 : rd_T29 l i = l[i.toNat] := by
          have e := rd_at l i.toNat hi'
          rwa [show ((i.toNat : Nat) : Int) = i by omega] at e
        refine ⟨i + 1, rfl, ⟨by omega, by omega⟩, ⟨HC9.out.store s.toNat (by omega) (n + 1) (fun j hj => ?_)⟩, ⟨below_set HB.out (Nat.le_refl _)⟩, ⟨?_⟩⟩
        · have h3 := HSR.out
          rw [e2] at h3
          rw [e1, take_count l m i.toNat hi', h3]
          by_cases hjs : j = s.toNat
          · rw [if_pos hjs, if_pos (by omega), ← HN.out, show ((j : Nat) : Int) = s by omega]
          · rw [if_neg hjs, if_neg (by omega), Int.add_zero]
        · have := HS9.out; simp; omega
      case measure => simp [intOf]; omega
    · have hsl := slice44 w.heap.size m (by omega) h2
      go_wp2
      go_ret
      have hi : i.toNat = l.length := by have := HK.out; omega
      have hlen := spread_len l m h1 h2
      have hc' := HC.out
      rw [hi, List.take_length] at hc'
      exact ⟨some ⟨w.heap.size, 0, none⟩, 16, by rw [hlen]; rfl, by rw [hlen]; omega, spread_end _ _ l m h1 h2 hc', by repeat (first | exact HB.out | apply below_alloc | apply pw_below_drewN | apply below_drew1)⟩
theorem spreadB_calls (A : Option Addr) (cap : Nat) (l : List S29) (m : Int) (w : World) (hr : k29.C w A l.length l) (hc : l.length ≤ cap) (hl : l.length ≤ 1000) (hg : ∀ x ∈ l, GoodQ x) :
    Calls Try.prog 17 #[.slice A l.length cap, .int .i64 m] w (SpreadPost l m w) := by
  by_cases h : 1 ≤ m ∧ m ≤ 16
  · exact spread_wide A cap l m w hr hc hl hg h.1 h.2
  · exact spread_no A cap l m w h
end Go.Proofs.Ytefijphihplblaa.OwnSpreadB
