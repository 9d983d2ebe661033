/- FlightBounds: the walk of the law: a deed a round, nine cases, over the contracts of the table. -/
import Derived.Test.YtbonaoopkfcabaaOwnDeeds
import Derived.StillTailTactics
namespace Go.Proofs.Ytbonaoopkfcabaa.Own
open Go.RowKit Go.Maps Go.Proofs.Ytbonaoopkfcabaa.OwnDeeds Go.Proofs.YtbonaoopkfcabaaW.PrintWords Go.Proofs.YtbonaoopkfcabaaW.PrintLast Go.Proofs.YtbonaoopkfcabaaW.PrintMore
set_option linter.unusedVariables false
variable {w w1 : World} {S S' : Nat → Prop} {g mb : Nat} {most queue : Int} {L : List Fl}
/-- no more flights, nor who waits, than there may be -/
structure Fits (most queue : Int) (L : List Fl) : Prop where
  n : (L.length : Int) ≤ most
  q : ∀ f ∈ L, (f.ws.length : Int) ≤ queue
theorem Fits.nil {most queue : Int} (h : 0 ≤ most) : Fits most queue [] := ⟨by simpa using h, fun f hf => by simp at hf⟩
theorem Fits.upd {most queue : Int} {L : List Fl} (h : Fits most queue L) {k : Int} {ws : List Int} {v : Value} (hw : (ws.length : Int) ≤ queue) : Fits most queue (upd L k ws v) := by
  refine ⟨by simpa [Own.upd] using h.n, fun f hf => ?_⟩
  obtain ⟨y, hy, rfl⟩ := List.mem_map.1 hf
  split
  · exact hw
  · exact h.q y hy
theorem Fits.add {most queue : Int} {L : List Fl} (h : Fits most queue L) {x : Fl} (hn : (L.length : Int) < most) (hw : (x.ws.length : Int) ≤ queue) : Fits most queue (L ++ [x]) := by
  refine ⟨by rw [List.length_append, List.length_singleton]; omega, fun f hf => ?_⟩
  rcases List.mem_append.1 hf with hf | hf
  · exact h.q f hf
  · rw [List.mem_singleton.1 hf]; exact hw
theorem Fits.drop {most queue : Int} {L : List Fl} (h : Fits most queue L) (p : Fl → Bool) : Fits most queue (L.filter p) :=
  ⟨by have := List.length_filter_le p L; have := h.n; omega, fun f hf => h.q f (List.mem_filter.1 hf).1⟩
theorem sumAll_le {q : Nat} : ∀ {L : List Fl}, (∀ f ∈ L, f.ws.length ≤ q) → sumAll L ≤ L.length * q := by
  intro L
  induction L with
  | nil => intro _; simp [sumAll]
  | cons a t ih =>
    intro h
    have h1 := ih (fun f hf => h f (List.mem_cons_of_mem _ hf))
    have h2 := h a (List.mem_cons_self ..)
    unfold sumAll at h1 ⊢
    rw [List.map_cons, List.sum_cons, List.length_cons, Nat.succ_mul]
    omega
theorem Fits.sum {most queue : Nat} {L : List Fl} (h : Fits most queue L) : sumAll L ≤ most * queue := by
  have h1 := sumAll_le (q := queue) (L := L) (fun f hf => by have := h.q f hf; omega)
  have h2 : L.length ≤ most := by have := h.n; omega
  exact Nat.le_trans h1 (Nat.mul_le_mul_right _ h2)
theorem bel_one (w : World) (o : Obj) : Below w.heap.size w (w.alloc o) := ⟨rfl, rfl, rfl, by rw [al, Array.size_push]; omega, fun i hi => by rw [al, Array.getElem?_push, if_neg (by omega)]⟩
theorem boxed {w w0 : World} {xs : Array Value} {t : Nat} (hb : Below (w.alloc (.cells xs t)).heap.size (w.alloc (.cells xs t)) w0) : w0.heap[w.heap.size]? = some (.cells xs t (0, 0)) := by
  rw [hb.block w.heap.size (by rw [al, Array.size_push]; exact Nat.lt_succ_self _), al]
  exact Array.getElem?_push_size
theorem bel_alloc1 (w : World) (o : Obj) {w0 : World} (hb : Below (w.alloc o).heap.size (w.alloc o) w0) : Below w.heap.size w w0 := below_step (bel_one w o) hb
theorem find_upd {L : List Fl} {k : Int} {f : Fl} (h : findK L k = some f) (ws : List Int) (v : Value) : ∃ f2, Aside0 (findK (upd L k ws v) k = some f2) ∧ f2.lead = f.lead := by
  refine ⟨_, ⟨by rw [findK_upd, h]; rfl⟩, ?_⟩
  show (if f.k = k then ({ f with ws := ws, v := v } : Fl) else f).lead = f.lead
  split <;> rfl
theorem wrap_mq {M Q : Nat} (hM : M ≤ 6) (hQ : Q ≤ 4) : wrap64 ((M : Int) * (Q : Int)) = ((M * Q : Nat) : Int) := by
  have h : M * Q ≤ 6 * 4 := Nat.mul_le_mul hM hQ
  rw [← Int.natCast_mul]
  unfold wrap64
  omega
theorem rnd {i n : Int} (h0 : 0 ≤ i) (hk : i < n) : 0 ≤ i + 1 ∧ i + 1 ≤ n := by omega
theorem rnd_m {i : Int} {n : Nat} (h0 : 0 ≤ i) (hk : i < (n : Int)) : n - (intOf (Value.int .i64 (i + 1))).toNat < n - (intOf (Value.int .i64 i)).toNat := by
  simp [intOf]
  omega
theorem not_bad {M Q n k s : Nat} (hM : M ≤ 6) (hQ : Q ≤ 4) (h1 : (n : Int) ≤ (M : Int)) (h2 : (k : Int) ≤ (Q : Int)) (h3 : s ≤ M * Q) (h : (M < n ∨ Q < k) ∨ wrap64 ((M : Int) * (Q : Int)) < (s : Int)) : False := by
  rw [wrap_mq hM hQ] at h
  rcases h with (h | h) | h
  · omega
  · omega
  · have := Int.ofNat_lt.1 h
    omega
theorem not_bad0 {M Q n s : Nat} (hM : M ≤ 6) (hQ : Q ≤ 4) (h1 : (n : Int) ≤ (M : Int)) (h3 : s ≤ M * Q) (h : (M < n ∨ (Q : Int) < 0) ∨ wrap64 ((M : Int) * (Q : Int)) < (s : Int)) : False := by
  rw [wrap_mq hM hQ] at h
  rcases h with (h | h) | h
  · omega
  · omega
  · have := Int.ofNat_lt.1 h
    omega
theorem small_mq {M Q : Nat} (hM : M ≤ 6) (hQ : Q ≤ 4) : M * Q ≤ 24 := Nat.mul_le_mul hM hQ
set_option maxRecDepth 100000 in
set_option maxHeartbeats 16000000 in
theorem bounds_walk (a b : Int) (A : Option Addr) (c : Nat) (l : List Dd) (w : World) (ha : 0 ≤ a ∧ a ≤ 255) (hb : 0 ≤ b ∧ b ≤ 255) (hC : Kd.C kD w A l.length l) (hl : l.length ≤ c) (hN : ∀ x ∈ l, Nums x) :
    Calls Try.prog 6 #[.agg #[.int .u8 a, .int .u8 b], .slice A l.length c] w fun e w1 => e = .returned (.bool true) ∧ Below w.heap.size w w1 := by
  have HC := Aside0.mk hC
  have HNN := Aside0.mk hN
  have HLC := Aside0.mk hl
  clear hC hN hl
  obtain ⟨M, hM⟩ : ∃ M : Nat, 1 + a % 6 = (M : Int) := ⟨(1 + a % 6).toNat, by omega⟩
  obtain ⟨Q, hQ⟩ : ∃ Q : Nat, b % 5 = (Q : Int) := ⟨(b % 5).toNat, by omega⟩
  have HM := Aside0.mk (show 1 ≤ M ∧ M ≤ 6 by omega)
  have HQ := Aside0.mk (show Q ≤ 4 by omega)
  have EM := Aside0.mk hM
  have EQ := Aside0.mk hQ
  clear hM hQ
  go_enter Try.func6, Try.ntmps6
  go_wp2_with (first | (go_at_call 8; refine (shown_calls _).mono ?_; rintro e w0 ⟨rfl, hb0⟩; have x0 := gcell (boxed hb0) 0 _ rfl; have x1 := gcell (boxed hb0) 1 _ rfl) | (go_at_call 9; rw [EM.out, EQ.out]; (with_reducible refine (new_at _ _ ?side1 ?side2 _).mono ?_); (case side1 => have := HM.out; omega); (case side2 => omega); rintro e w1 ⟨g, mb, rfl, h1, hb1⟩) | go_in)
  try rw [EM.out, EQ.out]
  have HB1 := Aside0.mk (below_step (bel_alloc1 w _ hb0) hb1)
  have HT1 := Aside0.mk h1
  have HG1 := Aside0.mk (show ∀ i, (w0.heap.size ≤ i ∧ i < w1.heap.size) → w.heap.size ≤ i from fun i hi => Nat.le_trans (bel_alloc1 w _ hb0).size hi.1)
  clear hb0 hb1 h1 x0 x1
  go_loopw [9] (fun v wr => ∃ (i : Int) (L : List Fl) (S : Nat → Prop), v = .int .i64 i ∧ Aside0 (0 ≤ i ∧ i ≤ (l.length : Int)) ∧ Aside0 (Tab wr S g mb (M : Int) (Q : Int) L) ∧ Aside0 (Fits (M : Int) (Q : Int) L) ∧ Aside0 (∀ b, S b → w.heap.size ≤ b) ∧ Aside0 (Below w.heap.size w wr)) (fun v _ => l.length - (intOf v).toNat)
  case atStart =>
    exact ⟨0, [], _, rfl, ⟨⟨Int.le_refl _, by omega⟩⟩, HT1, ⟨Fits.nil (by omega)⟩, HG1, HB1⟩
  case round =>
    obtain ⟨i, L, S, rfl, HK, HT, HF, HS, HB⟩ := hrel
    by_cases hk : i < (l.length : Int)
    · by_cases hk2 : i < 200
      · have h0 : 0 ≤ i := HK.out.1
        obtain ⟨ad, e0, c0, c1, c2⟩ := at_D HC.out i h0 hk
        cases e0
        have c1w := c1
        have c2w := c2
        replace c0 := (HB.out.cell (World.block_lt_of_cell? w _ c0)).trans c0
        replace c1 := (HB.out.cell (World.block_lt_of_cell? w _ c1)).trans c1
        replace c2 := (HB.out.cell (World.block_lt_of_cell? w _ c2)).trans c2
        obtain ⟨d, hd⟩ : ∃ d, rdD l i = d := ⟨_, rfl⟩
        have HW := Aside0.mk ((HNN.out _ (rdD_at h0 hk)).k)
        rw [hd] at c0 c1 c2 c1w c2w HW
        clear hd
        have C1 := Aside0.mk c1w
        have C2 := Aside0.mk c2w
        clear c1w c2w
        have hcap := HLC.out
        by_cases hz : d.kind = 0
        · rw [hz] at c0
          cases hf : findK L d.k with
          | none =>
            have HFK := Aside0.mk hf
            clear hf
            by_cases hr : (L.length : Int) < (M : Int)
            · skip
              have hJ := fun (w' : World) (hw : Tab w' S g mb (M : Int) (Q : Int) L) => join_leads hw (who := d.who) HW.out HFK.out hr (by have := HM.out; omega)
              go_wp2_with (first | (go_at_call 17; have q_ := leader_none HT.out HW.out HFK.out; (with_reducible refine q_.mono ?_); clear q_; rintro e w8 ⟨rfl, hw8⟩; obtain rfl := hw8.symm; clear hw8))
              go_still_tail 11, (by kernel_rfl)
              go_wp2_with (first | (go_at_call 10; refine (hJ _ ?side1).mono ?_; (case side1 => exact HT.out.step (fun _ _ _ => rfl)); clear hJ; rintro e w2 ⟨rfl, b2, T2, t2⟩; obtain ⟨L2, eL⟩ : ∃ L2, L2 = L ++ [⟨d.k, d.who, [], b2, .slice none 0 0⟩] := ⟨_, rfl⟩; rw [← eL] at T2; have HT2 := Aside0.mk T2; have HS2 := Aside0.mk (grow_ge HS.out (show w.heap.size ≤ wr.heap.size from HB.out.size) w2); have HB2 := Aside0.mk (t2.below (below_drew1 HB.out) HS.out); have HF2 := Aside0.mk (show Fits (M : Int) (Q : Int) L2 by rw [eL]; exact HF.out.add hr (by simp)); obtain ⟨f2, HFK2, hlead⟩ : ∃ f2, Aside0 (findK L2 d.k = some f2) ∧ f2.lead = d.who := ⟨⟨d.k, d.who, [], b2, .slice none 0 0⟩, ⟨(by rw [eL, findK_snoc, HFK.out]; simp)⟩, rfl⟩; have hq2 := HF2.out.q _ (findK_mem HFK2.out).1; clear eL T2 t2; have c1' := (HB2.out.cell (World.block_lt_of_cell? w _ C1.out)).trans C1.out; have c2' := (HB2.out.cell (World.block_lt_of_cell? w _ C2.out)).trans C2.out; have hl2 := HF2.out.n; have hs2 := HF2.out.sum) | (go_at_call 17; have q_ := leader_some HT2.out HW.out HFK2.out; (with_reducible refine q_.mono ?_); clear q_; rintro e w8 ⟨rfl, hw8⟩; obtain rfl := hw8.symm; clear hw8) | (go_at_call 19; refine (len_at HT2.out).mono ?_; rintro e w8 ⟨rfl, hw8⟩; obtain rfl := hw8.symm; clear hw8) | (go_at_call 16; refine (waiters_some HT2.out HW.out HFK2.out (by have := HQ.out; omega)).mono ?_; rintro e w3 ⟨v3, rfl, r3, hb3⟩; obtain ⟨A3, c3, rfl⟩ := row_shape r3) | (go_at_call 20; refine (sum_at (HT2.out.below hb3) (by have := small_mq HM.out.2 HQ.out; omega)).mono ?_; rintro e w4 ⟨rfl, hb4⟩))
              · rename_i hbad
                exact (not_bad HM.out.2 HQ.out hl2 hq2 hs2 hbad).elim
              · exact ⟨⟨i + 1, L2, _, rfl, ⟨rnd h0 hk⟩, ⟨(HT2.out.below hb3).below hb4⟩, HF2, HS2, ⟨below_step (below_step HB2.out hb3) hb4⟩⟩, rnd_m h0 hk⟩
            · skip
              have hJ := fun (w' : World) (hw : Tab w' S g mb (M : Int) (Q : Int) L) => join_over hw (who := d.who) HW.out HFK.out hr
              go_wp2_with (first | (go_at_call 17; have q_ := leader_none HT.out HW.out HFK.out; (with_reducible refine q_.mono ?_); clear q_; rintro e w8 ⟨rfl, hw8⟩; obtain rfl := hw8.symm; clear hw8))
              go_still_tail 11, (by kernel_rfl)
              go_wp2_with (first | (go_at_call 10; refine (hJ _ ?side1).mono ?_; (case side1 => exact HT.out.step (fun _ _ _ => rfl)); clear hJ; rintro e w2 ⟨rfl, hb2⟩; have HB2 := Aside0.mk (below_step (below_drew1 HB.out) hb2); have HT2 := Aside0.mk (Tab.below (by exact HT.out.step (fun _ _ _ => rfl)) hb2); obtain ⟨L2, eL⟩ : ∃ L2, L2 = L := ⟨_, rfl⟩; rw [← eL] at HT2; have HS2 := HS; have HF2 := Aside0.mk (show Fits (M : Int) (Q : Int) L2 by rw [eL]; exact HF.out); have HFK2 := Aside0.mk (show findK L2 d.k = none from (by rw [eL]; exact HFK.out)); clear eL; have c1' := (HB2.out.cell (World.block_lt_of_cell? w _ C1.out)).trans C1.out; have c2' := (HB2.out.cell (World.block_lt_of_cell? w _ C2.out)).trans C2.out; have hl2 := HF2.out.n; have hs2 := HF2.out.sum) | (go_at_call 17; have q_ := leader_none HT2.out HW.out HFK2.out; (with_reducible refine q_.mono ?_); clear q_; rintro e w8 ⟨rfl, hw8⟩; obtain rfl := hw8.symm; clear hw8) | (go_at_call 19; refine (len_at HT2.out).mono ?_; rintro e w8 ⟨rfl, hw8⟩; obtain rfl := hw8.symm; clear hw8) | (go_at_call 16; refine (waiters_none HT2.out HW.out HFK2.out).mono ?_; rintro e w3 ⟨rfl, hw3⟩; have hb3 : Below w2.heap.size w2 w3 := (by rw [hw3]; exact Below.refl _ _); clear hw3) | (go_at_call 20; refine (sum_at (HT2.out.below hb3) (by have := small_mq HM.out.2 HQ.out; omega)).mono ?_; rintro e w4 ⟨rfl, hb4⟩))
              · rename_i hbad
                exact (not_bad0 HM.out.2 HQ.out hl2 hs2 hbad).elim
              · exact ⟨⟨i + 1, L2, _, rfl, ⟨rnd h0 hk⟩, ⟨(HT2.out.below hb3).below hb4⟩, HF2, HS2, ⟨below_step (below_step HB2.out hb3) hb4⟩⟩, rnd_m h0 hk⟩
          | some f =>
            have HFK := Aside0.mk hf
            clear hf
            have hfq := HF.out.q _ (findK_mem HFK.out).1
            by_cases hr : (f.ws.length : Int) < (Q : Int)
            · skip
              have hJ := fun (w' : World) (hw : Tab w' S g mb (M : Int) (Q : Int) L) => join_waits hw (who := d.who) HW.out HFK.out hr (by have := HQ.out; omega)
              go_wp2_with (first | (go_at_call 17; have q_ := leader_some HT.out HW.out HFK.out; (with_reducible refine q_.mono ?_); clear q_; rintro e w8 ⟨rfl, hw8⟩; obtain rfl := hw8.symm; clear hw8))
              go_still_tail 11, (by kernel_rfl)
              go_wp2_with (first | (go_at_call 10; refine (hJ _ ?side1).mono ?_; (case side1 => exact HT.out.step (fun _ _ _ => rfl)); clear hJ; rintro e w2 ⟨rfl, v2, T2, t2⟩; obtain ⟨L2, eL⟩ : ∃ L2, L2 = upd L d.k (f.ws ++ [d.who]) v2 := ⟨_, rfl⟩; rw [← eL] at T2; have HT2 := Aside0.mk T2; have HS2 := Aside0.mk (grow_ge HS.out (show w.heap.size ≤ wr.heap.size from HB.out.size) w2); have HB2 := Aside0.mk (t2.below (below_drew1 HB.out) HS.out); have HF2 := Aside0.mk (show Fits (M : Int) (Q : Int) L2 by rw [eL]; exact HF.out.upd (by rw [List.length_append, List.length_singleton]; omega)); obtain ⟨f2, HFK2, hlead⟩ : ∃ f2, Aside0 (findK L2 d.k = some f2) ∧ f2.lead = f.lead := (by rw [eL]; exact find_upd HFK.out _ _); have hq2 := HF2.out.q _ (findK_mem HFK2.out).1; clear eL T2 t2; have c1' := (HB2.out.cell (World.block_lt_of_cell? w _ C1.out)).trans C1.out; have c2' := (HB2.out.cell (World.block_lt_of_cell? w _ C2.out)).trans C2.out; have hl2 := HF2.out.n; have hs2 := HF2.out.sum) | (go_at_call 17; have q_ := leader_some HT2.out HW.out HFK2.out; (with_reducible refine q_.mono ?_); clear q_; rintro e w8 ⟨rfl, hw8⟩; obtain rfl := hw8.symm; clear hw8) | (go_at_call 19; refine (len_at HT2.out).mono ?_; rintro e w8 ⟨rfl, hw8⟩; obtain rfl := hw8.symm; clear hw8) | (go_at_call 16; refine (waiters_some HT2.out HW.out HFK2.out (by have := HQ.out; omega)).mono ?_; rintro e w3 ⟨v3, rfl, r3, hb3⟩; obtain ⟨A3, c3, rfl⟩ := row_shape r3) | (go_at_call 20; refine (sum_at (HT2.out.below hb3) (by have := small_mq HM.out.2 HQ.out; omega)).mono ?_; rintro e w4 ⟨rfl, hb4⟩))
              · rename_i hbad
                exact (not_bad HM.out.2 HQ.out hl2 hq2 hs2 hbad).elim
              · exact ⟨⟨i + 1, L2, _, rfl, ⟨rnd h0 hk⟩, ⟨(HT2.out.below hb3).below hb4⟩, HF2, HS2, ⟨below_step (below_step HB2.out hb3) hb4⟩⟩, rnd_m h0 hk⟩
            · skip
              have hJ := fun (w' : World) (hw : Tab w' S g mb (M : Int) (Q : Int) L) => join_full hw (who := d.who) HW.out HFK.out hr
              go_wp2_with (first | (go_at_call 17; have q_ := leader_some HT.out HW.out HFK.out; (with_reducible refine q_.mono ?_); clear q_; rintro e w8 ⟨rfl, hw8⟩; obtain rfl := hw8.symm; clear hw8))
              go_still_tail 11, (by kernel_rfl)
              go_wp2_with (first | (go_at_call 10; refine (hJ _ ?side1).mono ?_; (case side1 => exact HT.out.step (fun _ _ _ => rfl)); clear hJ; rintro e w2 ⟨rfl, hb2⟩; have HB2 := Aside0.mk (below_step (below_drew1 HB.out) hb2); have HT2 := Aside0.mk (Tab.below (by exact HT.out.step (fun _ _ _ => rfl)) hb2); obtain ⟨L2, eL⟩ : ∃ L2, L2 = L := ⟨_, rfl⟩; rw [← eL] at HT2; have HS2 := HS; have HF2 := Aside0.mk (show Fits (M : Int) (Q : Int) L2 by rw [eL]; exact HF.out); obtain ⟨f2, HFK2, hlead⟩ : ∃ f2, Aside0 (findK L2 d.k = some f2) ∧ f2.lead = f.lead := ⟨f, ⟨(by rw [eL]; exact HFK.out)⟩, rfl⟩; have hq2 := HF2.out.q _ (findK_mem HFK2.out).1; clear eL; have c1' := (HB2.out.cell (World.block_lt_of_cell? w _ C1.out)).trans C1.out; have c2' := (HB2.out.cell (World.block_lt_of_cell? w _ C2.out)).trans C2.out; have hl2 := HF2.out.n; have hs2 := HF2.out.sum) | (go_at_call 17; have q_ := leader_some HT2.out HW.out HFK2.out; (with_reducible refine q_.mono ?_); clear q_; rintro e w8 ⟨rfl, hw8⟩; obtain rfl := hw8.symm; clear hw8) | (go_at_call 19; refine (len_at HT2.out).mono ?_; rintro e w8 ⟨rfl, hw8⟩; obtain rfl := hw8.symm; clear hw8) | (go_at_call 16; refine (waiters_some HT2.out HW.out HFK2.out (by have := HQ.out; omega)).mono ?_; rintro e w3 ⟨v3, rfl, r3, hb3⟩; obtain ⟨A3, c3, rfl⟩ := row_shape r3) | (go_at_call 20; refine (sum_at (HT2.out.below hb3) (by have := small_mq HM.out.2 HQ.out; omega)).mono ?_; rintro e w4 ⟨rfl, hb4⟩))
              · rename_i hbad
                exact (not_bad HM.out.2 HQ.out hl2 hq2 hs2 hbad).elim
              · exact ⟨⟨i + 1, L2, _, rfl, ⟨rnd h0 hk⟩, ⟨(HT2.out.below hb3).below hb4⟩, HF2, HS2, ⟨below_step (below_step HB2.out hb3) hb4⟩⟩, rnd_m h0 hk⟩
        · by_cases hz1 : d.kind = 1
          · rw [hz1] at c0
            cases hf : findK L d.k with
            | none =>
              have HFK := Aside0.mk hf
              clear hf
              have hJ := fun (w' : World) (hw : Tab w' S g mb (M : Int) (Q : Int) L) => leave_none hw (who := d.who) HW.out HFK.out
              go_wp2_with (first | (go_at_call 17; have q_ := leader_none HT.out HW.out HFK.out; (with_reducible refine q_.mono ?_); clear q_; rintro e w8 ⟨rfl, hw8⟩; obtain rfl := hw8.symm; clear hw8))
              go_still_tail 11, (by kernel_rfl)
              go_wp2_with (first | (go_at_call 11; refine (hJ _ ?side1).mono ?_; (case side1 => exact HT.out.step (fun _ _ _ => rfl)); clear hJ; rintro e w2 ⟨rfl, hw2⟩; have HB2 := Aside0.mk (show Below w.heap.size w w2 by rw [hw2]; exact (below_drew1 HB.out)); have HT2 := Aside0.mk (show Tab w2 S g mb (M : Int) (Q : Int) L by rw [hw2]; exact HT.out.step (fun _ _ _ => rfl)); clear hw2; obtain ⟨L2, eL⟩ : ∃ L2, L2 = L := ⟨_, rfl⟩; rw [← eL] at HT2; have HS2 := HS; have HF2 := Aside0.mk (show Fits (M : Int) (Q : Int) L2 by rw [eL]; exact HF.out); have HFK2 := Aside0.mk (show findK L2 d.k = none from (by rw [eL]; exact HFK.out)); clear eL; have c1' := (HB2.out.cell (World.block_lt_of_cell? w _ C1.out)).trans C1.out; have c2' := (HB2.out.cell (World.block_lt_of_cell? w _ C2.out)).trans C2.out; have hl2 := HF2.out.n; have hs2 := HF2.out.sum) | (go_at_call 17; have q_ := leader_none HT2.out HW.out HFK2.out; (with_reducible refine q_.mono ?_); clear q_; rintro e w8 ⟨rfl, hw8⟩; obtain rfl := hw8.symm; clear hw8) | (go_at_call 19; refine (len_at HT2.out).mono ?_; rintro e w8 ⟨rfl, hw8⟩; obtain rfl := hw8.symm; clear hw8) | (go_at_call 16; refine (waiters_none HT2.out HW.out HFK2.out).mono ?_; rintro e w3 ⟨rfl, hw3⟩; have hb3 : Below w2.heap.size w2 w3 := (by rw [hw3]; exact Below.refl _ _); clear hw3) | (go_at_call 20; refine (sum_at (HT2.out.below hb3) (by have := small_mq HM.out.2 HQ.out; omega)).mono ?_; rintro e w4 ⟨rfl, hb4⟩))
              · rename_i hbad
                exact (not_bad0 HM.out.2 HQ.out hl2 hs2 hbad).elim
              · exact ⟨⟨i + 1, L2, _, rfl, ⟨rnd h0 hk⟩, ⟨(HT2.out.below hb3).below hb4⟩, HF2, HS2, ⟨below_step (below_step HB2.out hb3) hb4⟩⟩, rnd_m h0 hk⟩
            | some f =>
              have HFK := Aside0.mk hf
              clear hf
              have hfq := HF.out.q _ (findK_mem HFK.out).1
              by_cases hm : d.who ∈ f.ws
              · skip
                have hJ := fun (w' : World) (hw : Tab w' S g mb (M : Int) (Q : Int) L) => leave_some hw (who := d.who) HW.out HFK.out hm (by have := HQ.out; omega)
                go_wp2_with (first | (go_at_call 17; have q_ := leader_some HT.out HW.out HFK.out; (with_reducible refine q_.mono ?_); clear q_; rintro e w8 ⟨rfl, hw8⟩; obtain rfl := hw8.symm; clear hw8))
                go_still_tail 11, (by kernel_rfl)
                go_wp2_with (first | (go_at_call 11; refine (hJ _ ?side1).mono ?_; (case side1 => exact HT.out.step (fun _ _ _ => rfl)); clear hJ; rintro e w2 ⟨rfl, v2, T2, t2⟩; obtain ⟨L2, eL⟩ : ∃ L2, L2 = upd L d.k (f.ws.erase d.who) v2 := ⟨_, rfl⟩; rw [← eL] at T2; have HT2 := Aside0.mk T2; have HS2 := Aside0.mk (grow_ge HS.out (show w.heap.size ≤ wr.heap.size from HB.out.size) w2); have HB2 := Aside0.mk (t2.below (below_drew1 HB.out) HS.out); have HF2 := Aside0.mk (show Fits (M : Int) (Q : Int) L2 by rw [eL]; exact HF.out.upd (by have := List.length_erase_le (a := d.who) (l := f.ws); omega)); obtain ⟨f2, HFK2, hlead⟩ : ∃ f2, Aside0 (findK L2 d.k = some f2) ∧ f2.lead = f.lead := (by rw [eL]; exact find_upd HFK.out _ _); have hq2 := HF2.out.q _ (findK_mem HFK2.out).1; clear eL T2 t2; have c1' := (HB2.out.cell (World.block_lt_of_cell? w _ C1.out)).trans C1.out; have c2' := (HB2.out.cell (World.block_lt_of_cell? w _ C2.out)).trans C2.out; have hl2 := HF2.out.n; have hs2 := HF2.out.sum) | (go_at_call 17; have q_ := leader_some HT2.out HW.out HFK2.out; (with_reducible refine q_.mono ?_); clear q_; rintro e w8 ⟨rfl, hw8⟩; obtain rfl := hw8.symm; clear hw8) | (go_at_call 19; refine (len_at HT2.out).mono ?_; rintro e w8 ⟨rfl, hw8⟩; obtain rfl := hw8.symm; clear hw8) | (go_at_call 16; refine (waiters_some HT2.out HW.out HFK2.out (by have := HQ.out; omega)).mono ?_; rintro e w3 ⟨v3, rfl, r3, hb3⟩; obtain ⟨A3, c3, rfl⟩ := row_shape r3) | (go_at_call 20; refine (sum_at (HT2.out.below hb3) (by have := small_mq HM.out.2 HQ.out; omega)).mono ?_; rintro e w4 ⟨rfl, hb4⟩))
                · rename_i hbad
                  exact (not_bad HM.out.2 HQ.out hl2 hq2 hs2 hbad).elim
                · exact ⟨⟨i + 1, L2, _, rfl, ⟨rnd h0 hk⟩, ⟨(HT2.out.below hb3).below hb4⟩, HF2, HS2, ⟨below_step (below_step HB2.out hb3) hb4⟩⟩, rnd_m h0 hk⟩
              · skip
                have hJ := fun (w' : World) (hw : Tab w' S g mb (M : Int) (Q : Int) L) => leave_not hw (who := d.who) HW.out HFK.out hm (by have := HQ.out; omega)
                go_wp2_with (first | (go_at_call 17; have q_ := leader_some HT.out HW.out HFK.out; (with_reducible refine q_.mono ?_); clear q_; rintro e w8 ⟨rfl, hw8⟩; obtain rfl := hw8.symm; clear hw8))
                go_still_tail 11, (by kernel_rfl)
                go_wp2_with (first | (go_at_call 11; refine (hJ _ ?side1).mono ?_; (case side1 => exact HT.out.step (fun _ _ _ => rfl)); clear hJ; rintro e w2 ⟨rfl, hb2⟩; have HB2 := Aside0.mk (below_step (below_drew1 HB.out) hb2); have HT2 := Aside0.mk (Tab.below (by exact HT.out.step (fun _ _ _ => rfl)) hb2); obtain ⟨L2, eL⟩ : ∃ L2, L2 = L := ⟨_, rfl⟩; rw [← eL] at HT2; have HS2 := HS; have HF2 := Aside0.mk (show Fits (M : Int) (Q : Int) L2 by rw [eL]; exact HF.out); obtain ⟨f2, HFK2, hlead⟩ : ∃ f2, Aside0 (findK L2 d.k = some f2) ∧ f2.lead = f.lead := ⟨f, ⟨(by rw [eL]; exact HFK.out)⟩, rfl⟩; have hq2 := HF2.out.q _ (findK_mem HFK2.out).1; clear eL; have c1' := (HB2.out.cell (World.block_lt_of_cell? w _ C1.out)).trans C1.out; have c2' := (HB2.out.cell (World.block_lt_of_cell? w _ C2.out)).trans C2.out; have hl2 := HF2.out.n; have hs2 := HF2.out.sum) | (go_at_call 17; have q_ := leader_some HT2.out HW.out HFK2.out; (with_reducible refine q_.mono ?_); clear q_; rintro e w8 ⟨rfl, hw8⟩; obtain rfl := hw8.symm; clear hw8) | (go_at_call 19; refine (len_at HT2.out).mono ?_; rintro e w8 ⟨rfl, hw8⟩; obtain rfl := hw8.symm; clear hw8) | (go_at_call 16; refine (waiters_some HT2.out HW.out HFK2.out (by have := HQ.out; omega)).mono ?_; rintro e w3 ⟨v3, rfl, r3, hb3⟩; obtain ⟨A3, c3, rfl⟩ := row_shape r3) | (go_at_call 20; refine (sum_at (HT2.out.below hb3) (by have := small_mq HM.out.2 HQ.out; omega)).mono ?_; rintro e w4 ⟨rfl, hb4⟩))
                · rename_i hbad
                  exact (not_bad HM.out.2 HQ.out hl2 hq2 hs2 hbad).elim
                · exact ⟨⟨i + 1, L2, _, rfl, ⟨rnd h0 hk⟩, ⟨(HT2.out.below hb3).below hb4⟩, HF2, HS2, ⟨below_step (below_step HB2.out hb3) hb4⟩⟩, rnd_m h0 hk⟩
          · have hz0b : decide (d.kind = 0) = false := decide_eq_false hz
            have hz1b : decide (d.kind = 1) = false := decide_eq_false hz1
            cases hf : findK L d.k with
            | none =>
              have HFK := Aside0.mk hf
              clear hf
              have hJ := fun (w' : World) (hw : Tab w' S g mb (M : Int) (Q : Int) L) => end_none hw HW.out HFK.out
              go_wp2_with (first | (go_at_call 17; have q_ := leader_none HT.out HW.out HFK.out; (with_reducible refine q_.mono ?_); clear q_; rintro e w8 ⟨rfl, hw8⟩; obtain rfl := hw8.symm; clear hw8) | (go_at_call 13; refine (hJ _ ?side1).mono ?_; (case side1 => exact HT.out.step (fun _ _ _ => rfl)); clear hJ; rintro e w2 ⟨rfl, hw2⟩; have HB2 := Aside0.mk (show Below w.heap.size w w2 by rw [hw2]; exact HB.out); have HT2 := Aside0.mk (show Tab w2 S g mb (M : Int) (Q : Int) L by rw [hw2]; exact HT.out.step (fun _ _ _ => rfl)); clear hw2; obtain ⟨L2, eL⟩ : ∃ L2, L2 = L := ⟨_, rfl⟩; rw [← eL] at HT2; have HS2 := HS; have HF2 := Aside0.mk (show Fits (M : Int) (Q : Int) L2 by rw [eL]; exact HF.out); have HFK2 := Aside0.mk (show findK L2 d.k = none from (by rw [eL]; exact HFK.out)); clear eL; have c1' := (HB2.out.cell (World.block_lt_of_cell? w _ C1.out)).trans C1.out; have c2' := (HB2.out.cell (World.block_lt_of_cell? w _ C2.out)).trans C2.out; have hl2 := HF2.out.n; have hs2 := HF2.out.sum) | (go_at_call 17; have q_ := leader_none HT2.out HW.out HFK2.out; (with_reducible refine q_.mono ?_); clear q_; rintro e w8 ⟨rfl, hw8⟩; obtain rfl := hw8.symm; clear hw8) | (go_at_call 19; refine (len_at HT2.out).mono ?_; rintro e w8 ⟨rfl, hw8⟩; obtain rfl := hw8.symm; clear hw8) | (go_at_call 16; refine (waiters_none HT2.out HW.out HFK2.out).mono ?_; rintro e w3 ⟨rfl, hw3⟩; have hb3 : Below w2.heap.size w2 w3 := (by rw [hw3]; exact Below.refl _ _); clear hw3) | (go_at_call 20; refine (sum_at (HT2.out.below hb3) (by have := small_mq HM.out.2 HQ.out; omega)).mono ?_; rintro e w4 ⟨rfl, hb4⟩))
              · rename_i hbad
                exact (not_bad0 HM.out.2 HQ.out hl2 hs2 hbad).elim
              · exact ⟨⟨i + 1, L2, _, rfl, ⟨rnd h0 hk⟩, ⟨(HT2.out.below hb3).below hb4⟩, HF2, HS2, ⟨below_step (below_step HB2.out hb3) hb4⟩⟩, rnd_m h0 hk⟩
            | some f =>
              have HFK := Aside0.mk hf
              clear hf
              have hfq := HF.out.q _ (findK_mem HFK.out).1
              have hJ := fun (w' : World) (hw : Tab w' S g mb (M : Int) (Q : Int) L) => end_some hw HW.out HFK.out
              go_wp2_with (first | (go_at_call 17; have q_ := leader_some HT.out HW.out HFK.out; (with_reducible refine q_.mono ?_); clear q_; rintro e w8 ⟨rfl, hw8⟩; obtain rfl := hw8.symm; clear hw8) | (go_at_call 13; refine (hJ _ ?side1).mono ?_; (case side1 => exact HT.out.step (fun _ _ _ => rfl)); clear hJ; rintro e w2 ⟨rfl, T2, _, t2⟩; obtain ⟨L2, eL⟩ : ∃ L2, L2 = L.filter (fun x => !decide (x.k = d.k)) := ⟨_, rfl⟩; rw [← eL] at T2; have HT2 := Aside0.mk T2; have HS2 := Aside0.mk (HS.out); have HB2 := Aside0.mk (t2.below HB.out HS.out); have HF2 := Aside0.mk (show Fits (M : Int) (Q : Int) L2 by rw [eL]; exact HF.out.drop _); have HFK2 := Aside0.mk (show findK L2 d.k = none from (by rw [eL, findK_drop, if_pos rfl])); clear eL T2 t2; have c1' := (HB2.out.cell (World.block_lt_of_cell? w _ C1.out)).trans C1.out; have c2' := (HB2.out.cell (World.block_lt_of_cell? w _ C2.out)).trans C2.out; have hl2 := HF2.out.n; have hs2 := HF2.out.sum) | (go_at_call 17; have q_ := leader_none HT2.out HW.out HFK2.out; (with_reducible refine q_.mono ?_); clear q_; rintro e w8 ⟨rfl, hw8⟩; obtain rfl := hw8.symm; clear hw8) | (go_at_call 19; refine (len_at HT2.out).mono ?_; rintro e w8 ⟨rfl, hw8⟩; obtain rfl := hw8.symm; clear hw8) | (go_at_call 16; refine (waiters_none HT2.out HW.out HFK2.out).mono ?_; rintro e w3 ⟨rfl, hw3⟩; have hb3 : Below w2.heap.size w2 w3 := (by rw [hw3]; exact Below.refl _ _); clear hw3) | (go_at_call 20; refine (sum_at (HT2.out.below hb3) (by have := small_mq HM.out.2 HQ.out; omega)).mono ?_; rintro e w4 ⟨rfl, hb4⟩))
              · rename_i hbad
                exact (not_bad0 HM.out.2 HQ.out hl2 hs2 hbad).elim
              · exact ⟨⟨i + 1, L2, _, rfl, ⟨rnd h0 hk⟩, ⟨(HT2.out.below hb3).below hb4⟩, HF2, HS2, ⟨below_step (below_step HB2.out hb3) hb4⟩⟩, rnd_m h0 hk⟩
      · go_wp2
        go_ret
        exact ⟨rfl, HB.out⟩
    · go_wp2
      go_ret
      exact ⟨rfl, HB.out⟩
end Go.Proofs.Ytbonaoopkfcabaa.Own
