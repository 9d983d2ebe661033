/- FlightPlays: the walk of the law: each answer, any key's leader and waiters, and how many there are, are the reference's. -/
import Derived.Test.YtbonaoopkfcabaaOwnDo
import Derived.Deep.RegionHeld3
import Derived.Test.YtbonaoopkfcabaaWLast
namespace Go.Proofs.Ytbonaoopkfcabaa.Own
open Go.RowKit Go.Maps Go.Proofs.Ytbonaoopkfcabaa.OwnDeeds Go.Proofs.Ytbonaoopkfcabaa.PFlightPlays Go.Proofs.YtbonaoopkfcabaaW.PrintWords Go.Proofs.YtbonaoopkfcabaaW.PrintLast Go.Proofs.YtbonaoopkfcabaaW.PrintMore
set_option linter.unusedVariables false
set_option linter.unusedSimpArgs false
theorem find_at {L : List Fl} {k : Int} {f : Fl} (hn : L.length ≤ 1000) (h : findK L k = some f) : ∃ m : Nat, m < (refL L).length ∧ derrickref16_Find.f 2000 (refL L) k = some (m : Int) ∧ rd_T48 (refL L) (m : Int) = s48 f := by
  obtain ⟨a, b, rfl, h1, rfl⟩ := split_of h
  exact ⟨a.length, by rw [refL_len]; simp, find_some hn h1, rd_mid a b f⟩
theorem len_ref {w : World} {S : Nat → Prop} {g mb : Nat} {n0 n1 : Int} {L : List Fl} (h : Tab w S g mb n0 n1 L) : Calls Try.prog 19 #[.pointer (some ⟨g, 0, none⟩)] w fun e w1 => e = .returned (.int .i64 ((refL L).length : Int)) ∧ w1 = w := by
  rw [refL_len]
  exact len_at h
theorem rndp {i n : Int} (h0 : 0 ≤ i) (hk : i < n) : 0 ≤ i + 1 ∧ i + 1 ≤ n := by omega
theorem rndp_m {i : Int} {n : Nat} (h0 : 0 ≤ i) (hk : i < (n : Int)) : n - (intOf (Value.int .i64 (i + 1))).toNat < n - (intOf (Value.int .i64 i)).toNat := by
  simp [intOf]
  omega
theorem bel_box (w : World) (o : Obj) {w0 : World} (hb : Below (w.alloc o).heap.size (w.alloc o) w0) : Below w.heap.size w w0 := by
  refine ⟨hb.os, hb.tape, hb.output, ?_, fun i hi => (hb.block i (by rw [al, Array.size_push]; omega)).trans (by rw [al, Array.getElem?_push, if_neg (by omega)])⟩
  have := hb.size
  rw [al, Array.size_push] at this
  omega
theorem box_at {w w0 : World} {xs : Array Value} {t : Nat} (hb : Below (w.alloc (.cells xs t)).heap.size (w.alloc (.cells xs t)) w0) : w0.heap[w.heap.size]? = some (.cells xs t (0, 0)) := by
  rw [hb.block w.heap.size (by rw [al, Array.size_push]; exact Nat.lt_succ_self _), al]
  exact Array.getElem?_push_size
theorem sum_small {L : List Fl} {i : Int} (h : Fits i i L) (hi : i ≤ 200) : sumAll L ≤ 1000000 := by
  have hs : ∀ {L : List Fl}, (∀ f ∈ L, f.ws.length ≤ 200) → sumAll L ≤ L.length * 200 := by
    intro L
    induction L with
    | nil => intro _; simp [sumAll]
    | cons a t ih =>
      intro h
      have h1 := ih (fun f hf => h f (List.mem_cons_of_mem _ hf))
      have h2 := h a (List.mem_cons_self ..)
      unfold sumAll at h1 ⊢
      rw [List.map_cons, List.sum_cons, List.length_cons, Nat.succ_mul]
      omega
  have h1 := hs (L := L) (fun f hf => by have := h.q f hf; omega)
  have h2 := h.n
  omega
set_option maxRecDepth 100000 in
set_option maxHeartbeats 4000000 in
theorem plays_walk (n0 n1 : Int) (A0 : Option Addr) (c : Nat) (l : List Dd) (k : Int) (w : World) (hk : (Lit.int .i64 k).wf = true) (hC : Kd.C kD w A0 l.length l) (hl : l.length ≤ c) (hN : ∀ x ∈ l, Nums x) (h1 : 1 ≤ n0) (h2 : 0 ≤ n1) :
    Calls Try.prog 5 #[.agg #[.int .i64 n0, .int .i64 n1], .slice A0 l.length c, .int .i64 k] w fun e w1 => e = .returned (.bool true) ∧ Below w.heap.size w w1 := by
  have HC := Aside0.mk hC
  have HNN := Aside0.mk hN
  have HLC := Aside0.mk hl
  have HW0 := Aside0.mk hk
  have HN := Aside0.mk (And.intro h1 h2)
  have hb1 : decide (n0 < 1) = false := decide_eq_false (by omega)
  have hb2 : decide (n1 < 0) = false := decide_eq_false (by omega)
  clear hC hN hl hk h1 h2
  go_enter Try.func5, Try.ntmps5
  go_wp2_with (first | (go_at_call 8; refine (shown_calls _).mono ?_; rintro e w0 ⟨rfl, hb0⟩; have x0 := gcell (box_at hb0) 0 _ rfl; have x1 := gcell (box_at hb0) 1 _ rfl) | (go_at_call 9; (with_reducible refine (new_at _ _ ?side1 ?side2 _).mono ?_); (case side1 => exact HN.out.1); (case side2 => exact HN.out.2); rintro e w1 ⟨g, mb, rfl, h1, hb1_⟩; have y0 := (hb1_.cell (World.block_lt_of_cell? w0 _ x0)).trans x0; have y1 := (hb1_.cell (World.block_lt_of_cell? w0 _ x1)).trans x1) | go_in)
  have HS := Aside0.mk (show PSt w0 w1 (fun b => w0.heap.size ≤ b ∧ b < w1.heap.size) g mb n0 n1 [] (.slice none 0 0) [] 0 (fun _ => True) from ⟨h1, fun b hb => hb.1, fun b hb => hb.2, hb1_, Kd.V_nil _ _ _ _ _, Fits.nil (by decide), fun f hf => by simp at hf⟩)
  have HX0 := Aside0.mk x0
  have HX1 := Aside0.mk x1
  have HB0 := Aside0.mk (bel_box w _ hb0)
  clear hb0 hb1_ h1 x0 x1 y0 y1
  go_loopw [9, 10] (fun v9 v10 wr => ∃ (i : Int) (L : List Fl) (S : Nat → Prop) (A : Option Addr) (cA : Nat), v10 = .int .i64 i ∧ v9 = .slice A (refL L).length cA ∧ Aside0 (0 ≤ i ∧ i ≤ (l.length : Int)) ∧ Aside0 (PSt w0 wr S g mb n0 n1 L (.slice A (refL L).length cA) (refL L) i (fun _ => True))) (fun _ v10 _ => l.length - (intOf v10).toNat)
  case atStart =>
    exact ⟨0, [], _, none, 0, rfl, rfl, ⟨⟨Int.le_refl _, by omega⟩⟩, HS⟩
  case round =>
    clear HS
    obtain ⟨i, L, S, A, cA, rfl, rfl, HK, HS⟩ := hrel
    by_cases hk : i < (l.length : Int)
    · by_cases hk2 : i < 200
      · have h0 : 0 ≤ i := HK.out.1
        obtain ⟨ad, e0, c0, c1, c2⟩ := at_D (Kd.C_below HC.out HB0.out) i h0 hk
        cases e0
        have c0w := c0
        have c1w := c1
        have c2w := c2
        replace c0 := (HS.out.bel.cell (World.block_lt_of_cell? w0 _ c0)).trans c0
        replace c1 := (HS.out.bel.cell (World.block_lt_of_cell? w0 _ c1)).trans c1
        replace c2 := (HS.out.bel.cell (World.block_lt_of_cell? w0 _ c2)).trans c2
        have x0 := (HS.out.bel.cell (World.block_lt_of_cell? w0 _ HX0.out)).trans HX0.out
        have x1 := (HS.out.bel.cell (World.block_lt_of_cell? w0 _ HX1.out)).trans HX1.out
        obtain ⟨d, hd⟩ : ∃ d, rdD l i = d := ⟨_, rfl⟩
        have HW := Aside0.mk ((HNN.out _ (rdD_at h0 hk)).k)
        rw [hd] at c0 c1 c2 c0w c1w c2w HW
        clear hd
        have C0 := Aside0.mk c0w
        have C1 := Aside0.mk c1w
        have C2 := Aside0.mk c2w
        clear c0w c1w c2w
        have hcap := HLC.out
        have hJ := fun (w' : World) (hw : PSt w0 w' S g mb n0 n1 L (.slice A (refL L).length cA) (refL L) i (fun _ => True)) => do_any (kd := d.kind) (who := d.who) hw (by omega) h0 HW.out trivial
        go_wp2
        go_region_held3 (fun w' => (w'.cell? ⟨w.heap.size, 0, none⟩ = some (.int .i64 n0) ∧ w'.cell? ⟨w.heap.size, 1, none⟩ = some (.int .i64 n1)) ∧ w'.cell? (ad.add (i.toNat * 3)) = some (.int .i64 d.kind) ∧ w'.cell? ⟨(ad.add (i.toNat * 3)).block, (ad.add (i.toNat * 3)).off + 1, none⟩ = some (.int .i64 d.k) ∧ w'.cell? ⟨(ad.add (i.toNat * 3)).block, (ad.add (i.toNat * 3)).off + 2, none⟩ = some (.int .i64 d.who)) (go_keep) ((go_at_call 15; refine (hJ _ ?side1).mono ?_; (case side1 => exact HS.out.drew _); clear hJ; rintro e w2 hS2; obtain ⟨B, dB, L2, S2, rfl, h2⟩ := hS2; have y0 := (h2.bel.cell (World.block_lt_of_cell? w0 _ HX0.out)).trans HX0.out; have y1 := (h2.bel.cell (World.block_lt_of_cell? w0 _ HX1.out)).trans HX1.out; have z0 := (h2.bel.cell (World.block_lt_of_cell? w0 _ C0.out)).trans C0.out; have z1 := (h2.bel.cell (World.block_lt_of_cell? w0 _ C1.out)).trans C1.out; have z2 := (h2.bel.cell (World.block_lt_of_cell? w0 _ C2.out)).trans C2.out; have H2 := Aside0.mk h2; clear h2))
        clear x0 x1 y0 y1 z0 z1 z2 c0 c1 c2
        have HLN := Aside0.mk (wks0 H2.out.fits.n (by omega))
        have HSM := Aside0.mk (sum_small H2.out.fits (by omega))
        cases hf : findK L2 k with
        | none =>
          have HF := Aside0.mk hf
          clear hf
          go_wp2_with (first | (go_at_call 17; have q_ := leader_none H2.out.tab HW0.out HF.out; (with_reducible refine q_.mono ?_); clear q_; rintro e w3 ⟨rfl, hw3⟩; obtain rfl := hw3.symm; clear hw3) | (go_at_call 18; have q_ := st_find H2.out (find_none HLN.out HF.out); (with_reducible refine q_.mono ?_); clear q_; rintro e w3 ⟨rfl, m3, rfl⟩) | (go_at_call 19; have q_ := fun m => len_ref (H2.out.tab.drewN m); (with_reducible refine (q_ _).mono ?_); clear q_; rintro e w4 ⟨rfl, hw4⟩; obtain rfl := hw4.symm; clear hw4) | (go_at_call 20; have q_ := fun m => sum_at (H2.out.tab.drewN m) HSM.out; (with_reducible refine (q_ _).mono ?_); clear q_; rintro e w5 ⟨rfl, hb5⟩; have H5 := Aside0.mk ((H2.out.drew _).below hb5); clear hb5) | (go_at_call 21; have q_ := st_sum H5.out (ref_sum HLN.out HSM.out); (with_reducible refine q_.mono ?_); clear q_; rintro e w6 ⟨rfl, hw6⟩; have H6 := Aside0.mk (show PSt w0 w6 S2 g mb n0 n1 L2 (.slice B (refL L2).length dB) (refL L2) (i + 1) (fun _ => True) from by obtain ⟨m, rfl⟩ := hw6; exact H5.out.drew m); clear hw6))
          go_quiet ((go_at_call 16; exact Calls.quiet_of_same (waiters_none (H6.out.tab.drewN _) HW0.out HF.out)))
          go_wp2
          exact ⟨⟨i + 1, L2, S2, B, dB, rfl, rfl, ⟨rndp h0 hk⟩, ⟨H6.out.drew _⟩⟩, rndp_m h0 hk⟩
        | some f =>
          have HF := Aside0.mk hf
          clear hf
          obtain ⟨m, hm1, hm2, hm3⟩ := find_at HLN.out HF.out
          have HM := Aside0.mk hm2
          have HM1 := Aside0.mk hm1
          have HM3 := Aside0.mk hm3
          have HFW := Aside0.mk (wks0 (H2.out.fits.q f (findK_mem HF.out).1) (by omega))
          have hm4 : (m : Int) < ((refL L2).length : Int) := by omega
          clear hm2 hm3 hm1
          go_wp2_with (first | (go_at_call 17; have q_ := leader_some H2.out.tab HW0.out HF.out; (with_reducible refine q_.mono ?_); clear q_; rintro e w3 ⟨rfl, hw3⟩; obtain rfl := hw3.symm; clear hw3) | (go_at_call 18; have q_ := st_find H2.out HM.out; (with_reducible refine q_.mono ?_); clear q_; rintro e w3 ⟨rfl, m3, rfl⟩) | (go_at_call 19; have q_ := fun m => len_ref (H2.out.tab.drewN m); (with_reducible refine (q_ _).mono ?_); clear q_; rintro e w4 ⟨rfl, hw4⟩; obtain rfl := hw4.symm; clear hw4) | (go_at_call 20; have q_ := fun m => sum_at (H2.out.tab.drewN m) HSM.out; (with_reducible refine (q_ _).mono ?_); clear q_; rintro e w5 ⟨rfl, hb5⟩; have H5 := Aside0.mk ((H2.out.drew _).below hb5); clear hb5) | (go_at_call 21; have q_ := st_sum H5.out (ref_sum HLN.out HSM.out); (with_reducible refine q_.mono ?_); clear q_; rintro e w6 ⟨rfl, hw6⟩; have H6 := Aside0.mk (show PSt w0 w6 S2 g mb n0 n1 L2 (.slice B (refL L2).length dB) (refL L2) (i + 1) (fun _ => True) from by obtain ⟨m, rfl⟩ := hw6; exact H5.out.drew m); clear hw6))
          obtain ⟨adr, A2, c2, eB, u0, u1, u2, hc2, hC2⟩ := at_T48 (Kd.V_reads' H6.out.ref).2.2 (m : Int) (by omega) hm4
          cases eB
          rw [HM3.out] at u0 u1 u2 hc2 hC2
          rw [Int.toNat_natCast] at u0 u1 u2
          replace u1 : w6.cell? ⟨(adr.add (m * 3)).block, (adr.add (m * 3)).off + 1, none⟩ = some (.int .i64 f.lead) := u1
          replace u2 : w6.cell? ⟨(adr.add (m * 3)).block, (adr.add (m * 3)).off + 2, none⟩ = some (.slice A2 f.ws.length c2) := u2
          have HU1 := Aside0.mk u1
          have HU2 := Aside0.mk u2
          have HC2 := Aside0.mk (show Kd.C (Kd.int .i64) w6 A2 f.ws.length f.ws from hC2)
          have HCC2 := Aside0.mk (show f.ws.length ≤ c2 from hc2)
          clear u0 hc2 hC2
          have hm0 : (0 : Int) ≤ (m : Int) := by omega
          have hJ := fun (w' : World) (hw : PSt w0 w' S2 g mb n0 n1 L2 (.slice (some adr) (refL L2).length dB) (refL L2) (i + 1) (fun _ => True)) => waiters_some hw.tab HW0.out HF.out (by have := HFW.out; omega)
          have H6d := Aside0.mk (show PSt w0 w6.drew S2 g mb n0 n1 L2 (.slice (some adr) (refL L2).length dB) (refL L2) (i + 1) (fun _ => True) from H6.out.drew 1)
          have HFW2 := Aside0.mk (show f.ws.length ≤ 1000000 from Nat.le_trans HFW.out (by decide))
          clear u1 u2
          refine start_ (n := 37) (S := fun w' => w'.cell? ⟨(adr.add (m * 3)).block, (adr.add (m * 3)).off + 1, none⟩ = some (.int .i64 f.lead) ∧ w'.cell? ⟨(adr.add (m * 3)).block, (adr.add (m * 3)).off + 2, none⟩ = some (.slice A2 f.ws.length c2)) (ds := []) #[false, false, false, false, false, false, false, false, false, false, false, false, false, false, false, false, false, false, false, false, false, false, false, false, false, false, false, false, false, false, false, false, false, false, false, false, false] (by kernel_rfl) rfl rfl ⟨HU1.out, HU2.out⟩ (fun hHeld => ?_)
          refine pure_ (i := 0) (N := some 88) (v := ?_) (a' := ?_) #[true, false, false, false, false, false, false, false, false, false, false, false, false, false, false, false, false, false, false, false, false, false, false, false, false, false, false, false, false, false, false, false, false, false, false, false, false] rfl rfl (by kernel_rfl) (fun _ _ _ h => h) (Or.inl ⟨by rfl, ?_⟩) ?_ ?_
          rotate_left
          · intro w'
            go_simp
            with_reducible rfl
          rotate_left
          · simp only [Act.put, List.setIfInBounds_toArray, List.set_cons_zero, List.set_cons_succ, i64_w, i32_w]
            rfl
          refine pure_ (i := 1) (N := some 89) (v := ?_) (a' := ?_) #[true, true, false, false, false, false, false, false, false, false, false, false, false, false, false, false, false, false, false, false, false, false, false, false, false, false, false, false, false, false, false, false, false, false, false, false, false] rfl rfl (by kernel_rfl) (fun _ _ _ h => h) (Or.inl ⟨by rfl, ?_⟩) ?_ ?_
          rotate_left
          · intro w'
            go_simp
            with_reducible rfl
          rotate_left
          · simp only [Act.put, List.setIfInBounds_toArray, List.set_cons_zero, List.set_cons_succ, i64_w, i32_w]
            rfl
          refine pure_ (i := 2) (N := some 90) (v := ?_) (a' := ?_) #[true, true, true, false, false, false, false, false, false, false, false, false, false, false, false, false, false, false, false, false, false, false, false, false, false, false, false, false, false, false, false, false, false, false, false, false, false] rfl rfl (by kernel_rfl) (fun _ _ _ h => h) (Or.inl ⟨by rfl, ?_⟩) ?_ ?_
          rotate_left
          · intro w'
            go_simp
            with_reducible rfl
          rotate_left
          · simp only [Act.put, List.setIfInBounds_toArray, List.set_cons_zero, List.set_cons_succ, i64_w, i32_w]
            rfl
          refine pure_ (i := 3) (N := some 91) (v := ?_) (a' := ?_) #[true, true, true, true, false, false, false, false, false, false, false, false, false, false, false, false, false, false, false, false, false, false, false, false, false, false, false, false, false, false, false, false, false, false, false, false, false] rfl rfl (by kernel_rfl) (fun _ _ _ h => h) (Or.inl ⟨by rfl, ?_⟩) ?_ ?_
          rotate_left
          · intro w'
            go_simp
            with_reducible rfl
          rotate_left
          · simp only [Act.put, List.setIfInBounds_toArray, List.set_cons_zero, List.set_cons_succ, i64_w, i32_w]
            rfl
          refine pure_ (i := 4) (N := some 92) (v := ?_) (a' := ?_) #[true, true, true, true, true, false, false, false, false, false, false, false, false, false, false, false, false, false, false, false, false, false, false, false, false, false, false, false, false, false, false, false, false, false, false, false, false] rfl rfl (by kernel_rfl) (fun _ _ _ h => h) (Or.inl ⟨by rfl, ?_⟩) ?_ ?_
          rotate_left
          · intro w'
            go_simp
            with_reducible rfl
          rotate_left
          · simp only [Act.put, List.setIfInBounds_toArray, List.set_cons_zero, List.set_cons_succ, i64_w, i32_w]
            rfl
          refine pure_ (i := 5) (N := some 93) (v := ?_) (a' := ?_) #[true, true, true, true, true, true, false, false, false, false, false, false, false, false, false, false, false, false, false, false, false, false, false, false, false, false, false, false, false, false, false, false, false, false, false, false, false] rfl rfl (by kernel_rfl) (fun _ _ _ h => h) (Or.inl ⟨by rfl, ?_⟩) ?_ ?_
          rotate_left
          · intro w'
            go_simp
            with_reducible rfl
          rotate_left
          · simp only [Act.put, List.setIfInBounds_toArray, List.set_cons_zero, List.set_cons_succ, i64_w, i32_w]
            rfl
          refine pure_ (i := 6) (N := some 94) (v := ?_) (a' := ?_) #[true, true, true, true, true, true, true, false, false, false, false, false, false, false, false, false, false, false, false, false, false, false, false, false, false, false, false, false, false, false, false, false, false, false, false, false, false] rfl rfl (by kernel_rfl) (fun _ _ _ h => h) (Or.inl ⟨by rfl, ?_⟩) ?_ ?_
          rotate_left
          · intro w'
            go_simp
            with_reducible rfl
          rotate_left
          · simp only [Act.put, List.setIfInBounds_toArray, List.set_cons_zero, List.set_cons_succ, i64_w, i32_w]
            rfl
          refine take_ (i := 7) (N := some 95) (v := ?_) (a' := ?_) #[true, true, true, true, true, true, true, true, false, false, false, false, false, false, false, false, false, false, false, false, false, false, false, false, false, false, false, false, false, false, false, false, false, false, false, false, false] rfl rfl (by kernel_rfl) (fun _ _ _ h => h) (Or.inl ⟨by rfl, ?_⟩) hHeld ?_ ?_
          rotate_left
          · rintro w' ⟨s0, s1⟩
            go_simp
            with_reducible rfl
          rotate_left
          · simp only [Act.put, List.setIfInBounds_toArray, List.set_cons_zero, List.set_cons_succ, i64_w, i32_w]
            rfl
          refine pure_ (i := 8) (N := some 96) (v := ?_) (a' := ?_) #[true, true, true, true, true, true, true, true, true, false, false, false, false, false, false, false, false, false, false, false, false, false, false, false, false, false, false, false, false, false, false, false, false, false, false, false, false] rfl rfl (by kernel_rfl) (fun _ _ _ h => h) (Or.inl ⟨by rfl, ?_⟩) ?_ ?_
          rotate_left
          · intro w'
            go_simp
            with_reducible rfl
          rotate_left
          · simp only [Act.put, List.setIfInBounds_toArray, List.set_cons_zero, List.set_cons_succ, i64_w, i32_w]
            rfl
          refine pure_ (i := 9) (N := some 97) (v := ?_) (a' := ?_) #[true, true, true, true, true, true, true, true, true, true, false, false, false, false, false, false, false, false, false, false, false, false, false, false, false, false, false, false, false, false, false, false, false, false, false, false, false] rfl rfl (by kernel_rfl) (fun _ _ _ h => h) (Or.inl ⟨by rfl, ?_⟩) ?_ ?_
          rotate_left
          · intro w'
            go_simp
            with_reducible rfl
          rotate_left
          · simp only [Act.put, List.setIfInBounds_toArray, List.set_cons_zero, List.set_cons_succ, i64_w, i32_w]
            rfl
          refine pure_ (i := 10) (N := some 98) (v := ?_) (a' := ?_) #[true, true, true, true, true, true, true, true, true, true, true, false, false, false, false, false, false, false, false, false, false, false, false, false, false, false, false, false, false, false, false, false, false, false, false, false, false] rfl rfl (by kernel_rfl) (fun _ _ _ h => h) (Or.inl ⟨by rfl, ?_⟩) ?_ ?_
          rotate_left
          · intro w'
            go_simp
            with_reducible rfl
          rotate_left
          · simp only [Act.put, List.setIfInBounds_toArray, List.set_cons_zero, List.set_cons_succ, i64_w, i32_w]
            rfl
          refine pure_ (i := 11) (N := some 99) (v := ?_) (a' := ?_) #[true, true, true, true, true, true, true, true, true, true, true, true, false, false, false, false, false, false, false, false, false, false, false, false, false, false, false, false, false, false, false, false, false, false, false, false, false] rfl rfl (by kernel_rfl) (fun _ _ _ h => h) (Or.inl ⟨by rfl, ?_⟩) ?_ ?_
          rotate_left
          · intro w'
            go_simp
            with_reducible rfl
          rotate_left
          · simp only [Act.put, List.setIfInBounds_toArray, List.set_cons_zero, List.set_cons_succ, i64_w, i32_w]
            rfl
          refine pure_ (i := 13) (N := some 101) (v := ?_) (a' := ?_) #[true, true, true, true, true, true, true, true, true, true, true, true, false, true, false, false, false, false, false, false, false, false, false, false, false, false, false, false, false, false, false, false, false, false, false, false, false] rfl rfl (by kernel_rfl) (fun _ _ _ h => h) (Or.inl ⟨by rfl, ?_⟩) ?_ ?_
          rotate_left
          · intro w'
            go_simp
            with_reducible rfl
          rotate_left
          · simp only [Act.put, List.setIfInBounds_toArray, List.set_cons_zero, List.set_cons_succ, i64_w, i32_w]
            rfl
          refine pure_ (i := 14) (N := some 102) (v := ?_) (a' := ?_) #[true, true, true, true, true, true, true, true, true, true, true, true, false, true, true, false, false, false, false, false, false, false, false, false, false, false, false, false, false, false, false, false, false, false, false, false, false] rfl rfl (by kernel_rfl) (fun _ _ _ h => h) (Or.inl ⟨by rfl, ?_⟩) ?_ ?_
          rotate_left
          · intro w'
            go_simp
            with_reducible rfl
          rotate_left
          · simp only [Act.put, List.setIfInBounds_toArray, List.set_cons_zero, List.set_cons_succ, i64_w, i32_w]
            rfl
          refine pure_ (i := 15) (N := some 103) (v := ?_) (a' := ?_) #[true, true, true, true, true, true, true, true, true, true, true, true, false, true, true, true, false, false, false, false, false, false, false, false, false, false, false, false, false, false, false, false, false, false, false, false, false] rfl rfl (by kernel_rfl) (fun _ _ _ h => h) (Or.inl ⟨by rfl, ?_⟩) ?_ ?_
          rotate_left
          · intro w'
            go_simp
            with_reducible rfl
          rotate_left
          · simp only [Act.put, List.setIfInBounds_toArray, List.set_cons_zero, List.set_cons_succ, i64_w, i32_w]
            rfl
          refine pure_ (i := 16) (N := some 104) (v := ?_) (a' := ?_) #[true, true, true, true, true, true, true, true, true, true, true, true, false, true, true, true, true, false, false, false, false, false, false, false, false, false, false, false, false, false, false, false, false, false, false, false, false] rfl rfl (by kernel_rfl) (fun _ _ _ h => h) (Or.inl ⟨by rfl, ?_⟩) ?_ ?_
          rotate_left
          · intro w'
            go_simp
            with_reducible rfl
          rotate_left
          · simp only [Act.put, List.setIfInBounds_toArray, List.set_cons_zero, List.set_cons_succ, i64_w, i32_w]
            rfl
          refine take_ (i := 17) (N := some 105) (v := ?_) (a' := ?_) #[true, true, true, true, true, true, true, true, true, true, true, true, false, true, true, true, true, true, false, false, false, false, false, false, false, false, false, false, false, false, false, false, false, false, false, false, false] rfl rfl (by kernel_rfl) (fun _ _ _ h => h) (Or.inl ⟨by rfl, ?_⟩) hHeld ?_ ?_
          rotate_left
          · rintro w' ⟨s0, s1⟩
            go_simp
            with_reducible rfl
          rotate_left
          · simp only [Act.put, List.setIfInBounds_toArray, List.set_cons_zero, List.set_cons_succ, i64_w, i32_w]
            rfl
          refine one_ (i := 12) (N := some 100) #[true, true, true, true, true, true, true, true, true, true, true, true, true, true, true, true, true, true, false, false, false, false, false, false, false, false, false, false, false, false, false, false, false, false, false, false, false] rfl rfl (by kernel_rfl) (by decide) (fun K hK => ?_)
          refine goes_ Try.func16 (by kernel_rfl) rfl #[.pointer (some ⟨g, 0, none⟩), .int .i64 k] (by rfl) rfl rfl (by simp only [List.map_toArray, List.map_cons, List.map_nil]; rfl) ?_
          with_reducible refine (hJ _ H6d.out).mono ?_
          rintro e w7 ⟨v7, rfl, r7, hb7⟩
          obtain ⟨A7, c7, rfl, hc7, hC7⟩ := row_C r7
          refine ⟨_, rfl, ?_⟩
          have x1 := (hb7.cell (World.block_lt_of_cell? w6 _ HU1.out)).trans HU1.out
          have x2 := (hb7.cell (World.block_lt_of_cell? w6 _ HU2.out)).trans HU2.out
          have H7 := Aside0.mk (PSt.below H6d.out hb7)
          have HC7 := Aside0.mk hC7
          have HCC7 := Aside0.mk hc7
          have HC8 := Aside0.mk (Kd.C_below (show Kd.C (Kd.int .i64) w6.drew A2 f.ws.length f.ws from HC2.out) hb7)
          have X1 := Aside0.mk x1
          have X2 := Aside0.mk x2
          clear hb7 r7 hC7 hc7 x1 x2
          refine hK.out _ _ ⟨X1.out, X2.out⟩ (fun hHeld => ?_)
          clear hK K
          refine norm_ (a' := ?_) ?_ ?_
          rotate_left
          · show Act.put _ (some 100) _ = _
            simp only [Act.put, List.setIfInBounds_toArray, List.set_cons_zero, List.set_cons_succ, i64_w, i32_w]
            rfl
          refine one_ (i := 18) (N := some 106) #[true, true, true, true, true, true, true, true, true, true, true, true, true, true, true, true, true, true, true, false, false, false, false, false, false, false, false, false, false, false, false, false, false, false, false, false, false] rfl rfl (by kernel_rfl) (by decide) (fun K hK => ?_)
          refine goes_ Try.func14 (by kernel_rfl) rfl #[.slice A7 f.ws.length c7, .slice A2 f.ws.length c2] (by rfl) rfl rfl (by simp only [List.map_toArray, List.map_cons, List.map_nil]; rfl) ?_
          with_reducible refine (ints_same HFW2.out HC7.out HCC7.out HC8.out HCC2.out).mono ?_
          rintro e w8 ⟨rfl, m8, rfl⟩
          refine ⟨_, rfl, ?_⟩
          refine hK.out _ _ ⟨X1.out, X2.out⟩ (fun hHeld => ?_)
          clear hK K
          refine norm_ (a' := ?_) ?_ ?_
          rotate_left
          · show Act.put _ (some 106) _ = _
            simp only [Act.put, List.setIfInBounds_toArray, List.set_cons_zero, List.set_cons_succ, i64_w, i32_w]
            rfl
          refine pure_ (i := 19) (N := some 107) (v := ?_) (a' := ?_) #[true, true, true, true, true, true, true, true, true, true, true, true, true, true, true, true, true, true, true, true, false, false, false, false, false, false, false, false, false, false, false, false, false, false, false, false, false] rfl rfl (by kernel_rfl) (fun _ _ _ h => h) (Or.inl ⟨by rfl, ?_⟩) ?_ ?_
          rotate_left
          · intro w'
            go_simp
            with_reducible rfl
          rotate_left
          · simp only [Act.put, List.setIfInBounds_toArray, List.set_cons_zero, List.set_cons_succ, i64_w, i32_w]
            rfl
          refine pure_ (i := 20) (N := some 108) (v := ?_) (a' := ?_) #[true, true, true, true, true, true, true, true, true, true, true, true, true, true, true, true, true, true, true, true, true, false, false, false, false, false, false, false, false, false, false, false, false, false, false, false, false] rfl rfl (by kernel_rfl) (fun _ _ _ h => h) (Or.inl ⟨by rfl, ?_⟩) ?_ ?_
          rotate_left
          · intro w'
            go_simp
            with_reducible rfl
          rotate_left
          · simp only [Act.put, List.setIfInBounds_toArray, List.set_cons_zero, List.set_cons_succ, i64_w, i32_w]
            rfl
          refine pure_ (i := 21) (N := some 109) (v := ?_) (a' := ?_) #[true, true, true, true, true, true, true, true, true, true, true, true, true, true, true, true, true, true, true, true, true, true, false, false, false, false, false, false, false, false, false, false, false, false, false, false, false] rfl rfl (by kernel_rfl) (fun _ _ _ h => h) (Or.inl ⟨by rfl, ?_⟩) ?_ ?_
          rotate_left
          · intro w'
            go_simp
            with_reducible rfl
          rotate_left
          · simp only [Act.put, List.setIfInBounds_toArray, List.set_cons_zero, List.set_cons_succ, i64_w, i32_w]
            rfl
          refine pure_ (i := 22) (N := some 110) (v := ?_) (a' := ?_) #[true, true, true, true, true, true, true, true, true, true, true, true, true, true, true, true, true, true, true, true, true, true, true, false, false, false, false, false, false, false, false, false, false, false, false, false, false] rfl rfl (by kernel_rfl) (fun _ _ _ h => h) (Or.inl ⟨by rfl, ?_⟩) ?_ ?_
          rotate_left
          · intro w'
            go_simp
            with_reducible rfl
          rotate_left
          · simp only [Act.put, List.setIfInBounds_toArray, List.set_cons_zero, List.set_cons_succ, i64_w, i32_w]
            rfl
          refine pure_ (i := 23) (N := some 111) (v := ?_) (a' := ?_) #[true, true, true, true, true, true, true, true, true, true, true, true, true, true, true, true, true, true, true, true, true, true, true, true, false, false, false, false, false, false, false, false, false, false, false, false, false] rfl rfl (by kernel_rfl) (fun _ _ _ h => h) (Or.inl ⟨by rfl, ?_⟩) ?_ ?_
          rotate_left
          · intro w'
            go_simp
            with_reducible rfl
          rotate_left
          · simp only [Act.put, List.setIfInBounds_toArray, List.set_cons_zero, List.set_cons_succ, i64_w, i32_w]
            rfl
          refine pure_ (i := 24) (N := some 112) (v := ?_) (a' := ?_) #[true, true, true, true, true, true, true, true, true, true, true, true, true, true, true, true, true, true, true, true, true, true, true, true, true, false, false, false, false, false, false, false, false, false, false, false, false] rfl rfl (by kernel_rfl) (fun _ _ _ h => h) (Or.inl ⟨by rfl, ?_⟩) ?_ ?_
          rotate_left
          · intro w'
            go_simp
            with_reducible rfl
          rotate_left
          · simp only [Act.put, List.setIfInBounds_toArray, List.set_cons_zero, List.set_cons_succ, i64_w, i32_w]
            rfl
          refine pure_ (i := 25) (N := some 113) (v := ?_) (a' := ?_) #[true, true, true, true, true, true, true, true, true, true, true, true, true, true, true, true, true, true, true, true, true, true, true, true, true, true, false, false, false, false, false, false, false, false, false, false, false] rfl rfl (by kernel_rfl) (fun _ _ _ h => h) (Or.inl ⟨by rfl, ?_⟩) ?_ ?_
          rotate_left
          · intro w'
            go_simp
            with_reducible rfl
          rotate_left
          · simp only [Act.put, List.setIfInBounds_toArray, List.set_cons_zero, List.set_cons_succ, i64_w, i32_w]
            rfl
          refine pure_ (i := 26) (N := some 114) (v := undef) (a' := ?_) #[true, true, true, true, true, true, true, true, true, true, true, true, true, true, true, true, true, true, true, true, true, true, true, true, true, true, true, false, false, false, false, false, false, false, false, false, false] rfl rfl (by kernel_rfl) (fun _ _ _ h => h) (Or.inr ⟨by rfl, rfl⟩) ?_ ?_
          rotate_left
          · simp only [Act.put, List.setIfInBounds_toArray, List.set_cons_zero, List.set_cons_succ, i64_w, i32_w]
            rfl
          refine pure_ (i := 27) (N := some 115) (v := undef) (a' := ?_) #[true, true, true, true, true, true, true, true, true, true, true, true, true, true, true, true, true, true, true, true, true, true, true, true, true, true, true, true, false, false, false, false, false, false, false, false, false] rfl rfl (by kernel_rfl) (fun _ _ _ h => h) (Or.inr ⟨by rfl, rfl⟩) ?_ ?_
          rotate_left
          · simp only [Act.put, List.setIfInBounds_toArray, List.set_cons_zero, List.set_cons_succ, i64_w, i32_w]
            rfl
          refine pure_ (i := 28) (N := some 116) (v := undef) (a' := ?_) #[true, true, true, true, true, true, true, true, true, true, true, true, true, true, true, true, true, true, true, true, true, true, true, true, true, true, true, true, true, false, false, false, false, false, false, false, false] rfl rfl (by kernel_rfl) (fun _ _ _ h => h) (Or.inr ⟨by rfl, rfl⟩) ?_ ?_
          rotate_left
          · simp only [Act.put, List.setIfInBounds_toArray, List.set_cons_zero, List.set_cons_succ, i64_w, i32_w]
            rfl
          refine pure_ (i := 29) (N := some 117) (v := undef) (a' := ?_) #[true, true, true, true, true, true, true, true, true, true, true, true, true, true, true, true, true, true, true, true, true, true, true, true, true, true, true, true, true, true, false, false, false, false, false, false, false] rfl rfl (by kernel_rfl) (fun _ _ _ h => h) (Or.inr ⟨by rfl, rfl⟩) ?_ ?_
          rotate_left
          · simp only [Act.put, List.setIfInBounds_toArray, List.set_cons_zero, List.set_cons_succ, i64_w, i32_w]
            rfl
          refine pure_ (i := 30) (N := some 118) (v := undef) (a' := ?_) #[true, true, true, true, true, true, true, true, true, true, true, true, true, true, true, true, true, true, true, true, true, true, true, true, true, true, true, true, true, true, true, false, false, false, false, false, false] rfl rfl (by kernel_rfl) (fun _ _ _ h => h) (Or.inr ⟨by rfl, rfl⟩) ?_ ?_
          rotate_left
          · simp only [Act.put, List.setIfInBounds_toArray, List.set_cons_zero, List.set_cons_succ, i64_w, i32_w]
            rfl
          refine pure_ (i := 31) (N := some 119) (v := undef) (a' := ?_) #[true, true, true, true, true, true, true, true, true, true, true, true, true, true, true, true, true, true, true, true, true, true, true, true, true, true, true, true, true, true, true, true, false, false, false, false, false] rfl rfl (by kernel_rfl) (fun _ _ _ h => h) (Or.inr ⟨by rfl, rfl⟩) ?_ ?_
          rotate_left
          · simp only [Act.put, List.setIfInBounds_toArray, List.set_cons_zero, List.set_cons_succ, i64_w, i32_w]
            rfl
          refine pure_ (i := 32) (N := some 120) (v := undef) (a' := ?_) #[true, true, true, true, true, true, true, true, true, true, true, true, true, true, true, true, true, true, true, true, true, true, true, true, true, true, true, true, true, true, true, true, true, false, false, false, false] rfl rfl (by kernel_rfl) (fun _ _ _ h => h) (Or.inr ⟨by rfl, rfl⟩) ?_ ?_
          rotate_left
          · simp only [Act.put, List.setIfInBounds_toArray, List.set_cons_zero, List.set_cons_succ, i64_w, i32_w]
            rfl
          refine pure_ (i := 33) (N := some 121) (v := undef) (a' := ?_) #[true, true, true, true, true, true, true, true, true, true, true, true, true, true, true, true, true, true, true, true, true, true, true, true, true, true, true, true, true, true, true, true, true, true, false, false, false] rfl rfl (by kernel_rfl) (fun _ _ _ h => h) (Or.inr ⟨by rfl, rfl⟩) ?_ ?_
          rotate_left
          · simp only [Act.put, List.setIfInBounds_toArray, List.set_cons_zero, List.set_cons_succ, i64_w, i32_w]
            rfl
          refine pure_ (i := 34) (N := some 122) (v := undef) (a' := ?_) #[true, true, true, true, true, true, true, true, true, true, true, true, true, true, true, true, true, true, true, true, true, true, true, true, true, true, true, true, true, true, true, true, true, true, true, false, false] rfl rfl (by kernel_rfl) (fun _ _ _ h => h) (Or.inr ⟨by rfl, rfl⟩) ?_ ?_
          rotate_left
          · simp only [Act.put, List.setIfInBounds_toArray, List.set_cons_zero, List.set_cons_succ, i64_w, i32_w]
            rfl
          refine pure_ (i := 35) (N := some 123) (v := ?_) (a' := ?_) #[true, true, true, true, true, true, true, true, true, true, true, true, true, true, true, true, true, true, true, true, true, true, true, true, true, true, true, true, true, true, true, true, true, true, true, true, false] rfl rfl (by kernel_rfl) (fun _ _ _ h => h) (Or.inl ⟨by rfl, ?_⟩) ?_ ?_
          rotate_left
          · intro w'
            go_simp
            with_reducible rfl
          rotate_left
          · simp only [Act.put, List.setIfInBounds_toArray, List.set_cons_zero, List.set_cons_succ, i64_w, i32_w]
            rfl
          refine pure_ (i := 36) (N := some 124) (v := ?_) (a' := ?_) #[true, true, true, true, true, true, true, true, true, true, true, true, true, true, true, true, true, true, true, true, true, true, true, true, true, true, true, true, true, true, true, true, true, true, true, true, true] rfl rfl (by kernel_rfl) (fun _ _ _ h => h) (Or.inl ⟨by rfl, ?_⟩) ?_ ?_
          rotate_left
          · intro w'
            go_simp
            with_reducible rfl
          rotate_left
          · simp only [Act.put, List.setIfInBounds_toArray, List.set_cons_zero, List.set_cons_succ, i64_w, i32_w]
            rfl
          refine done_ (by kernel_rfl) ?_
          go_wp2
          exact ⟨⟨i + 1, L2, S2, some adr, dB, rfl, rfl, ⟨rndp h0 hk⟩, ⟨H7.out.drew _⟩⟩, rndp_m h0 hk⟩
      · go_wp2
        go_ret
        exact ⟨rfl, below_step HB0.out HS.out.bel⟩
    · go_wp2
      go_ret
      exact ⟨rfl, below_step HB0.out HS.out.bel⟩
set_option maxRecDepth 100000 in
set_option maxHeartbeats 4000000 in
theorem plays_not (n0 n1 : Int) (v : Value) (k : Int) (w : World) (h : n0 < 1 ∨ n1 < 0) :
    Calls Try.prog 5 #[.agg #[.int .i64 n0, .int .i64 n1], v, .int .i64 k] w fun e w1 => e = .returned (.bool true) ∧ Below w.heap.size w w1 := by
  by_cases h1 : n0 < 1
  · have hb1 : decide (n0 < 1) = true := decide_eq_true h1
    go_enter Try.func5, Try.ntmps5
    go_wp2_with (first | (go_at_call 8; refine (shown_calls _).mono ?_; rintro e w0 ⟨rfl, hb0⟩; have x0 := gcell (box_at hb0) 0 _ rfl; have x1 := gcell (box_at hb0) 1 _ rfl) | (go_at_call 9; (with_reducible refine (new_not _ _ ?side1 _).mono ?_); (case side1 => exact .inl h1); rintro e w1 ⟨rfl, hw1⟩; obtain rfl := hw1.symm; clear hw1) | go_in)
    go_ret
    exact ⟨rfl, bel_box w _ hb0⟩
  · have h2 : n1 < 0 := h.resolve_left h1
    have hb1 : decide (n0 < 1) = false := decide_eq_false h1
    have hb2 : decide (n1 < 0) = true := decide_eq_true h2
    go_enter Try.func5, Try.ntmps5
    go_wp2_with (first | (go_at_call 8; refine (shown_calls _).mono ?_; rintro e w0 ⟨rfl, hb0⟩; have x0 := gcell (box_at hb0) 0 _ rfl; have x1 := gcell (box_at hb0) 1 _ rfl) | (go_at_call 9; (with_reducible refine (new_not _ _ ?side1 _).mono ?_); (case side1 => exact .inr h2); rintro e w1 ⟨rfl, hw1⟩; obtain rfl := hw1.symm; clear hw1) | go_in)
    go_ret
    exact ⟨rfl, bel_box w _ hb0⟩
theorem plays_all (n0 n1 : Int) (A0 : Option Addr) (c : Nat) (l : List Dd) (k : Int) (w : World) (hk : (Lit.int .i64 k).wf = true) (hC : Kd.C kD w A0 l.length l) (hl : l.length ≤ c) (hN : ∀ x ∈ l, Nums x) :
    Calls Try.prog 5 #[.agg #[.int .i64 n0, .int .i64 n1], .slice A0 l.length c, .int .i64 k] w fun e w1 => e = .returned (.bool true) ∧ Below w.heap.size w w1 := by
  by_cases h : 1 ≤ n0 ∧ 0 ≤ n1
  · exact plays_walk n0 n1 A0 c l k w hk hC hl hN h.1 h.2
  · exact plays_not n0 n1 _ k w (by omega)
end Go.Proofs.Ytbonaoopkfcabaa.Own
