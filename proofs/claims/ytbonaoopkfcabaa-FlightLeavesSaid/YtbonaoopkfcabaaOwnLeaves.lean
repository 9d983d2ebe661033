/- FlightLeaves: the walk of the law: who joins, and leaves, was never there, for who comes later; who leads does not leave. -/
import Derived.Test.YtbonaoopkfcabaaOwnDo
import Derived.Deep.RegionHeld3
namespace Go.Proofs.Ytbonaoopkfcabaa.Own
open Go.RowKit Go.Maps Go.Proofs.Ytbonaoopkfcabaa.OwnDeeds Go.Proofs.Ytbonaoopkfcabaa.PFlightPlays Go.Proofs.YtbonaoopkfcabaaW.PrintWords Go.Proofs.YtbonaoopkfcabaaW.PrintLast Go.Proofs.YtbonaoopkfcabaaW.PrintMore
set_option linter.unusedVariables false
set_option linter.unusedSimpArgs false
theorem rndl {i n : Int} (h0 : 0 ≤ i) (hk : i < n) : 0 ≤ i + 1 ∧ i + 1 ≤ n := by omega
theorem rndl2 {i n : Int} (h0 : 0 ≤ i) (hk : i < n) (h2 : i < 200) : 0 ≤ i + 1 ∧ i + 1 ≤ n ∧ i + 1 ≤ 200 := by omega
theorem rndl_m {i : Int} {n : Nat} (h0 : 0 ≤ i) (hk : i < (n : Int)) : n - (intOf (Value.int .i64 (i + 1))).toNat < n - (intOf (Value.int .i64 i)).toNat := by
  simp [intOf]
  omega
/-- who is named in one of the deeds that are done -/
def FromL (l : List Dd) (x : Int) : Prop := ∃ j : Int, 0 ≤ j ∧ j < (l.length : Int) ∧ j < 200 ∧ (rdD l j).who = x
/-- no deed ahead of the j-th names x -/
def NoneTo (l : List Dd) (x j : Int) : Prop := ∀ i, 0 ≤ i → i < j → (rdD l i).who ≠ x
theorem NoneTo.start (l : List Dd) (x : Int) : NoneTo l x 0 := fun i h1 h2 => by omega
theorem NoneTo.step {l : List Dd} {x j : Int} (h : NoneTo l x j) (hj : (rdD l j).who ≠ x) : NoneTo l x (j + 1) := fun i h1 h2 => by
  by_cases e : i = j
  · subst e; exact hj
  · exact h i h1 (by omega)
theorem NoneTo.not {l : List Dd} {x j : Int} (h : NoneTo l x j) (hf : FromL l x) (hj : ¬ (j < (l.length : Int)) ∨ ¬ (j < 200)) : False := by
  obtain ⟨i, h1, h2, h3, h4⟩ := hf
  exact h i h1 (by omega) h4
theorem erase_last {xs : List Int} {x : Int} (h : x ∉ xs) : (xs ++ [x]).erase x = xs := by
  rw [List.erase_append_right _ h]
  simp
theorem find_up {L : List Fl} {k : Int} {f : Fl} (h : findK L k = some f) (ws : List Int) (v : Value) : findK (upd L k ws v) k = some { f with ws := ws, v := v } := by
  rw [findK_upd, h]
  have := (findK_mem h).2
  rw [Option.map_some, if_pos this]
theorem find_added {L : List Fl} {k who : Int} {b : Nat} (h : findK L k = none) : findK (L ++ [⟨k, who, [], b, .slice none 0 0⟩]) k = some ⟨k, who, [], b, .slice none 0 0⟩ := by
  rw [findK_snoc, h]
  simp
/-- a row that is none of the table's stands through a turn -/
theorem row_turned {w w1 : World} {S : Nat → Prop} {base n : Nat} {v : Value} {xs : List Value} (t : Turn w w1 S) (h : w.ownsRow base 3 1 v n xs) (hS : ∀ b, S b → b < base) : w1.ownsRow base 3 1 v n xs :=
  row_kept h (fun b hb => t.block b (row_lt h b hb) (fun e => by have := (h.lt b hb).1; have := hS b e; omega))
theorem row_belowed {w w1 : World} {base n : Nat} {v : Value} {xs : List Value} (t : Below w.heap.size w w1) (h : w.ownsRow base 3 1 v n xs) : w1.ownsRow base 3 1 v n xs := row_kept h (fun b hb => t.block b (row_lt h b hb))
theorem tab_erase {w : World} {S : Nat → Prop} {g mb : Nat} {a b k x : Int} {M : List Fl} {xs : List Int} {v : Value} (h : Tab w S g mb a b (upd M k ((xs ++ [x]).erase x) v)) (hm : x ∉ xs) : Tab w S g mb a b (upd M k xs v) := by rwa [erase_last hm] at h
theorem join_in {w : World} {S : Nat → Prop} {g mb : Nat} {most queue k who : Int} {L : List Fl} {f : Fl} (h : Tab w S g mb most queue L) (hk : (Lit.int .i64 k).wf = true) (hf : findK L k = some f) (hn : f.ws.length ≤ 1000) :
    Calls Try.prog 10 #[.pointer (some ⟨g, 0, none⟩), .int .i64 k, .int .i64 who] w fun e w1 => ∃ (r : Int) (L' : List Fl) (f' : Fl), e = .returned (.int .i64 r) ∧ Tab w1 (grow S w w1) g mb most queue L' ∧ Turn w w1 S ∧ findK L' k = some f' ∧ f'.ws.length ≤ f.ws.length + 1 := by
  by_cases hr : (f.ws.length : Int) < queue
  · refine (join_waits h hk hf hr (by omega)).mono ?_
    rintro e w1 ⟨rfl, v, T, t⟩
    exact ⟨2, _, _, rfl, T, t, find_up hf _ _, by simp⟩
  · refine (join_full h hk hf hr).mono ?_
    rintro e w1 ⟨rfl, hb⟩
    exact ⟨0, L, f, rfl, (h.below hb).mono (fun b hb => .inl hb), Turn.of_below hb S, hf, by omega⟩
theorem leave_in {w : World} {S : Nat → Prop} {g mb : Nat} {most queue k who : Int} {L : List Fl} {f : Fl} (h : Tab w S g mb most queue L) (hk : (Lit.int .i64 k).wf = true) (hf : findK L k = some f) (hn : f.ws.length ≤ 2000) :
    Calls Try.prog 11 #[.pointer (some ⟨g, 0, none⟩), .int .i64 k, .int .i64 who] w fun e w1 => ∃ (r : Bool) (L' : List Fl) (f' : Fl), e = .returned (.bool r) ∧ Tab w1 (grow S w w1) g mb most queue L' ∧ Turn w w1 S ∧ findK L' k = some f' ∧ f'.ws.length ≤ f.ws.length := by
  by_cases hm : who ∈ f.ws
  · refine (leave_some h hk hf hm (by omega)).mono ?_
    rintro e w1 ⟨rfl, v, T, t⟩
    exact ⟨true, _, _, rfl, T, t, find_up hf _ _, List.length_erase_le⟩
  · refine (leave_not h hk hf hm (by omega)).mono ?_
    rintro e w1 ⟨rfl, hb⟩
    exact ⟨false, L, f, rfl, (h.below hb).mono (fun b hb => .inl hb), Turn.of_below hb S, hf, by omega⟩
set_option maxRecDepth 100000 in
set_option maxHeartbeats 8000000 in
theorem leaves_walk (A0 : Option Addr) (c : Nat) (l : List Dd) (k who : Int) (w : World) (hk : (Lit.int .i64 k).wf = true) (hC : Kd.C kD w A0 l.length l) (hl : l.length ≤ c) (hN : ∀ x ∈ l, Nums x) :
    Calls Try.prog 4 #[.slice A0 l.length c, .int .i64 k, .int .i64 who] w fun e w1 => e = .returned (.bool true) ∧ Below w.heap.size w w1 := by
  have HC := Aside0.mk hC
  have HNN := Aside0.mk hN
  have HLC := Aside0.mk hl
  have HW0 := Aside0.mk hk
  clear hC hN hl hk
  go_enter Try.func4, Try.ntmps4
  go_wp2_with (first | (go_at_call 8; refine (shown_calls _).mono ?_; rintro e w0 ⟨rfl, hb0⟩) | (go_at_call 9; (with_reducible refine (new_at _ _ ?side1 ?side2 _).mono ?_); (case side1 => decide); (case side2 => decide); rintro e w1 ⟨g, mb, rfl, h1, hb1⟩) | go_in)
  have HS := Aside0.mk (show PSt w0 w1 (fun b => w0.heap.size ≤ b ∧ b < w1.heap.size) g mb 5 4 [] (.slice none 0 0) [] 0 (FromL l) from ⟨h1, fun b hb => hb.1, fun b hb => hb.2, hb1, Kd.V_nil _ _ _ _ _, Fits.nil (by decide), fun f hf => by simp at hf⟩)
  have HB0 := Aside0.mk hb0
  have HQ := Aside0.mk (show Fits 5 4 ([] : List Fl) from Fits.nil (by decide))
  clear hb0 hb1 h1
  go_loopw [9, 10] (fun v9 v10 wr => ∃ (i : Int) (L : List Fl) (S : Nat → Prop) (A : Option Addr) (cA : Nat), v10 = .int .i64 i ∧ v9 = .slice A (refL L).length cA ∧ Aside0 (0 ≤ i ∧ i ≤ (l.length : Int) ∧ i ≤ 200) ∧ Aside0 (PSt w0 wr S g mb 5 4 L (.slice A (refL L).length cA) (refL L) i (FromL l))) (fun _ v10 _ => l.length - (intOf v10).toNat)
  case atStart =>
    exact ⟨0, [], _, none, 0, rfl, rfl, ⟨⟨Int.le_refl _, by omega, by decide⟩⟩, HS⟩
  case round =>
    clear HS HQ
    obtain ⟨i, L, S, A, cA, rfl, rfl, HK, HS⟩ := hrel
    by_cases hk : i < (l.length : Int)
    · by_cases hk2 : i < 200
      · have h0 : 0 ≤ i := HK.out.1
        obtain ⟨ad, e0, c0, c1, c2⟩ := at_D (Kd.C_below HC.out HB0.out) i h0 hk
        cases e0
        have c0w := c0
        have c1w := c1
        have c2w := c2
        replace c0 := (HS.out.bel.cell (World.block_lt_of_cell? w0 _ c0)).trans c0
        replace c1 := (HS.out.bel.cell (World.block_lt_of_cell? w0 _ c1)).trans c1
        replace c2 := (HS.out.bel.cell (World.block_lt_of_cell? w0 _ c2)).trans c2
        have HWH := Aside0.mk (show FromL l (rdD l i).who from ⟨i, h0, hk, hk2, rfl⟩)
        obtain ⟨d, hd⟩ : ∃ d, rdD l i = d := ⟨_, rfl⟩
        have HW := Aside0.mk ((HNN.out _ (rdD_at h0 hk)).k)
        rw [hd] at c0 c1 c2 c0w c1w c2w HW HWH
        clear hd
        have C0 := Aside0.mk c0w
        have C1 := Aside0.mk c1w
        have C2 := Aside0.mk c2w
        clear c0w c1w c2w
        have hcap := HLC.out
        have hJ := fun (w' : World) (hw : PSt w0 w' S g mb 5 4 L (.slice A (refL L).length cA) (refL L) i (FromL l)) => do_any (kd := d.kind) (who := d.who) hw (by omega) h0 HW.out HWH.out
        go_wp2_with (first | (go_at_call 15; (with_reducible refine (hJ _ ?side1).mono ?_); (case side1 => exact HS.out); clear hJ; rintro e w2 hS2; obtain ⟨B, dB, L2, S2, rfl, h2⟩ := hS2; have H2 := Aside0.mk h2; clear h2))
        exact ⟨⟨i + 1, L2, S2, B, dB, rfl, rfl, ⟨rndl2 h0 hk hk2⟩, H2⟩, rndl_m h0 hk⟩
      · skip
        have HT := Aside0.mk HS.out.tab
        have HFI := Aside0.mk HS.out.fits
        have HBW := Aside0.mk (below_step HB0.out HS.out.bel)
        have HI := Aside0.mk (show i ≤ 200 from HK.out.2.2)
        have HGE := Aside0.mk (show ∀ b, S b → w.heap.size ≤ b from fun b hb => Nat.le_trans HB0.out.size (HS.out.new b hb))
        cases hf : findK L k with
        | none =>
          have HF := Aside0.mk hf
          clear hf
          by_cases hr : (L.length : Int) < 5
          · have HR := Aside0.mk hr
            clear hr
            go_wp2_with (first | (go_at_call 16; have q_ := waiters_none HT.out HW0.out HF.out; (with_reducible refine q_.mono ?_); clear q_; rintro e w1a ⟨rfl, hw_⟩; obtain rfl := hw_.symm; clear hw_) | (go_at_call 17; have q_ := leader_none HT.out HW0.out HF.out; (with_reducible refine q_.mono ?_); clear q_; rintro e w1b ⟨rfl, hw_⟩; obtain rfl := hw_.symm; clear hw_) | (go_at_call 10; have q_ := join_leads (who := 1099511627776) HT.out HW0.out HF.out HR.out (wks HFI.out.n (Int.le_trans HI.out (by decide))); (with_reducible refine q_.mono ?_); clear q_; rintro e w2 ⟨rfl, b2, T2, t2⟩; have HT2 := Aside0.mk T2; have HB2 := Aside0.mk (t2.below HBW.out HGE.out); clear T2 t2) | (go_at_call 11; have q_ := leave_not (who := 1099511627776) HT2.out HW0.out (find_added HF.out) (by simp) (Nat.zero_le _); (with_reducible refine q_.mono ?_); clear q_; rintro e w3 ⟨rfl, hb3⟩; have HT3 := Aside0.mk (HT2.out.below hb3); have HB3 := Aside0.mk (below_step HB2.out hb3); clear hb3) | (go_at_call 16; have q_ := waiters_some HT3.out HW0.out (find_added HF.out) (Nat.zero_le _); (with_reducible refine q_.mono ?_); clear q_; rintro e w4 ⟨v4, rfl, hr4, hb4⟩; obtain ⟨A4, c4, rfl⟩ := row_shape hr4; have HBX := Aside0.mk (below_step HB3.out hb4); clear hr4 hb4))
            go_loop [19] (fun v19 => ∃ j : Int, v19 = .int .i64 j ∧ Aside0 (0 ≤ j ∧ j ≤ (l.length : Int)) ∧ Aside0 (NoneTo l 1099511627776 j)) (fun v19 => l.length - (intOf v19).toNat)
            case atStart =>
              exact ⟨0, rfl, ⟨⟨Int.le_refl _, by omega⟩⟩, ⟨NoneTo.start _ _⟩⟩
            case round =>
              obtain ⟨j, rfl, HJ, HNo⟩ := hrel
              by_cases gk : j < (l.length : Int)
              · by_cases gk2 : j < 200
                · have g0 : 0 ≤ j := HJ.out.1
                  obtain ⟨ad, e0, c0, c1, c2⟩ := at_D HC.out j g0 gk
                  cases e0
                  clear c0 c1
                  replace c2 := (HBX.out.cell (World.block_lt_of_cell? w _ c2)).trans c2
                  have hcap := HLC.out
                  by_cases hwho : (rdD l j).who = 1099511627776
                  · rw [hwho] at c2
                    clear hwho
                    go_wp2
                    go_ret
                    exact ⟨rfl, ⟨HBX.out.os, HBX.out.tape, HBX.out.output, HBX.out.size, HBX.out.block⟩⟩
                  · have HWn := Aside0.mk hwho
                    obtain ⟨x, hx⟩ : ∃ x, (rdD l j).who = x := ⟨_, rfl⟩
                    rw [hx] at c2 hwho
                    clear hx
                    have hxb : decide (x = 1099511627776) = false := decide_eq_false hwho
                    go_wp2
                    go_round
                    case rel => exact ⟨j + 1, rfl, ⟨rndl g0 gk⟩, ⟨HNo.out.step HWn.out⟩⟩
                    case measure => exact rndl_m g0 gk
                · have HX := Aside0.mk (show ¬ (j < (l.length : Int)) ∨ ¬ (j < 200) from .inr gk2)
                  go_wp2
                  go_ret
                  exact ⟨rfl, ⟨HBX.out.os, HBX.out.tape, HBX.out.output, HBX.out.size, HBX.out.block⟩⟩
              · have HX := Aside0.mk (show ¬ (j < (l.length : Int)) ∨ ¬ (j < 200) from .inl gk)
                go_wp2
                go_ret
                exact ⟨rfl, ⟨HBX.out.os, HBX.out.tape, HBX.out.output, HBX.out.size, HBX.out.block⟩⟩
          · have HR := Aside0.mk (Int.not_lt.1 hr)
            clear hr
            go_wp2_with (first | (go_at_call 16; have q_ := waiters_none HT.out HW0.out HF.out; (with_reducible refine q_.mono ?_); clear q_; rintro e w1a ⟨rfl, hw_⟩; obtain rfl := hw_.symm; clear hw_) | (go_at_call 17; have q_ := leader_none HT.out HW0.out HF.out; (with_reducible refine q_.mono ?_); clear q_; rintro e w1b ⟨rfl, hw_⟩; obtain rfl := hw_.symm; clear hw_) | (go_at_call 10; have q_ := join_over (who := 1099511627776) HT.out HW0.out HF.out (Int.not_lt.2 HR.out); (with_reducible refine q_.mono ?_); clear q_; rintro e w2 ⟨rfl, hb2⟩; have HT2 := Aside0.mk (HT.out.below hb2); have HBX := Aside0.mk (below_step HBW.out hb2); clear hb2) | (go_at_call 11; have q_ := leave_none (who := 1099511627776) HT2.out HW0.out HF.out; (with_reducible refine q_.mono ?_); clear q_; rintro e w3 ⟨rfl, hw_⟩; obtain rfl := hw_.symm; clear hw_) | (go_at_call 16; have q_ := waiters_none HT2.out HW0.out HF.out; (with_reducible refine q_.mono ?_); clear q_; rintro e w4 ⟨rfl, hw_⟩; obtain rfl := hw_.symm; clear hw_))
            go_loop [19] (fun v19 => ∃ j : Int, v19 = .int .i64 j ∧ Aside0 (0 ≤ j ∧ j ≤ (l.length : Int)) ∧ Aside0 (NoneTo l 1099511627776 j)) (fun v19 => l.length - (intOf v19).toNat)
            case atStart =>
              exact ⟨0, rfl, ⟨⟨Int.le_refl _, by omega⟩⟩, ⟨NoneTo.start _ _⟩⟩
            case round =>
              obtain ⟨j, rfl, HJ, HNo⟩ := hrel
              by_cases gk : j < (l.length : Int)
              · by_cases gk2 : j < 200
                · have g0 : 0 ≤ j := HJ.out.1
                  obtain ⟨ad, e0, c0, c1, c2⟩ := at_D HC.out j g0 gk
                  cases e0
                  clear c0 c1
                  replace c2 := (HBX.out.cell (World.block_lt_of_cell? w _ c2)).trans c2
                  have hcap := HLC.out
                  by_cases hwho : (rdD l j).who = 1099511627776
                  · rw [hwho] at c2
                    clear hwho
                    go_wp2
                    go_ret
                    exact ⟨rfl, ⟨HBX.out.os, HBX.out.tape, HBX.out.output, HBX.out.size, HBX.out.block⟩⟩
                  · have HWn := Aside0.mk hwho
                    obtain ⟨x, hx⟩ : ∃ x, (rdD l j).who = x := ⟨_, rfl⟩
                    rw [hx] at c2 hwho
                    clear hx
                    have hxb : decide (x = 1099511627776) = false := decide_eq_false hwho
                    go_wp2
                    go_round
                    case rel => exact ⟨j + 1, rfl, ⟨rndl g0 gk⟩, ⟨HNo.out.step HWn.out⟩⟩
                    case measure => exact rndl_m g0 gk
                · have HX := Aside0.mk (show ¬ (j < (l.length : Int)) ∨ ¬ (j < 200) from .inr gk2)
                  go_wp2
                  go_ret
                  exact ⟨rfl, ⟨HBX.out.os, HBX.out.tape, HBX.out.output, HBX.out.size, HBX.out.block⟩⟩
              · have HX := Aside0.mk (show ¬ (j < (l.length : Int)) ∨ ¬ (j < 200) from .inl gk)
                go_wp2
                go_ret
                exact ⟨rfl, ⟨HBX.out.os, HBX.out.tape, HBX.out.output, HBX.out.size, HBX.out.block⟩⟩
        | some f =>
          have HF := Aside0.mk hf
          clear hf
          have hws : f.ws.length ≤ 200 := by have := HFI.out.q f (findK_mem HF.out).1; have := HI.out; omega
          have HWS := Aside0.mk (show f.ws.length ≤ 1000000 by omega)
          have HLT := Aside0.mk (show ∀ b, S b → b < wr.heap.size from HS.out.lt)
          by_cases hm : 1099511627776 ∈ f.ws
          · have HM := Aside0.mk hm
            clear hm
            go_wp2_with (first | (go_at_call 16; have q_ := waiters_some HT.out HW0.out HF.out HWS.out; (with_reducible refine q_.mono ?_); clear q_; rintro e w1 ⟨v1, rfl, hr1, hb1⟩; obtain ⟨A1, c1, rfl⟩ := row_shape hr1; have HR1 := Aside0.mk hr1; have HT1 := Aside0.mk (HT.out.below hb1); have HB1 := Aside0.mk (below_step HBW.out hb1); clear hr1 hb1) | (go_at_call 17; have q_ := leader_some HT1.out HW0.out HF.out; (with_reducible refine q_.mono ?_); clear q_; rintro e w1b ⟨rfl, hw_⟩; obtain rfl := hw_.symm; clear hw_) | (go_at_call 10; have q_ := join_in (who := 1099511627776) HT1.out HW0.out HF.out (by omega); (with_reducible refine q_.mono ?_); clear q_; rintro e w2 ⟨r2, L2, f2, rfl, T2, t2, F2, l2⟩; have HT2 := Aside0.mk T2; have HF2 := Aside0.mk F2; have HB2 := Aside0.mk (t2.below HB1.out HGE.out); have HG2 := Aside0.mk (grow_ge HGE.out HB1.out.size w2); clear T2 t2 F2) | (go_at_call 11; have q_ := leave_in (who := 1099511627776) HT2.out HW0.out HF2.out (by omega); (with_reducible refine q_.mono ?_); clear q_; rintro e w3 ⟨r3, L3, f3, rfl, T3, t3, F3, l3⟩; have HT3 := Aside0.mk T3; have HF3 := Aside0.mk F3; have HB3 := Aside0.mk (t3.below HB2.out HG2.out); clear T3 t3 F3) | (go_at_call 16; have q_ := waiters_some HT3.out HW0.out HF3.out (by omega); (with_reducible refine q_.mono ?_); clear q_; rintro e w4 ⟨v4, rfl, hr4, hb4⟩; obtain ⟨A4, c4, rfl⟩ := row_shape hr4; have HBX := Aside0.mk (below_step HB3.out hb4); clear hr4 hb4))
            go_loop [19] (fun v19 => ∃ j : Int, v19 = .int .i64 j ∧ Aside0 (0 ≤ j ∧ j ≤ (l.length : Int)) ∧ Aside0 (NoneTo l 1099511627776 j)) (fun v19 => l.length - (intOf v19).toNat)
            case atStart =>
              exact ⟨0, rfl, ⟨⟨Int.le_refl _, by omega⟩⟩, ⟨NoneTo.start _ _⟩⟩
            case round =>
              obtain ⟨j, rfl, HJ, HNo⟩ := hrel
              by_cases gk : j < (l.length : Int)
              · by_cases gk2 : j < 200
                · have g0 : 0 ≤ j := HJ.out.1
                  obtain ⟨ad, e0, c0, c1, c2⟩ := at_D HC.out j g0 gk
                  cases e0
                  clear c0 c1
                  replace c2 := (HBX.out.cell (World.block_lt_of_cell? w _ c2)).trans c2
                  have hcap := HLC.out
                  by_cases hwho : (rdD l j).who = 1099511627776
                  · rw [hwho] at c2
                    clear hwho
                    go_wp2
                    go_ret
                    exact ⟨rfl, ⟨HBX.out.os, HBX.out.tape, HBX.out.output, HBX.out.size, HBX.out.block⟩⟩
                  · have HWn := Aside0.mk hwho
                    obtain ⟨x, hx⟩ : ∃ x, (rdD l j).who = x := ⟨_, rfl⟩
                    rw [hx] at c2 hwho
                    clear hx
                    have hxb : decide (x = 1099511627776) = false := decide_eq_false hwho
                    go_wp2
                    go_round
                    case rel => exact ⟨j + 1, rfl, ⟨rndl g0 gk⟩, ⟨HNo.out.step HWn.out⟩⟩
                    case measure => exact rndl_m g0 gk
                · have HX := Aside0.mk (show ¬ (j < (l.length : Int)) ∨ ¬ (j < 200) from .inr gk2)
                  exact (HNo.out.not (HS.out.from_ f (findK_mem HF.out).1 _ HM.out) HX.out).elim
              · have HX := Aside0.mk (show ¬ (j < (l.length : Int)) ∨ ¬ (j < 200) from .inl gk)
                exact (HNo.out.not (HS.out.from_ f (findK_mem HF.out).1 _ HM.out) HX.out).elim
          · have HM := Aside0.mk hm
            clear hm
            by_cases hr : (f.ws.length : Int) < 4
            · have HR := Aside0.mk hr
              have hrb : decide ((f.ws.length : Int) < 4) = true := decide_eq_true hr
              clear hr
              go_wp2_with (first | (go_at_call 16; have q_ := waiters_some HT.out HW0.out HF.out HWS.out; (with_reducible refine q_.mono ?_); clear q_; rintro e w1 ⟨v1, rfl, hr1, hb1⟩; obtain ⟨A1, c1, rfl⟩ := row_shape hr1; have HR1 := Aside0.mk hr1; have HT1 := Aside0.mk (HT.out.below hb1); have HB1 := Aside0.mk (below_step HBW.out hb1); clear hr1 hb1) | (go_at_call 17; have q_ := leader_some HT1.out HW0.out HF.out; (with_reducible refine q_.mono ?_); clear q_; rintro e w1b ⟨rfl, hw_⟩; obtain rfl := hw_.symm; clear hw_) | (go_at_call 10; have q_ := join_waits (who := 1099511627776) HT1.out HW0.out HF.out HR.out HWS.out; (with_reducible refine q_.mono ?_); clear q_; rintro e w2 ⟨rfl, v2, T2, t2⟩; have HT2 := Aside0.mk T2; have HB2 := Aside0.mk (t2.below HB1.out HGE.out); have HR2 := Aside0.mk (row_turned t2 HR1.out HLT.out); have HG2 := Aside0.mk (grow_ge HGE.out HB1.out.size w2); have HFar := Aside0.mk (show ∀ b, grow S w1 w2 b → S b ∨ w1.heap.size ≤ b from fun b hb => hb.imp id (fun h => h.1)); clear T2 t2) | (go_at_call 11; have q_ := leave_some (who := 1099511627776) HT2.out HW0.out (find_up HF.out _ _) (by simp) (by show (f.ws ++ [1099511627776]).length ≤ 1000000; rw [List.length_append, List.length_singleton]; omega); (with_reducible refine q_.mono ?_); clear q_; rintro e w3 ⟨rfl, v3, T3, t3⟩; have HR3 := Aside0.mk (row_kept HR2.out (fun b hb => t3.block b (row_lt HR2.out b hb) (fun e => by have h1 := (HR2.out.lt b hb).1; have h2 := row_lt HR1.out b hb; rcases HFar.out b e with h3 | h3; have := HLT.out b h3; omega; omega))); have HT3 := Aside0.mk (tab_erase (xs := f.ws) (x := 1099511627776) T3 HM.out); have HB3 := Aside0.mk (t3.below HB2.out HG2.out); clear T3 t3) | (go_at_call 16; have q_ := waiters_some HT3.out HW0.out (find_up (find_up HF.out _ _) _ _) HWS.out; (with_reducible refine q_.mono ?_); clear q_; rintro e w4 ⟨v4, rfl, hr4, hb4⟩; obtain ⟨A4, c4, rfl⟩ := row_shape hr4; have HBX := Aside0.mk (below_step HB3.out hb4); have HRX := Aside0.mk (row_belowed hb4 HR3.out); have HRY := Aside0.mk hr4; have HT4 := Aside0.mk (HT3.out.below hb4); clear hr4 hb4))
              go_loop [19] (fun v19 => ∃ j : Int, v19 = .int .i64 j ∧ Aside0 (0 ≤ j ∧ j ≤ (l.length : Int)) ∧ Aside0 (NoneTo l 1099511627776 j)) (fun v19 => l.length - (intOf v19).toNat)
              case atStart =>
                exact ⟨0, rfl, ⟨⟨Int.le_refl _, by omega⟩⟩, ⟨NoneTo.start _ _⟩⟩
              case round =>
                obtain ⟨j, rfl, HJ, HNo⟩ := hrel
                by_cases gk : j < (l.length : Int)
                · by_cases gk2 : j < 200
                  · have g0 : 0 ≤ j := HJ.out.1
                    obtain ⟨ad, e0, c0, c1, c2⟩ := at_D HC.out j g0 gk
                    cases e0
                    clear c0 c1
                    replace c2 := (HBX.out.cell (World.block_lt_of_cell? w _ c2)).trans c2
                    have hcap := HLC.out
                    by_cases hwho : (rdD l j).who = 1099511627776
                    · rw [hwho] at c2
                      clear hwho
                      go_wp2
                      go_ret
                      exact ⟨rfl, ⟨HBX.out.os, HBX.out.tape, HBX.out.output, HBX.out.size, HBX.out.block⟩⟩
                    · have HWn := Aside0.mk hwho
                      obtain ⟨x, hx⟩ : ∃ x, (rdD l j).who = x := ⟨_, rfl⟩
                      rw [hx] at c2 hwho
                      clear hx
                      have hxb : decide (x = 1099511627776) = false := decide_eq_false hwho
                      go_wp2
                      go_round
                      case rel => exact ⟨j + 1, rfl, ⟨rndl g0 gk⟩, ⟨HNo.out.step HWn.out⟩⟩
                      case measure => exact rndl_m g0 gk
                  · have HX := Aside0.mk (show ¬ (j < (l.length : Int)) ∨ ¬ (j < 200) from .inr gk2)
                    go_wp2_with (first | (go_at_call 17; have q_ := leader_some HT4.out HW0.out (find_up (find_up HF.out _ _) _ _); (with_reducible refine q_.mono ?_); clear q_; rintro e w6 ⟨rfl, hw_⟩; obtain rfl := hw_.symm; clear hw_) | (go_at_call 14; obtain ⟨A5, c5, e5, hc5, hC5⟩ := row_C HRX.out; obtain ⟨rfl, rfl⟩ : A1 = A5 ∧ c1 = c5 := (by injection e5 with e6 _ e7; exact ⟨e6, e7⟩); clear e5; obtain ⟨A7, c7, e7, hc7, hC7⟩ := row_C HRY.out; obtain ⟨rfl, rfl⟩ : A4 = A7 ∧ c4 = c7 := (by injection e7 with e6 _ e8; exact ⟨e6, e8⟩); clear e7; (with_reducible refine (ints_same HWS.out hC5 hc5 hC7 hc7).mono ?_); rintro e w7 ⟨rfl, m7, rfl⟩))
                    go_ret
                    exact ⟨rfl, ⟨HBX.out.os, HBX.out.tape, HBX.out.output, HBX.out.size, HBX.out.block⟩⟩
                · have HX := Aside0.mk (show ¬ (j < (l.length : Int)) ∨ ¬ (j < 200) from .inl gk)
                  go_wp2_with (first | (go_at_call 17; have q_ := leader_some HT4.out HW0.out (find_up (find_up HF.out _ _) _ _); (with_reducible refine q_.mono ?_); clear q_; rintro e w6 ⟨rfl, hw_⟩; obtain rfl := hw_.symm; clear hw_) | (go_at_call 14; obtain ⟨A5, c5, e5, hc5, hC5⟩ := row_C HRX.out; obtain ⟨rfl, rfl⟩ : A1 = A5 ∧ c1 = c5 := (by injection e5 with e6 _ e7; exact ⟨e6, e7⟩); clear e5; obtain ⟨A7, c7, e7, hc7, hC7⟩ := row_C HRY.out; obtain ⟨rfl, rfl⟩ : A4 = A7 ∧ c4 = c7 := (by injection e7 with e6 _ e8; exact ⟨e6, e8⟩); clear e7; (with_reducible refine (ints_same HWS.out hC5 hc5 hC7 hc7).mono ?_); rintro e w7 ⟨rfl, m7, rfl⟩))
                  go_ret
                  exact ⟨rfl, ⟨HBX.out.os, HBX.out.tape, HBX.out.output, HBX.out.size, HBX.out.block⟩⟩
            · have HR := Aside0.mk (Int.not_lt.1 hr)
              have hrb : decide ((f.ws.length : Int) < 4) = false := decide_eq_false hr
              clear hr
              go_wp2_with (first | (go_at_call 16; have q_ := waiters_some HT.out HW0.out HF.out HWS.out; (with_reducible refine q_.mono ?_); clear q_; rintro e w1 ⟨v1, rfl, hr1, hb1⟩; obtain ⟨A1, c1, rfl⟩ := row_shape hr1; have HR1 := Aside0.mk hr1; have HT1 := Aside0.mk (HT.out.below hb1); have HB1 := Aside0.mk (below_step HBW.out hb1); clear hr1 hb1) | (go_at_call 17; have q_ := leader_some HT1.out HW0.out HF.out; (with_reducible refine q_.mono ?_); clear q_; rintro e w1b ⟨rfl, hw_⟩; obtain rfl := hw_.symm; clear hw_) | (go_at_call 10; have q_ := join_full (who := 1099511627776) HT1.out HW0.out HF.out (Int.not_lt.2 HR.out); (with_reducible refine q_.mono ?_); clear q_; rintro e w2 ⟨rfl, hb2⟩; have HT2 := Aside0.mk (HT1.out.below hb2); have HB2 := Aside0.mk (below_step HB1.out hb2); have HR2 := Aside0.mk (row_belowed hb2 HR1.out); clear hb2) | (go_at_call 11; have q_ := leave_not (who := 1099511627776) HT2.out HW0.out HF.out HM.out HWS.out; (with_reducible refine q_.mono ?_); clear q_; rintro e w3 ⟨rfl, hb3⟩; have HT3 := Aside0.mk (HT2.out.below hb3); have HB3 := Aside0.mk (below_step HB2.out hb3); have HR3 := Aside0.mk (row_belowed hb3 HR2.out); clear hb3) | (go_at_call 16; have q_ := waiters_some HT3.out HW0.out HF.out HWS.out; (with_reducible refine q_.mono ?_); clear q_; rintro e w4 ⟨v4, rfl, hr4, hb4⟩; obtain ⟨A4, c4, rfl⟩ := row_shape hr4; have HBX := Aside0.mk (below_step HB3.out hb4); have HRX := Aside0.mk (row_belowed hb4 HR3.out); have HRY := Aside0.mk hr4; have HT4 := Aside0.mk (HT3.out.below hb4); clear hr4 hb4))
              go_loop [19] (fun v19 => ∃ j : Int, v19 = .int .i64 j ∧ Aside0 (0 ≤ j ∧ j ≤ (l.length : Int)) ∧ Aside0 (NoneTo l 1099511627776 j)) (fun v19 => l.length - (intOf v19).toNat)
              case atStart =>
                exact ⟨0, rfl, ⟨⟨Int.le_refl _, by omega⟩⟩, ⟨NoneTo.start _ _⟩⟩
              case round =>
                obtain ⟨j, rfl, HJ, HNo⟩ := hrel
                by_cases gk : j < (l.length : Int)
                · by_cases gk2 : j < 200
                  · have g0 : 0 ≤ j := HJ.out.1
                    obtain ⟨ad, e0, c0, c1, c2⟩ := at_D HC.out j g0 gk
                    cases e0
                    clear c0 c1
                    replace c2 := (HBX.out.cell (World.block_lt_of_cell? w _ c2)).trans c2
                    have hcap := HLC.out
                    by_cases hwho : (rdD l j).who = 1099511627776
                    · rw [hwho] at c2
                      clear hwho
                      go_wp2
                      go_ret
                      exact ⟨rfl, ⟨HBX.out.os, HBX.out.tape, HBX.out.output, HBX.out.size, HBX.out.block⟩⟩
                    · have HWn := Aside0.mk hwho
                      obtain ⟨x, hx⟩ : ∃ x, (rdD l j).who = x := ⟨_, rfl⟩
                      rw [hx] at c2 hwho
                      clear hx
                      have hxb : decide (x = 1099511627776) = false := decide_eq_false hwho
                      go_wp2
                      go_round
                      case rel => exact ⟨j + 1, rfl, ⟨rndl g0 gk⟩, ⟨HNo.out.step HWn.out⟩⟩
                      case measure => exact rndl_m g0 gk
                  · have HX := Aside0.mk (show ¬ (j < (l.length : Int)) ∨ ¬ (j < 200) from .inr gk2)
                    go_wp2_with (first | (go_at_call 17; have q_ := leader_some HT4.out HW0.out HF.out; (with_reducible refine q_.mono ?_); clear q_; rintro e w6 ⟨rfl, hw_⟩; obtain rfl := hw_.symm; clear hw_) | (go_at_call 14; obtain ⟨A5, c5, e5, hc5, hC5⟩ := row_C HRX.out; obtain ⟨rfl, rfl⟩ : A1 = A5 ∧ c1 = c5 := (by injection e5 with e6 _ e7; exact ⟨e6, e7⟩); clear e5; obtain ⟨A7, c7, e7, hc7, hC7⟩ := row_C HRY.out; obtain ⟨rfl, rfl⟩ : A4 = A7 ∧ c4 = c7 := (by injection e7 with e6 _ e8; exact ⟨e6, e8⟩); clear e7; (with_reducible refine (ints_same HWS.out hC5 hc5 hC7 hc7).mono ?_); rintro e w7 ⟨rfl, m7, rfl⟩))
                    go_ret
                    exact ⟨rfl, ⟨HBX.out.os, HBX.out.tape, HBX.out.output, HBX.out.size, HBX.out.block⟩⟩
                · have HX := Aside0.mk (show ¬ (j < (l.length : Int)) ∨ ¬ (j < 200) from .inl gk)
                  go_wp2_with (first | (go_at_call 17; have q_ := leader_some HT4.out HW0.out HF.out; (with_reducible refine q_.mono ?_); clear q_; rintro e w6 ⟨rfl, hw_⟩; obtain rfl := hw_.symm; clear hw_) | (go_at_call 14; obtain ⟨A5, c5, e5, hc5, hC5⟩ := row_C HRX.out; obtain ⟨rfl, rfl⟩ : A1 = A5 ∧ c1 = c5 := (by injection e5 with e6 _ e7; exact ⟨e6, e7⟩); clear e5; obtain ⟨A7, c7, e7, hc7, hC7⟩ := row_C HRY.out; obtain ⟨rfl, rfl⟩ : A4 = A7 ∧ c4 = c7 := (by injection e7 with e6 _ e8; exact ⟨e6, e8⟩); clear e7; (with_reducible refine (ints_same HWS.out hC5 hc5 hC7 hc7).mono ?_); rintro e w7 ⟨rfl, m7, rfl⟩))
                  go_ret
                  exact ⟨rfl, ⟨HBX.out.os, HBX.out.tape, HBX.out.output, HBX.out.size, HBX.out.block⟩⟩
    · skip
      have HT := Aside0.mk HS.out.tab
      have HFI := Aside0.mk HS.out.fits
      have HBW := Aside0.mk (below_step HB0.out HS.out.bel)
      have HI := Aside0.mk (show i ≤ 200 from HK.out.2.2)
      have HGE := Aside0.mk (show ∀ b, S b → w.heap.size ≤ b from fun b hb => Nat.le_trans HB0.out.size (HS.out.new b hb))
      cases hf : findK L k with
      | none =>
        have HF := Aside0.mk hf
        clear hf
        by_cases hr : (L.length : Int) < 5
        · have HR := Aside0.mk hr
          clear hr
          go_wp2_with (first | (go_at_call 16; have q_ := waiters_none HT.out HW0.out HF.out; (with_reducible refine q_.mono ?_); clear q_; rintro e w1a ⟨rfl, hw_⟩; obtain rfl := hw_.symm; clear hw_) | (go_at_call 17; have q_ := leader_none HT.out HW0.out HF.out; (with_reducible refine q_.mono ?_); clear q_; rintro e w1b ⟨rfl, hw_⟩; obtain rfl := hw_.symm; clear hw_) | (go_at_call 10; have q_ := join_leads (who := 1099511627776) HT.out HW0.out HF.out HR.out (wks HFI.out.n (Int.le_trans HI.out (by decide))); (with_reducible refine q_.mono ?_); clear q_; rintro e w2 ⟨rfl, b2, T2, t2⟩; have HT2 := Aside0.mk T2; have HB2 := Aside0.mk (t2.below HBW.out HGE.out); clear T2 t2) | (go_at_call 11; have q_ := leave_not (who := 1099511627776) HT2.out HW0.out (find_added HF.out) (by simp) (Nat.zero_le _); (with_reducible refine q_.mono ?_); clear q_; rintro e w3 ⟨rfl, hb3⟩; have HT3 := Aside0.mk (HT2.out.below hb3); have HB3 := Aside0.mk (below_step HB2.out hb3); clear hb3) | (go_at_call 16; have q_ := waiters_some HT3.out HW0.out (find_added HF.out) (Nat.zero_le _); (with_reducible refine q_.mono ?_); clear q_; rintro e w4 ⟨v4, rfl, hr4, hb4⟩; obtain ⟨A4, c4, rfl⟩ := row_shape hr4; have HBX := Aside0.mk (below_step HB3.out hb4); clear hr4 hb4))
          go_loop [19] (fun v19 => ∃ j : Int, v19 = .int .i64 j ∧ Aside0 (0 ≤ j ∧ j ≤ (l.length : Int)) ∧ Aside0 (NoneTo l 1099511627776 j)) (fun v19 => l.length - (intOf v19).toNat)
          case atStart =>
            exact ⟨0, rfl, ⟨⟨Int.le_refl _, by omega⟩⟩, ⟨NoneTo.start _ _⟩⟩
          case round =>
            obtain ⟨j, rfl, HJ, HNo⟩ := hrel
            by_cases gk : j < (l.length : Int)
            · by_cases gk2 : j < 200
              · have g0 : 0 ≤ j := HJ.out.1
                obtain ⟨ad, e0, c0, c1, c2⟩ := at_D HC.out j g0 gk
                cases e0
                clear c0 c1
                replace c2 := (HBX.out.cell (World.block_lt_of_cell? w _ c2)).trans c2
                have hcap := HLC.out
                by_cases hwho : (rdD l j).who = 1099511627776
                · rw [hwho] at c2
                  clear hwho
                  go_wp2
                  go_ret
                  exact ⟨rfl, ⟨HBX.out.os, HBX.out.tape, HBX.out.output, HBX.out.size, HBX.out.block⟩⟩
                · have HWn := Aside0.mk hwho
                  obtain ⟨x, hx⟩ : ∃ x, (rdD l j).who = x := ⟨_, rfl⟩
                  rw [hx] at c2 hwho
                  clear hx
                  have hxb : decide (x = 1099511627776) = false := decide_eq_false hwho
                  go_wp2
                  go_round
                  case rel => exact ⟨j + 1, rfl, ⟨rndl g0 gk⟩, ⟨HNo.out.step HWn.out⟩⟩
                  case measure => exact rndl_m g0 gk
              · have HX := Aside0.mk (show ¬ (j < (l.length : Int)) ∨ ¬ (j < 200) from .inr gk2)
                go_wp2
                go_ret
                exact ⟨rfl, ⟨HBX.out.os, HBX.out.tape, HBX.out.output, HBX.out.size, HBX.out.block⟩⟩
            · have HX := Aside0.mk (show ¬ (j < (l.length : Int)) ∨ ¬ (j < 200) from .inl gk)
              go_wp2
              go_ret
              exact ⟨rfl, ⟨HBX.out.os, HBX.out.tape, HBX.out.output, HBX.out.size, HBX.out.block⟩⟩
        · have HR := Aside0.mk (Int.not_lt.1 hr)
          clear hr
          go_wp2_with (first | (go_at_call 16; have q_ := waiters_none HT.out HW0.out HF.out; (with_reducible refine q_.mono ?_); clear q_; rintro e w1a ⟨rfl, hw_⟩; obtain rfl := hw_.symm; clear hw_) | (go_at_call 17; have q_ := leader_none HT.out HW0.out HF.out; (with_reducible refine q_.mono ?_); clear q_; rintro e w1b ⟨rfl, hw_⟩; obtain rfl := hw_.symm; clear hw_) | (go_at_call 10; have q_ := join_over (who := 1099511627776) HT.out HW0.out HF.out (Int.not_lt.2 HR.out); (with_reducible refine q_.mono ?_); clear q_; rintro e w2 ⟨rfl, hb2⟩; have HT2 := Aside0.mk (HT.out.below hb2); have HBX := Aside0.mk (below_step HBW.out hb2); clear hb2) | (go_at_call 11; have q_ := leave_none (who := 1099511627776) HT2.out HW0.out HF.out; (with_reducible refine q_.mono ?_); clear q_; rintro e w3 ⟨rfl, hw_⟩; obtain rfl := hw_.symm; clear hw_) | (go_at_call 16; have q_ := waiters_none HT2.out HW0.out HF.out; (with_reducible refine q_.mono ?_); clear q_; rintro e w4 ⟨rfl, hw_⟩; obtain rfl := hw_.symm; clear hw_))
          go_loop [19] (fun v19 => ∃ j : Int, v19 = .int .i64 j ∧ Aside0 (0 ≤ j ∧ j ≤ (l.length : Int)) ∧ Aside0 (NoneTo l 1099511627776 j)) (fun v19 => l.length - (intOf v19).toNat)
          case atStart =>
            exact ⟨0, rfl, ⟨⟨Int.le_refl _, by omega⟩⟩, ⟨NoneTo.start _ _⟩⟩
          case round =>
            obtain ⟨j, rfl, HJ, HNo⟩ := hrel
            by_cases gk : j < (l.length : Int)
            · by_cases gk2 : j < 200
              · have g0 : 0 ≤ j := HJ.out.1
                obtain ⟨ad, e0, c0, c1, c2⟩ := at_D HC.out j g0 gk
                cases e0
                clear c0 c1
                replace c2 := (HBX.out.cell (World.block_lt_of_cell? w _ c2)).trans c2
                have hcap := HLC.out
                by_cases hwho : (rdD l j).who = 1099511627776
                · rw [hwho] at c2
                  clear hwho
                  go_wp2
                  go_ret
                  exact ⟨rfl, ⟨HBX.out.os, HBX.out.tape, HBX.out.output, HBX.out.size, HBX.out.block⟩⟩
                · have HWn := Aside0.mk hwho
                  obtain ⟨x, hx⟩ : ∃ x, (rdD l j).who = x := ⟨_, rfl⟩
                  rw [hx] at c2 hwho
                  clear hx
                  have hxb : decide (x = 1099511627776) = false := decide_eq_false hwho
                  go_wp2
                  go_round
                  case rel => exact ⟨j + 1, rfl, ⟨rndl g0 gk⟩, ⟨HNo.out.step HWn.out⟩⟩
                  case measure => exact rndl_m g0 gk
              · have HX := Aside0.mk (show ¬ (j < (l.length : Int)) ∨ ¬ (j < 200) from .inr gk2)
                go_wp2
                go_ret
                exact ⟨rfl, ⟨HBX.out.os, HBX.out.tape, HBX.out.output, HBX.out.size, HBX.out.block⟩⟩
            · have HX := Aside0.mk (show ¬ (j < (l.length : Int)) ∨ ¬ (j < 200) from .inl gk)
              go_wp2
              go_ret
              exact ⟨rfl, ⟨HBX.out.os, HBX.out.tape, HBX.out.output, HBX.out.size, HBX.out.block⟩⟩
      | some f =>
        have HF := Aside0.mk hf
        clear hf
        have hws : f.ws.length ≤ 200 := by have := HFI.out.q f (findK_mem HF.out).1; have := HI.out; omega
        have HWS := Aside0.mk (show f.ws.length ≤ 1000000 by omega)
        have HLT := Aside0.mk (show ∀ b, S b → b < wr.heap.size from HS.out.lt)
        by_cases hm : 1099511627776 ∈ f.ws
        · have HM := Aside0.mk hm
          clear hm
          go_wp2_with (first | (go_at_call 16; have q_ := waiters_some HT.out HW0.out HF.out HWS.out; (with_reducible refine q_.mono ?_); clear q_; rintro e w1 ⟨v1, rfl, hr1, hb1⟩; obtain ⟨A1, c1, rfl⟩ := row_shape hr1; have HR1 := Aside0.mk hr1; have HT1 := Aside0.mk (HT.out.below hb1); have HB1 := Aside0.mk (below_step HBW.out hb1); clear hr1 hb1) | (go_at_call 17; have q_ := leader_some HT1.out HW0.out HF.out; (with_reducible refine q_.mono ?_); clear q_; rintro e w1b ⟨rfl, hw_⟩; obtain rfl := hw_.symm; clear hw_) | (go_at_call 10; have q_ := join_in (who := 1099511627776) HT1.out HW0.out HF.out (by omega); (with_reducible refine q_.mono ?_); clear q_; rintro e w2 ⟨r2, L2, f2, rfl, T2, t2, F2, l2⟩; have HT2 := Aside0.mk T2; have HF2 := Aside0.mk F2; have HB2 := Aside0.mk (t2.below HB1.out HGE.out); have HG2 := Aside0.mk (grow_ge HGE.out HB1.out.size w2); clear T2 t2 F2) | (go_at_call 11; have q_ := leave_in (who := 1099511627776) HT2.out HW0.out HF2.out (by omega); (with_reducible refine q_.mono ?_); clear q_; rintro e w3 ⟨r3, L3, f3, rfl, T3, t3, F3, l3⟩; have HT3 := Aside0.mk T3; have HF3 := Aside0.mk F3; have HB3 := Aside0.mk (t3.below HB2.out HG2.out); clear T3 t3 F3) | (go_at_call 16; have q_ := waiters_some HT3.out HW0.out HF3.out (by omega); (with_reducible refine q_.mono ?_); clear q_; rintro e w4 ⟨v4, rfl, hr4, hb4⟩; obtain ⟨A4, c4, rfl⟩ := row_shape hr4; have HBX := Aside0.mk (below_step HB3.out hb4); clear hr4 hb4))
          go_loop [19] (fun v19 => ∃ j : Int, v19 = .int .i64 j ∧ Aside0 (0 ≤ j ∧ j ≤ (l.length : Int)) ∧ Aside0 (NoneTo l 1099511627776 j)) (fun v19 => l.length - (intOf v19).toNat)
          case atStart =>
            exact ⟨0, rfl, ⟨⟨Int.le_refl _, by omega⟩⟩, ⟨NoneTo.start _ _⟩⟩
          case round =>
            obtain ⟨j, rfl, HJ, HNo⟩ := hrel
            by_cases gk : j < (l.length : Int)
            · by_cases gk2 : j < 200
              · have g0 : 0 ≤ j := HJ.out.1
                obtain ⟨ad, e0, c0, c1, c2⟩ := at_D HC.out j g0 gk
                cases e0
                clear c0 c1
                replace c2 := (HBX.out.cell (World.block_lt_of_cell? w _ c2)).trans c2
                have hcap := HLC.out
                by_cases hwho : (rdD l j).who = 1099511627776
                · rw [hwho] at c2
                  clear hwho
                  go_wp2
                  go_ret
                  exact ⟨rfl, ⟨HBX.out.os, HBX.out.tape, HBX.out.output, HBX.out.size, HBX.out.block⟩⟩
                · have HWn := Aside0.mk hwho
                  obtain ⟨x, hx⟩ : ∃ x, (rdD l j).who = x := ⟨_, rfl⟩
                  rw [hx] at c2 hwho
                  clear hx
                  have hxb : decide (x = 1099511627776) = false := decide_eq_false hwho
                  go_wp2
                  go_round
                  case rel => exact ⟨j + 1, rfl, ⟨rndl g0 gk⟩, ⟨HNo.out.step HWn.out⟩⟩
                  case measure => exact rndl_m g0 gk
              · have HX := Aside0.mk (show ¬ (j < (l.length : Int)) ∨ ¬ (j < 200) from .inr gk2)
                exact (HNo.out.not (HS.out.from_ f (findK_mem HF.out).1 _ HM.out) HX.out).elim
            · have HX := Aside0.mk (show ¬ (j < (l.length : Int)) ∨ ¬ (j < 200) from .inl gk)
              exact (HNo.out.not (HS.out.from_ f (findK_mem HF.out).1 _ HM.out) HX.out).elim
        · have HM := Aside0.mk hm
          clear hm
          by_cases hr : (f.ws.length : Int) < 4
          · have HR := Aside0.mk hr
            have hrb : decide ((f.ws.length : Int) < 4) = true := decide_eq_true hr
            clear hr
            go_wp2_with (first | (go_at_call 16; have q_ := waiters_some HT.out HW0.out HF.out HWS.out; (with_reducible refine q_.mono ?_); clear q_; rintro e w1 ⟨v1, rfl, hr1, hb1⟩; obtain ⟨A1, c1, rfl⟩ := row_shape hr1; have HR1 := Aside0.mk hr1; have HT1 := Aside0.mk (HT.out.below hb1); have HB1 := Aside0.mk (below_step HBW.out hb1); clear hr1 hb1) | (go_at_call 17; have q_ := leader_some HT1.out HW0.out HF.out; (with_reducible refine q_.mono ?_); clear q_; rintro e w1b ⟨rfl, hw_⟩; obtain rfl := hw_.symm; clear hw_) | (go_at_call 10; have q_ := join_waits (who := 1099511627776) HT1.out HW0.out HF.out HR.out HWS.out; (with_reducible refine q_.mono ?_); clear q_; rintro e w2 ⟨rfl, v2, T2, t2⟩; have HT2 := Aside0.mk T2; have HB2 := Aside0.mk (t2.below HB1.out HGE.out); have HR2 := Aside0.mk (row_turned t2 HR1.out HLT.out); have HG2 := Aside0.mk (grow_ge HGE.out HB1.out.size w2); have HFar := Aside0.mk (show ∀ b, grow S w1 w2 b → S b ∨ w1.heap.size ≤ b from fun b hb => hb.imp id (fun h => h.1)); clear T2 t2) | (go_at_call 11; have q_ := leave_some (who := 1099511627776) HT2.out HW0.out (find_up HF.out _ _) (by simp) (by show (f.ws ++ [1099511627776]).length ≤ 1000000; rw [List.length_append, List.length_singleton]; omega); (with_reducible refine q_.mono ?_); clear q_; rintro e w3 ⟨rfl, v3, T3, t3⟩; have HR3 := Aside0.mk (row_kept HR2.out (fun b hb => t3.block b (row_lt HR2.out b hb) (fun e => by have h1 := (HR2.out.lt b hb).1; have h2 := row_lt HR1.out b hb; rcases HFar.out b e with h3 | h3; have := HLT.out b h3; omega; omega))); have HT3 := Aside0.mk (tab_erase (xs := f.ws) (x := 1099511627776) T3 HM.out); have HB3 := Aside0.mk (t3.below HB2.out HG2.out); clear T3 t3) | (go_at_call 16; have q_ := waiters_some HT3.out HW0.out (find_up (find_up HF.out _ _) _ _) HWS.out; (with_reducible refine q_.mono ?_); clear q_; rintro e w4 ⟨v4, rfl, hr4, hb4⟩; obtain ⟨A4, c4, rfl⟩ := row_shape hr4; have HBX := Aside0.mk (below_step HB3.out hb4); have HRX := Aside0.mk (row_belowed hb4 HR3.out); have HRY := Aside0.mk hr4; have HT4 := Aside0.mk (HT3.out.below hb4); clear hr4 hb4))
            go_loop [19] (fun v19 => ∃ j : Int, v19 = .int .i64 j ∧ Aside0 (0 ≤ j ∧ j ≤ (l.length : Int)) ∧ Aside0 (NoneTo l 1099511627776 j)) (fun v19 => l.length - (intOf v19).toNat)
            case atStart =>
              exact ⟨0, rfl, ⟨⟨Int.le_refl _, by omega⟩⟩, ⟨NoneTo.start _ _⟩⟩
            case round =>
              obtain ⟨j, rfl, HJ, HNo⟩ := hrel
              by_cases gk : j < (l.length : Int)
              · by_cases gk2 : j < 200
                · have g0 : 0 ≤ j := HJ.out.1
                  obtain ⟨ad, e0, c0, c1, c2⟩ := at_D HC.out j g0 gk
                  cases e0
                  clear c0 c1
                  replace c2 := (HBX.out.cell (World.block_lt_of_cell? w _ c2)).trans c2
                  have hcap := HLC.out
                  by_cases hwho : (rdD l j).who = 1099511627776
                  · rw [hwho] at c2
                    clear hwho
                    go_wp2
                    go_ret
                    exact ⟨rfl, ⟨HBX.out.os, HBX.out.tape, HBX.out.output, HBX.out.size, HBX.out.block⟩⟩
                  · have HWn := Aside0.mk hwho
                    obtain ⟨x, hx⟩ : ∃ x, (rdD l j).who = x := ⟨_, rfl⟩
                    rw [hx] at c2 hwho
                    clear hx
                    have hxb : decide (x = 1099511627776) = false := decide_eq_false hwho
                    go_wp2
                    go_round
                    case rel => exact ⟨j + 1, rfl, ⟨rndl g0 gk⟩, ⟨HNo.out.step HWn.out⟩⟩
                    case measure => exact rndl_m g0 gk
                · have HX := Aside0.mk (show ¬ (j < (l.length : Int)) ∨ ¬ (j < 200) from .inr gk2)
                  go_wp2_with (first | (go_at_call 17; have q_ := leader_some HT4.out HW0.out (find_up (find_up HF.out _ _) _ _); (with_reducible refine q_.mono ?_); clear q_; rintro e w6 ⟨rfl, hw_⟩; obtain rfl := hw_.symm; clear hw_) | (go_at_call 14; obtain ⟨A5, c5, e5, hc5, hC5⟩ := row_C HRX.out; obtain ⟨rfl, rfl⟩ : A1 = A5 ∧ c1 = c5 := (by injection e5 with e6 _ e7; exact ⟨e6, e7⟩); clear e5; obtain ⟨A7, c7, e7, hc7, hC7⟩ := row_C HRY.out; obtain ⟨rfl, rfl⟩ : A4 = A7 ∧ c4 = c7 := (by injection e7 with e6 _ e8; exact ⟨e6, e8⟩); clear e7; (with_reducible refine (ints_same HWS.out hC5 hc5 hC7 hc7).mono ?_); rintro e w7 ⟨rfl, m7, rfl⟩))
                  go_ret
                  exact ⟨rfl, ⟨HBX.out.os, HBX.out.tape, HBX.out.output, HBX.out.size, HBX.out.block⟩⟩
              · have HX := Aside0.mk (show ¬ (j < (l.length : Int)) ∨ ¬ (j < 200) from .inl gk)
                go_wp2_with (first | (go_at_call 17; have q_ := leader_some HT4.out HW0.out (find_up (find_up HF.out _ _) _ _); (with_reducible refine q_.mono ?_); clear q_; rintro e w6 ⟨rfl, hw_⟩; obtain rfl := hw_.symm; clear hw_) | (go_at_call 14; obtain ⟨A5, c5, e5, hc5, hC5⟩ := row_C HRX.out; obtain ⟨rfl, rfl⟩ : A1 = A5 ∧ c1 = c5 := (by injection e5 with e6 _ e7; exact ⟨e6, e7⟩); clear e5; obtain ⟨A7, c7, e7, hc7, hC7⟩ := row_C HRY.out; obtain ⟨rfl, rfl⟩ : A4 = A7 ∧ c4 = c7 := (by injection e7 with e6 _ e8; exact ⟨e6, e8⟩); clear e7; (with_reducible refine (ints_same HWS.out hC5 hc5 hC7 hc7).mono ?_); rintro e w7 ⟨rfl, m7, rfl⟩))
                go_ret
                exact ⟨rfl, ⟨HBX.out.os, HBX.out.tape, HBX.out.output, HBX.out.size, HBX.out.block⟩⟩
          · have HR := Aside0.mk (Int.not_lt.1 hr)
            have hrb : decide ((f.ws.length : Int) < 4) = false := decide_eq_false hr
            clear hr
            go_wp2_with (first | (go_at_call 16; have q_ := waiters_some HT.out HW0.out HF.out HWS.out; (with_reducible refine q_.mono ?_); clear q_; rintro e w1 ⟨v1, rfl, hr1, hb1⟩; obtain ⟨A1, c1, rfl⟩ := row_shape hr1; have HR1 := Aside0.mk hr1; have HT1 := Aside0.mk (HT.out.below hb1); have HB1 := Aside0.mk (below_step HBW.out hb1); clear hr1 hb1) | (go_at_call 17; have q_ := leader_some HT1.out HW0.out HF.out; (with_reducible refine q_.mono ?_); clear q_; rintro e w1b ⟨rfl, hw_⟩; obtain rfl := hw_.symm; clear hw_) | (go_at_call 10; have q_ := join_full (who := 1099511627776) HT1.out HW0.out HF.out (Int.not_lt.2 HR.out); (with_reducible refine q_.mono ?_); clear q_; rintro e w2 ⟨rfl, hb2⟩; have HT2 := Aside0.mk (HT1.out.below hb2); have HB2 := Aside0.mk (below_step HB1.out hb2); have HR2 := Aside0.mk (row_belowed hb2 HR1.out); clear hb2) | (go_at_call 11; have q_ := leave_not (who := 1099511627776) HT2.out HW0.out HF.out HM.out HWS.out; (with_reducible refine q_.mono ?_); clear q_; rintro e w3 ⟨rfl, hb3⟩; have HT3 := Aside0.mk (HT2.out.below hb3); have HB3 := Aside0.mk (below_step HB2.out hb3); have HR3 := Aside0.mk (row_belowed hb3 HR2.out); clear hb3) | (go_at_call 16; have q_ := waiters_some HT3.out HW0.out HF.out HWS.out; (with_reducible refine q_.mono ?_); clear q_; rintro e w4 ⟨v4, rfl, hr4, hb4⟩; obtain ⟨A4, c4, rfl⟩ := row_shape hr4; have HBX := Aside0.mk (below_step HB3.out hb4); have HRX := Aside0.mk (row_belowed hb4 HR3.out); have HRY := Aside0.mk hr4; have HT4 := Aside0.mk (HT3.out.below hb4); clear hr4 hb4))
            go_loop [19] (fun v19 => ∃ j : Int, v19 = .int .i64 j ∧ Aside0 (0 ≤ j ∧ j ≤ (l.length : Int)) ∧ Aside0 (NoneTo l 1099511627776 j)) (fun v19 => l.length - (intOf v19).toNat)
            case atStart =>
              exact ⟨0, rfl, ⟨⟨Int.le_refl _, by omega⟩⟩, ⟨NoneTo.start _ _⟩⟩
            case round =>
              obtain ⟨j, rfl, HJ, HNo⟩ := hrel
              by_cases gk : j < (l.length : Int)
              · by_cases gk2 : j < 200
                · have g0 : 0 ≤ j := HJ.out.1
                  obtain ⟨ad, e0, c0, c1, c2⟩ := at_D HC.out j g0 gk
                  cases e0
                  clear c0 c1
                  replace c2 := (HBX.out.cell (World.block_lt_of_cell? w _ c2)).trans c2
                  have hcap := HLC.out
                  by_cases hwho : (rdD l j).who = 1099511627776
                  · rw [hwho] at c2
                    clear hwho
                    go_wp2
                    go_ret
                    exact ⟨rfl, ⟨HBX.out.os, HBX.out.tape, HBX.out.output, HBX.out.size, HBX.out.block⟩⟩
                  · have HWn := Aside0.mk hwho
                    obtain ⟨x, hx⟩ : ∃ x, (rdD l j).who = x := ⟨_, rfl⟩
                    rw [hx] at c2 hwho
                    clear hx
                    have hxb : decide (x = 1099511627776) = false := decide_eq_false hwho
                    go_wp2
                    go_round
                    case rel => exact ⟨j + 1, rfl, ⟨rndl g0 gk⟩, ⟨HNo.out.step HWn.out⟩⟩
                    case measure => exact rndl_m g0 gk
                · have HX := Aside0.mk (show ¬ (j < (l.length : Int)) ∨ ¬ (j < 200) from .inr gk2)
                  go_wp2_with (first | (go_at_call 17; have q_ := leader_some HT4.out HW0.out HF.out; (with_reducible refine q_.mono ?_); clear q_; rintro e w6 ⟨rfl, hw_⟩; obtain rfl := hw_.symm; clear hw_) | (go_at_call 14; obtain ⟨A5, c5, e5, hc5, hC5⟩ := row_C HRX.out; obtain ⟨rfl, rfl⟩ : A1 = A5 ∧ c1 = c5 := (by injection e5 with e6 _ e7; exact ⟨e6, e7⟩); clear e5; obtain ⟨A7, c7, e7, hc7, hC7⟩ := row_C HRY.out; obtain ⟨rfl, rfl⟩ : A4 = A7 ∧ c4 = c7 := (by injection e7 with e6 _ e8; exact ⟨e6, e8⟩); clear e7; (with_reducible refine (ints_same HWS.out hC5 hc5 hC7 hc7).mono ?_); rintro e w7 ⟨rfl, m7, rfl⟩))
                  go_ret
                  exact ⟨rfl, ⟨HBX.out.os, HBX.out.tape, HBX.out.output, HBX.out.size, HBX.out.block⟩⟩
              · have HX := Aside0.mk (show ¬ (j < (l.length : Int)) ∨ ¬ (j < 200) from .inl gk)
                go_wp2_with (first | (go_at_call 17; have q_ := leader_some HT4.out HW0.out HF.out; (with_reducible refine q_.mono ?_); clear q_; rintro e w6 ⟨rfl, hw_⟩; obtain rfl := hw_.symm; clear hw_) | (go_at_call 14; obtain ⟨A5, c5, e5, hc5, hC5⟩ := row_C HRX.out; obtain ⟨rfl, rfl⟩ : A1 = A5 ∧ c1 = c5 := (by injection e5 with e6 _ e7; exact ⟨e6, e7⟩); clear e5; obtain ⟨A7, c7, e7, hc7, hC7⟩ := row_C HRY.out; obtain ⟨rfl, rfl⟩ : A4 = A7 ∧ c4 = c7 := (by injection e7 with e6 _ e8; exact ⟨e6, e8⟩); clear e7; (with_reducible refine (ints_same HWS.out hC5 hc5 hC7 hc7).mono ?_); rintro e w7 ⟨rfl, m7, rfl⟩))
                go_ret
                exact ⟨rfl, ⟨HBX.out.os, HBX.out.tape, HBX.out.output, HBX.out.size, HBX.out.block⟩⟩
end Go.Proofs.Ytbonaoopkfcabaa.Own
