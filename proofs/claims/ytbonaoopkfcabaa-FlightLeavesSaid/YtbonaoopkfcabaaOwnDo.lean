/- What one deed does to the table and to the reference's list: the law's 'do', a walk for each case; both answer the same. -/
import Derived.Test.YtbonaoopkfcabaaOwnState
import Derived.StillTailTactics
namespace Go.Proofs.Ytbonaoopkfcabaa.Own
open Go.RowKit Go.Maps Go.Proofs.Ytbonaoopkfcabaa.PFlightPlays Go.Proofs.YtbonaoopkfcabaaW.PrintWords Go.Proofs.YtbonaoopkfcabaaW.PrintLast Go.Proofs.YtbonaoopkfcabaaW.PrintMore
set_option linter.unusedVariables false
section
variable {w0 w w1 : World} {S : Nat → Prop} {g mb : Nat} {n0 n1 : Int} {L : List Fl} {A : Option Addr} {c : Nat} {i kd k who : Int} {W : Int → Prop} {f : Fl}
/-- the world with a copy of the bounds and of the deed -/
def boxedW (w : World) (n0 n1 kd k who : Int) : World := (w.alloc (.cells #[.int .i64 n0, .int .i64 n1] 39)).alloc (.cells #[.int .i64 kd, .int .i64 k, .int .i64 who] 28)
theorem boxedW_below (w : World) (n0 n1 kd k who : Int) : Below w.heap.size w (boxedW w n0 n1 kd k who) :=
  ⟨rfl, rfl, rfl, by unfold boxedW; rw [al, al, Array.size_push, Array.size_push]; omega, fun i hi => by unfold boxedW; rw [al, al, Array.getElem?_push, if_neg (by rw [Array.size_push]; omega), Array.getElem?_push, if_neg (by omega)]⟩
theorem boxed_two {X : List S48} {v : Value} (h : PSt w0 w S g mb n0 n1 L v X i W) (hf : Far (boxedW w n0 n1 kd k who) w1 S) :
    w1.heap[w.heap.size]? = some (.cells #[.int .i64 n0, .int .i64 n1] 39 (0, 0)) ∧ w1.heap[w.heap.size + 1]? = some (.cells #[.int .i64 kd, .int .i64 k, .int .i64 who] 28 (0, 0)) := by
  have hs : (boxedW w n0 n1 kd k who).heap.size = w.heap.size + 2 := by unfold boxedW; rw [al, al, Array.size_push, Array.size_push]
  refine ⟨(hf _ (by omega) (fun e => by have := h.lt _ e; omega)).trans ?_, (hf _ (by omega) (fun e => by have := h.lt _ e; omega)).trans ?_⟩
  · unfold boxedW
    rw [al, al, Array.getElem?_push, if_neg (by rw [Array.size_push]; omega), Array.getElem?_push, if_pos rfl]
  · unfold boxedW
    rw [al, al, Array.getElem?_push, if_pos (by rw [Array.size_push])]
/-- what a deed leaves, and that both answer the same -/
def Same (w0 : World) (g mb : Nat) (n0 n1 : Int) (i : Int) (W : Int → Prop) (e : Ending) (w1 : World) : Prop :=
  ∃ B d L' S', e = .returned (.tuple #[.slice B (refL L').length d, .bool true]) ∧ PSt w0 w1 S' g mb n0 n1 L' (.slice B (refL L').length d) (refL L') i W
theorem wks0 {n : Nat} {i : Int} (h : (n : Int) ≤ i) (hi : i ≤ 1000) : n ≤ 1000 := by omega
set_option maxRecDepth 100000 in
set_option maxHeartbeats 4000000 in
theorem do_leads (h : PSt w0 w S g mb n0 n1 L (.slice A (refL L).length c) (refL L) i W) (hi : i ≤ 200) (hi0 : 0 ≤ i) (hk : (Lit.int .i64 k).wf = true) (hf : findK L k = none) (hr : (L.length : Int) < n0) :
    Calls Try.prog 15 #[.pointer (some ⟨g, 0, none⟩), .slice A (refL L).length c, .agg #[.int .i64 n0, .int .i64 n1], .agg #[.int .i64 0, .int .i64 k, .int .i64 who]] w (Same w0 g mb n0 n1 (i + 1) W) := by
  have H := Aside0.mk h
  have HK := Aside0.mk hk
  have HLN := Aside0.mk (wks0 h.fits.n (by omega))
  have HF := Aside0.mk hf
  clear hf
  have HR := Aside0.mk hr
  clear hr
  have hJ := fun (w' : World) (hw : PSt w0 w' S g mb n0 n1 L (.slice A (refL L).length c) (refL L) i W) => st_leads (who := who) hw (by omega) HK.out HF.out HR.out hi0
  clear h hk
  go_enter Try.func15, Try.ntmps15
  go_wp2_with (first | (go_at_call 10; refine (hJ _ ?side1).mono ?_; (case side1 => exact H.out.below (boxedW_below w n0 n1 0 k who)); clear hJ; rintro e w2 ⟨rfl, S2, b2, h2, far2, ns2⟩; have bx := boxed_two (kd := 0) (k := k) (who := who) H.out far2; have e0 := gcell bx.1 0 _ rfl; have e1 := gcell bx.1 1 _ rfl; have e2 := gcell bx.2 1 _ rfl; have e3 := gcell bx.2 2 _ rfl; clear bx; have H2 := Aside0.mk h2; clear h2 far2) | (go_at_call 26; refine (st_rjoin H2.out (ref_join_new HLN.out HF.out HR.out b2 (.slice none 0 0))).mono ?_; clear e0 e1 e2 e3; rintro e w3 ⟨B3, d3, rfl, h3, hb3⟩))
  go_ret2
  exact ⟨_, _, _, _, rfl, h3⟩
set_option maxRecDepth 100000 in
set_option maxHeartbeats 4000000 in
theorem do_over (h : PSt w0 w S g mb n0 n1 L (.slice A (refL L).length c) (refL L) i W) (hi : i ≤ 200) (hi0 : 0 ≤ i) (hk : (Lit.int .i64 k).wf = true) (hf : findK L k = none) (hr : ¬ (L.length : Int) < n0) :
    Calls Try.prog 15 #[.pointer (some ⟨g, 0, none⟩), .slice A (refL L).length c, .agg #[.int .i64 n0, .int .i64 n1], .agg #[.int .i64 0, .int .i64 k, .int .i64 who]] w (Same w0 g mb n0 n1 (i + 1) W) := by
  have H := Aside0.mk h
  have HK := Aside0.mk hk
  have HLN := Aside0.mk (wks0 h.fits.n (by omega))
  have HF := Aside0.mk hf
  clear hf
  have HR := Aside0.mk (Int.not_lt.1 hr)
  clear hr
  have hJ := fun (w' : World) (hw : PSt w0 w' S g mb n0 n1 L (.slice A (refL L).length c) (refL L) i W) => st_over (who := who) hw HK.out HF.out (Int.not_lt.2 HR.out)
  clear h hk
  go_enter Try.func15, Try.ntmps15
  go_wp2_with (first | (go_at_call 10; refine (hJ _ ?side1).mono ?_; (case side1 => exact H.out.below (boxedW_below w n0 n1 0 k who)); clear hJ; rintro e w2 ⟨rfl, h2, far2⟩; have bx := boxed_two (kd := 0) (k := k) (who := who) H.out far2; have e0 := gcell bx.1 0 _ rfl; have e1 := gcell bx.1 1 _ rfl; have e2 := gcell bx.2 1 _ rfl; have e3 := gcell bx.2 2 _ rfl; clear bx; have H2 := Aside0.mk h2; clear h2 far2) | (go_at_call 26; refine (st_rjoin H2.out (ref_join_over HLN.out HF.out (Int.not_lt.2 HR.out))).mono ?_; clear e0 e1 e2 e3; rintro e w3 ⟨B3, d3, rfl, h3, hb3⟩))
  go_ret2
  exact ⟨_, _, _, _, rfl, h3⟩
set_option maxRecDepth 100000 in
set_option maxHeartbeats 4000000 in
theorem do_waits (h : PSt w0 w S g mb n0 n1 L (.slice A (refL L).length c) (refL L) i W) (hi : i ≤ 200) (hi0 : 0 ≤ i) (hk : (Lit.int .i64 k).wf = true) (hf : findK L k = some f) (hr : (f.ws.length : Int) < n1) (hw : W who) :
    Calls Try.prog 15 #[.pointer (some ⟨g, 0, none⟩), .slice A (refL L).length c, .agg #[.int .i64 n0, .int .i64 n1], .agg #[.int .i64 0, .int .i64 k, .int .i64 who]] w (Same w0 g mb n0 n1 (i + 1) W) := by
  have H := Aside0.mk h
  have HK := Aside0.mk hk
  have HLN := Aside0.mk (wks0 h.fits.n (by omega))
  have HF := Aside0.mk hf
  have hq := h.fits.q f (findK_mem hf).1
  have HWN := Aside0.mk (wks0 hq (by omega))
  clear hf
  have HR := Aside0.mk hr
  clear hr
  have HWW := Aside0.mk hw
  clear hw
  have hJ := fun (w' : World) (hw : PSt w0 w' S g mb n0 n1 L (.slice A (refL L).length c) (refL L) i W) => st_waits hw (by omega) HK.out HF.out HR.out HWW.out
  clear h hk
  go_enter Try.func15, Try.ntmps15
  go_wp2_with (first | (go_at_call 10; refine (hJ _ ?side1).mono ?_; (case side1 => exact H.out.below (boxedW_below w n0 n1 0 k who)); clear hJ; rintro e w2 ⟨rfl, S2, v2, h2, far2, ns2⟩; have bx := boxed_two (kd := 0) (k := k) (who := who) H.out far2; have e0 := gcell bx.1 0 _ rfl; have e1 := gcell bx.1 1 _ rfl; have e2 := gcell bx.2 1 _ rfl; have e3 := gcell bx.2 2 _ rfl; clear bx; have H2 := Aside0.mk h2; clear h2 far2) | (go_at_call 26; refine (st_rjoin H2.out (ref_join_waits HLN.out HWN.out H.out.tab.apart HF.out HR.out v2)).mono ?_; clear e0 e1 e2 e3; rintro e w3 ⟨B3, d3, rfl, h3, hb3⟩))
  go_ret2
  exact ⟨_, _, _, _, rfl, h3⟩
set_option maxRecDepth 100000 in
set_option maxHeartbeats 4000000 in
theorem do_full (h : PSt w0 w S g mb n0 n1 L (.slice A (refL L).length c) (refL L) i W) (hi : i ≤ 200) (hi0 : 0 ≤ i) (hk : (Lit.int .i64 k).wf = true) (hf : findK L k = some f) (hr : ¬ (f.ws.length : Int) < n1) :
    Calls Try.prog 15 #[.pointer (some ⟨g, 0, none⟩), .slice A (refL L).length c, .agg #[.int .i64 n0, .int .i64 n1], .agg #[.int .i64 0, .int .i64 k, .int .i64 who]] w (Same w0 g mb n0 n1 (i + 1) W) := by
  have H := Aside0.mk h
  have HK := Aside0.mk hk
  have HLN := Aside0.mk (wks0 h.fits.n (by omega))
  have HF := Aside0.mk hf
  have hq := h.fits.q f (findK_mem hf).1
  have HWN := Aside0.mk (wks0 hq (by omega))
  clear hf
  have HR := Aside0.mk (Int.not_lt.1 hr)
  clear hr
  have hJ := fun (w' : World) (hw : PSt w0 w' S g mb n0 n1 L (.slice A (refL L).length c) (refL L) i W) => st_full (who := who) hw HK.out HF.out (Int.not_lt.2 HR.out)
  clear h hk
  go_enter Try.func15, Try.ntmps15
  go_wp2_with (first | (go_at_call 10; refine (hJ _ ?side1).mono ?_; (case side1 => exact H.out.below (boxedW_below w n0 n1 0 k who)); clear hJ; rintro e w2 ⟨rfl, h2, far2⟩; have bx := boxed_two (kd := 0) (k := k) (who := who) H.out far2; have e0 := gcell bx.1 0 _ rfl; have e1 := gcell bx.1 1 _ rfl; have e2 := gcell bx.2 1 _ rfl; have e3 := gcell bx.2 2 _ rfl; clear bx; have H2 := Aside0.mk h2; clear h2 far2) | (go_at_call 26; refine (st_rjoin H2.out (ref_join_full HLN.out HF.out (Int.not_lt.2 HR.out))).mono ?_; clear e0 e1 e2 e3; rintro e w3 ⟨B3, d3, rfl, h3, hb3⟩))
  go_ret2
  exact ⟨_, _, _, _, rfl, h3⟩
set_option maxRecDepth 100000 in
set_option maxHeartbeats 4000000 in
theorem do_leave_none (h : PSt w0 w S g mb n0 n1 L (.slice A (refL L).length c) (refL L) i W) (hi : i ≤ 200) (hi0 : 0 ≤ i) (hk : (Lit.int .i64 k).wf = true) (hf : findK L k = none) :
    Calls Try.prog 15 #[.pointer (some ⟨g, 0, none⟩), .slice A (refL L).length c, .agg #[.int .i64 n0, .int .i64 n1], .agg #[.int .i64 1, .int .i64 k, .int .i64 who]] w (Same w0 g mb n0 n1 (i + 1) W) := by
  have H := Aside0.mk h
  have HK := Aside0.mk hk
  have HLN := Aside0.mk (wks0 h.fits.n (by omega))
  have HF := Aside0.mk hf
  clear hf
  have hJ := fun (w' : World) (hw : PSt w0 w' S g mb n0 n1 L (.slice A (refL L).length c) (refL L) i W) => st_leave_none (who := who) hw HK.out HF.out
  clear h hk
  go_enter Try.func15, Try.ntmps15
  go_wp2_with (first | (go_at_call 11; refine (hJ _ ?side1).mono ?_; (case side1 => exact H.out.below (boxedW_below w n0 n1 1 k who)); clear hJ; rintro e w2 ⟨rfl, h2, far2⟩; have bx := boxed_two (kd := 1) (k := k) (who := who) H.out far2; have e0 := gcell bx.1 0 _ rfl; have e1 := gcell bx.1 1 _ rfl; have e2 := gcell bx.2 1 _ rfl; have e3 := gcell bx.2 2 _ rfl; clear bx; have H2 := Aside0.mk h2; clear h2 far2) | (go_at_call 27; refine (st_rleave H2.out (ref_leave_none HLN.out HF.out)).mono ?_; clear e0 e1 e2 e3; rintro e w3 ⟨B3, d3, rfl, h3, hb3⟩))
  go_ret2
  exact ⟨_, _, _, _, rfl, h3⟩
set_option maxRecDepth 100000 in
set_option maxHeartbeats 4000000 in
theorem do_leave_not (h : PSt w0 w S g mb n0 n1 L (.slice A (refL L).length c) (refL L) i W) (hi : i ≤ 200) (hi0 : 0 ≤ i) (hk : (Lit.int .i64 k).wf = true) (hf : findK L k = some f) (hm : who ∉ f.ws) :
    Calls Try.prog 15 #[.pointer (some ⟨g, 0, none⟩), .slice A (refL L).length c, .agg #[.int .i64 n0, .int .i64 n1], .agg #[.int .i64 1, .int .i64 k, .int .i64 who]] w (Same w0 g mb n0 n1 (i + 1) W) := by
  have H := Aside0.mk h
  have HK := Aside0.mk hk
  have HLN := Aside0.mk (wks0 h.fits.n (by omega))
  have HF := Aside0.mk hf
  have hq := h.fits.q f (findK_mem hf).1
  have HWN := Aside0.mk (wks0 hq (by omega))
  clear hf
  have HM := Aside0.mk hm
  clear hm
  have hJ := fun (w' : World) (hw : PSt w0 w' S g mb n0 n1 L (.slice A (refL L).length c) (refL L) i W) => st_leave_not hw (by omega) HK.out HF.out HM.out
  clear h hk
  go_enter Try.func15, Try.ntmps15
  go_wp2_with (first | (go_at_call 11; refine (hJ _ ?side1).mono ?_; (case side1 => exact H.out.below (boxedW_below w n0 n1 1 k who)); clear hJ; rintro e w2 ⟨rfl, h2, far2⟩; have bx := boxed_two (kd := 1) (k := k) (who := who) H.out far2; have e0 := gcell bx.1 0 _ rfl; have e1 := gcell bx.1 1 _ rfl; have e2 := gcell bx.2 1 _ rfl; have e3 := gcell bx.2 2 _ rfl; clear bx; have H2 := Aside0.mk h2; clear h2 far2) | (go_at_call 27; refine (st_rleave H2.out (ref_leave_not HLN.out HWN.out H.out.tab.apart HF.out HM.out)).mono ?_; clear e0 e1 e2 e3; rintro e w3 ⟨B3, d3, rfl, h3, hb3⟩))
  go_ret2
  exact ⟨_, _, _, _, rfl, h3⟩
set_option maxRecDepth 100000 in
set_option maxHeartbeats 4000000 in
theorem do_leave_some (h : PSt w0 w S g mb n0 n1 L (.slice A (refL L).length c) (refL L) i W) (hi : i ≤ 200) (hi0 : 0 ≤ i) (hk : (Lit.int .i64 k).wf = true) (hf : findK L k = some f) (hm : who ∈ f.ws) :
    Calls Try.prog 15 #[.pointer (some ⟨g, 0, none⟩), .slice A (refL L).length c, .agg #[.int .i64 n0, .int .i64 n1], .agg #[.int .i64 1, .int .i64 k, .int .i64 who]] w (Same w0 g mb n0 n1 (i + 1) W) := by
  have H := Aside0.mk h
  have HK := Aside0.mk hk
  have HLN := Aside0.mk (wks0 h.fits.n (by omega))
  have HF := Aside0.mk hf
  have hq := h.fits.q f (findK_mem hf).1
  have HWN := Aside0.mk (wks0 hq (by omega))
  clear hf
  have HM := Aside0.mk hm
  clear hm
  have hJ := fun (w' : World) (hw : PSt w0 w' S g mb n0 n1 L (.slice A (refL L).length c) (refL L) i W) => st_leave_some hw (by omega) HK.out HF.out HM.out
  clear h hk
  go_enter Try.func15, Try.ntmps15
  go_wp2_with (first | (go_at_call 11; refine (hJ _ ?side1).mono ?_; (case side1 => exact H.out.below (boxedW_below w n0 n1 1 k who)); clear hJ; rintro e w2 ⟨rfl, S2, v2, h2, far2, ns2⟩; have bx := boxed_two (kd := 1) (k := k) (who := who) H.out far2; have e0 := gcell bx.1 0 _ rfl; have e1 := gcell bx.1 1 _ rfl; have e2 := gcell bx.2 1 _ rfl; have e3 := gcell bx.2 2 _ rfl; clear bx; have H2 := Aside0.mk h2; clear h2 far2) | (go_at_call 27; refine (st_rleave H2.out (ref_leave_some HLN.out HWN.out H.out.tab.apart HF.out HM.out v2)).mono ?_; clear e0 e1 e2 e3; rintro e w3 ⟨B3, d3, rfl, h3, hb3⟩))
  go_ret2
  exact ⟨_, _, _, _, rfl, h3⟩
set_option maxRecDepth 100000 in
set_option maxHeartbeats 4000000 in
theorem do_end_none (h : PSt w0 w S g mb n0 n1 L (.slice A (refL L).length c) (refL L) i W) (hi : i ≤ 200) (hi0 : 0 ≤ i) (hk : (Lit.int .i64 k).wf = true) (hz : kd ≠ 0) (hz1 : kd ≠ 1) (hf : findK L k = none) :
    Calls Try.prog 15 #[.pointer (some ⟨g, 0, none⟩), .slice A (refL L).length c, .agg #[.int .i64 n0, .int .i64 n1], .agg #[.int .i64 kd, .int .i64 k, .int .i64 who]] w (Same w0 g mb n0 n1 (i + 1) W) := by
  have H := Aside0.mk h
  have HK := Aside0.mk hk
  have HLN := Aside0.mk (wks0 h.fits.n (by omega))
  have hz0b : decide (kd = 0) = false := decide_eq_false hz
  have hz1b : decide (kd = 1) = false := decide_eq_false hz1
  have HF := Aside0.mk hf
  clear hf
  have hJ := fun (w' : World) (hw : PSt w0 w' S g mb n0 n1 L (.slice A (refL L).length c) (refL L) i W) => st_end_none hw HK.out HF.out
  clear h hk
  go_enter Try.func15, Try.ntmps15
  go_wp2_with (first | (go_at_call 13; refine (hJ _ ?side1).mono ?_; (case side1 => exact H.out.below (boxedW_below w n0 n1 kd k who)); clear hJ; rintro e w2 ⟨rfl, h2, far2⟩; have bx := boxed_two (kd := kd) (k := k) (who := who) H.out far2; have e0 := gcell bx.1 0 _ rfl; have e1 := gcell bx.1 1 _ rfl; have e2 := gcell bx.2 1 _ rfl; have e3 := gcell bx.2 2 _ rfl; clear bx; have H2 := Aside0.mk h2; clear h2 far2) | (go_at_call 28; refine (st_rend H2.out (ref_end_none HLN.out HF.out)).mono ?_; clear e0 e1 e2 e3; rintro e w3 ⟨B3, d3, B4, d4, rfl, h3, hc4, hC4, hb3⟩; have H3 := Aside0.mk h3; have HC4 := Aside0.mk hC4; have HCC4 := Aside0.mk hc4; clear h3 hC4 hc4) | (go_at_call 14; refine (ints_same (Nat.zero_le _) (Kd.C_nil _ _) (Nat.le_refl _) (by repeat (first | exact HC4.out | (with_reducible refine Kd.C_alloc ?_ _) | (with_reducible refine Kd.C_drewN ?_ _) | (with_reducible refine Kd.C_drew ?_))) HCC4.out).mono ?_; rintro e w5 ⟨rfl, m5, rfl⟩))
  go_ret2
  exact ⟨_, _, _, _, rfl, (H3.out.below (below_alloc (Below.refl _ _) _)).drew _⟩
set_option maxRecDepth 100000 in
set_option maxHeartbeats 4000000 in
theorem do_end_some (h : PSt w0 w S g mb n0 n1 L (.slice A (refL L).length c) (refL L) i W) (hi : i ≤ 200) (hi0 : 0 ≤ i) (hk : (Lit.int .i64 k).wf = true) (hz : kd ≠ 0) (hz1 : kd ≠ 1) (hf : findK L k = some f) :
    Calls Try.prog 15 #[.pointer (some ⟨g, 0, none⟩), .slice A (refL L).length c, .agg #[.int .i64 n0, .int .i64 n1], .agg #[.int .i64 kd, .int .i64 k, .int .i64 who]] w (Same w0 g mb n0 n1 (i + 1) W) := by
  have H := Aside0.mk h
  have HK := Aside0.mk hk
  have HLN := Aside0.mk (wks0 h.fits.n (by omega))
  have hz0b : decide (kd = 0) = false := decide_eq_false hz
  have hz1b : decide (kd = 1) = false := decide_eq_false hz1
  have HF := Aside0.mk hf
  have hq := h.fits.q f (findK_mem hf).1
  have HWN := Aside0.mk (wks0 hq (by omega))
  clear hf
  have hJ := fun (w' : World) (hw : PSt w0 w' S g mb n0 n1 L (.slice A (refL L).length c) (refL L) i W) => st_end_some hw HK.out HF.out
  clear h hk
  go_enter Try.func15, Try.ntmps15
  go_wp2_with (first | (go_at_call 13; refine (hJ _ ?side1).mono ?_; (case side1 => exact H.out.below (boxedW_below w n0 n1 kd k who)); clear hJ; rintro e w2 ⟨A2, c2, S2, rfl, h2, hc2, hC2, far2, ns2⟩; have bx := boxed_two (kd := kd) (k := k) (who := who) H.out far2; have e0 := gcell bx.1 0 _ rfl; have e1 := gcell bx.1 1 _ rfl; have e2 := gcell bx.2 1 _ rfl; have e3 := gcell bx.2 2 _ rfl; clear bx; have H2 := Aside0.mk h2; have HC2 := Aside0.mk hC2; have HCC2 := Aside0.mk hc2; clear h2 far2 hC2 hc2) | (go_at_call 28; refine (st_rend H2.out (ref_end_some HLN.out H.out.tab.apart HF.out)).mono ?_; clear e0 e1 e2 e3; rintro e w3 ⟨B3, d3, B4, d4, rfl, h3, hc4, hC4, hb3⟩; have H3 := Aside0.mk h3; have HC4 := Aside0.mk hC4; have HCC4 := Aside0.mk hc4; clear h3 hC4 hc4) | (go_at_call 14; refine (ints_same (by have := HWN.out; omega) (by repeat (first | exact Kd.C_below HC2.out hb3 | (with_reducible refine Kd.C_alloc ?_ _) | (with_reducible refine Kd.C_drewN ?_ _) | (with_reducible refine Kd.C_drew ?_))) HCC2.out (by repeat (first | exact HC4.out | (with_reducible refine Kd.C_alloc ?_ _) | (with_reducible refine Kd.C_drewN ?_ _) | (with_reducible refine Kd.C_drew ?_))) HCC4.out).mono ?_; rintro e w5 ⟨rfl, m5, rfl⟩))
  go_ret2
  exact ⟨_, _, _, _, rfl, (H3.out.below (below_alloc (Below.refl _ _) _)).drew _⟩
theorem do_any {W : Int → Prop} (h : PSt w0 w S g mb n0 n1 L (.slice A (refL L).length c) (refL L) i W) (hi : i ≤ 200) (hi0 : 0 ≤ i) (hk : (Lit.int .i64 k).wf = true) (hw : W who) :
    Calls Try.prog 15 #[.pointer (some ⟨g, 0, none⟩), .slice A (refL L).length c, .agg #[.int .i64 n0, .int .i64 n1], .agg #[.int .i64 kd, .int .i64 k, .int .i64 who]] w (Same w0 g mb n0 n1 (i + 1) W) := by
  by_cases hz : kd = 0
  · subst hz
    cases hf : findK L k with
    | none =>
      by_cases hr : (L.length : Int) < n0
      · exact do_leads h hi hi0 hk hf hr
      · exact do_over h hi hi0 hk hf hr
    | some f =>
      by_cases hr : (f.ws.length : Int) < n1
      · exact do_waits h hi hi0 hk hf hr hw
      · exact do_full h hi hi0 hk hf hr
  · by_cases hz1 : kd = 1
    · subst hz1
      cases hf : findK L k with
      | none => exact do_leave_none h hi hi0 hk hf
      | some f =>
        by_cases hm : who ∈ f.ws
        · exact do_leave_some h hi hi0 hk hf hm
        · exact do_leave_not h hi hi0 hk hf hm
    · cases hf : findK L k with
      | none => exact do_end_none h hi hi0 hk hz hz1 hf
      | some f => exact do_end_some h hi hi0 hk hz hz1 hf
end
end Go.Proofs.Ytbonaoopkfcabaa.Own
