/- The table's Leave. -/
import Derived.Test.YtbonaoopkfcabaaOwnFlightE
import Derived.Test.YtbonaoopkfcabaaPFlightToldx1
import Derived.Lib.LazyBuf
namespace Go.Proofs.Ytbonaoopkfcabaa.Own
open Go.RowKit Go.Maps Go.Proofs.Ytbonaoopkfcabaa.PFlightTold Go.Proofs.YtbonaoopkfcabaaW.PrintWords Go.Proofs.YtbonaoopkfcabaaW.PrintLast Go.Proofs.YtbonaoopkfcabaaW.PrintMore
set_option linter.unusedVariables false
variable {w w1 : World} {S S' : Nat → Prop} {g mb : Nat} {most queue : Int} {L : List Fl}
theorem row_C {w : World} {base : Nat} {v : Value} {xs : List Int} (h : w.ownsRow base 3 1 v xs.length (xs.map (Value.int .i64))) : ∃ A c, v = .slice A xs.length c ∧ xs.length ≤ c ∧ Kd.C (Kd.int .i64) w A xs.length xs := by
  obtain ⟨A, c, rfl⟩ := row_shape h
  have hR : Kd.R (Kd.int .i64) 3 w base (fun _ => True) (.slice A xs.length c) xs := Kd.R_of_own h (fun _ _ => trivial)
  exact ⟨A, c, rfl, (Kd.R_reads' hR).2.1, (Kd.R_reads' hR).2.2⟩
theorem wrap64_small {i : Nat} (h : i ≤ 1000000) : wrap64 ((i : Int) + 1) = ((i + 1 : Nat) : Int) := by
  unfold wrap64
  omega
theorem rd_at {l : List Int} {i : Nat} (h : i < l.length) : rd l (i : Int) = l[i] := by
  unfold rd
  simp [h]
theorem index_loop (x0 : List Int) (x1 : Int) (hn : x0.length ≤ 1000000) : ∀ k i, i ≤ x0.length → x0.length - i < k →
    slices_Index_int_int.l0 k x0 x1 (x0.length : Int) (i : Int) = some (if x1 ∈ x0.drop i then ((i + (x0.drop i).idxOf x1 : Nat) : Int) else -1) := by
  intro k
  induction k with
  | zero => intro i _ h; omega
  | succ k ih =>
    intro i hi hk
    unfold slices_Index_int_int.l0
    by_cases hlt : i < x0.length
    · rw [if_pos (by omega), if_pos (by omega), if_pos (by omega), rd_at hlt]
      have hd := List.drop_eq_getElem_cons hlt
      have hI := ih (i + 1) (by omega) (by omega)
      generalize x0.drop (i + 1) = ys at hd hI
      generalize x0[i] = y at hd
      rw [hd]
      by_cases he : x1 = y
      · subst he
        rw [if_pos rfl, if_pos (List.mem_cons_self ..), List.idxOf_cons_self]
        rfl
      · rw [if_neg he, wrap64_small (by omega), hI]
        by_cases hm : x1 ∈ ys
        · rw [if_pos hm, if_pos (List.mem_cons_of_mem _ hm), List.idxOf_cons, show (y == x1) = false from by simpa using fun e : y = x1 => he e.symm, cond_false]
          congr 1
          omega
        · rw [if_neg hm, if_neg (fun e => by rcases List.mem_cons.1 e with e | e; exact he e; exact hm e)]
    · rw [if_neg (by omega), if_neg (by rw [List.drop_eq_nil_of_le (by omega)]; simp)]
theorem index_row {w : World} {base : Nat} {v : Value} {xs : List Int} (h : w.ownsRow base 3 1 v xs.length (xs.map (Value.int .i64))) (hn : xs.length ≤ 1000000) (x : Int) :
    Calls Try.prog 23 #[v, .int .i64 x] w fun e w' => e = .returned (.int .i64 (if x ∈ xs then (xs.idxOf x : Int) else -1)) ∧ ∃ m, w' = w.drewN m := by
  obtain ⟨A, c, rfl, hc, hC⟩ := row_C h
  refine (slices_Index_int_int.calls (xs.length + 1) A c xs x _ w hC hc (by unfold slices_Index_int_int.f; have := index_loop xs x hn (xs.length + 1) 0 (by omega) (by omega); simpa using this)).mono ?_
  rintro e w' ⟨rfl, hd⟩
  exact ⟨by simp, hd.out⟩
theorem setCells_block (b : Nat) (t : TypeId) : ∀ (vs : List Value) (o : Nat) (w : World) (cur : Array Value), w.heap[b]? = some (.cells cur t (0, 0)) → o + vs.length ≤ cur.size →
    ∃ cur', (w.setCells b o vs).heap[b]? = some (.cells cur' t (0, 0)) ∧ cur'.toList = cur.toList.take o ++ vs ++ cur.toList.drop (o + vs.length) := by
  intro vs
  induction vs with
  | nil => intro o w cur h hl; exact ⟨cur, h, by simp⟩
  | cons v r ih =>
    intro o w cur h hl
    rw [List.length_cons] at hl
    obtain ⟨cur', h1, h2⟩ := ih (o + 1) (w.setCell ⟨b, o, none⟩ v) (cur.setIfInBounds o v) (heap_setCell_same w b o cur t v h) (by rw [Array.size_setIfInBounds]; omega)
    refine ⟨cur', h1, ?_⟩
    rw [h2, Array.toList_setIfInBounds]
    have hlen : cur.toList.length = cur.size := Array.length_toList
    have e1 : (cur.toList.set o v).take (o + 1) = cur.toList.take o ++ [v] := by
      rw [List.take_succ_eq_append_getElem (by rw [List.length_set]; omega), List.take_set_of_le (Nat.le_refl _)]
      simp
    rw [e1, List.drop_set_of_lt (by omega), List.length_cons]
    simp [Nat.add_assoc, Nat.add_comm 1]
theorem del_row {w : World} {base : Nat} {v : Value} {xs : List Int} (h : w.ownsRow base 3 1 v xs.length (xs.map (Value.int .i64))) (i : Nat) (hi : i < xs.length) (hn : xs.length ≤ 1000000) :
    Calls Try.prog 24 #[v, .int .i64 (i : Int), .int .i64 ((i + 1 : Nat) : Int)] w fun e w1 => ∃ v', e = .returned v' ∧ w1.ownsRow base 3 1 v' (xs.eraseIdx i).length ((xs.eraseIdx i).map (Value.int .i64)) ∧ Below base w w1 := by
  obtain ⟨_, h2⟩ := h
  rcases h2 with ⟨rfl, h0⟩ | ⟨g, cap, cur, rfl, hg, hh, h5, h6, h7, h8⟩
  · omega
  · have hc : cap ≤ 9223372036854775807 := by have := h6; unfold maxLen at this; omega
    refine (Try.slices_Delete_int_cells g 0 xs.length cap i (i + 1) xs w (Nat.le_refl _) h5 hc (Nat.le_succ _) hi (fun j hj => row_cells (base := base) (cap := cap) hh h8 j hj) (fun j _ => gfroz hh _)).mono ?_
    rintro e w1 ⟨rfl, q, rfl⟩
    have hlen : (List.map (Value.int .i64) (List.take i (List.take xs.length xs) ++ List.drop (i + 1) (List.take xs.length xs) ++ List.replicate (i + 1 - i) 0)).length = xs.length := by simp; omega
    have he : xs.eraseIdx i = xs.take i ++ xs.drop (i + 1) := List.eraseIdx_eq_take_drop_succ ..
    have hel : (xs.eraseIdx i).length = xs.length - (i + 1 - i) := by rw [List.length_eraseIdx_of_lt hi]; omega
    obtain ⟨cur', k1, k2⟩ := setCells_block g 3 _ 0 (w.drewN q) cur hh (by rw [hlen]; simp at h7; omega)
    refine ⟨_, rfl, ⟨by simp, .inr ⟨g, cap, cur', ?_, hg, k1, ?_, h6, ?_, ?_⟩⟩, ?_⟩
    · rw [hel]
    · omega
    · have := congrArg List.length k2
      rw [List.length_append, List.length_append, hlen] at this
      simp at this h7
      simp
      omega
    · rw [k2, he, hlen]
      simp
      rw [← List.append_assoc, List.take_append_of_le_length (by simp), List.take_of_length_le (by simp)]
    · exact Go.below_setCells hg _ _ _ ⟨rfl, rfl, rfl, Nat.le_refl _, fun _ _ => rfl⟩
theorem row_low {w : World} {base e n : Nat} {v : Value} {xs : List Value} (h : w.ownsRow base e 1 v n xs) : w.ownsRow 0 e 1 v n xs :=
  ⟨h.1, h.2.imp id fun ⟨g, cap, cur, h1, h2, h3⟩ => ⟨g, cap, cur, h1, Nat.zero_le _, h3⟩⟩
theorem leave_nil (k who : Int) (w : World) : Calls Try.prog 11 #[.pointer none, .int .i64 k, .int .i64 who] w fun e w1 => e = .returned (.bool false) ∧ w1 = w := by
  go_enter Try.func11, Try.ntmps11
  go_wp2_with (go_at_call 22; refine (of_nil k _).mono ?_; rintro e w1 ⟨rfl, rfl⟩)
  go_ret
  exact ⟨rfl, rfl⟩
theorem leave_none {k who : Int} (h : Tab w S g mb most queue L) (hk : (Lit.int .i64 k).wf = true) (hf : findK L k = none) :
    Calls Try.prog 11 #[.pointer (some ⟨g, 0, none⟩), .int .i64 k, .int .i64 who] w fun e w1 => e = .returned (.bool false) ∧ w1 = w := by
  have H := of_at h hk
  rw [ptrOf_none hf] at H
  go_enter Try.func11, Try.ntmps11
  go_wp2_with (go_at_call 22; refine H.mono ?_; rintro e w1 ⟨rfl, rfl⟩)
  go_ret
  exact ⟨rfl, rfl⟩
theorem leave_not {k who : Int} (h : Tab w S g mb most queue L) (hk : (Lit.int .i64 k).wf = true) {f : Fl} (hf : findK L k = some f) (hm : who ∉ f.ws) (hn : f.ws.length ≤ 1000000) :
    Calls Try.prog 11 #[.pointer (some ⟨g, 0, none⟩), .int .i64 k, .int .i64 who] w fun e w1 => e = .returned (.bool false) ∧ Below w.heap.size w w1 := by
  have H := of_at h hk
  rw [ptrOf_some hf] at H
  have F := h.fl f (findK_mem hf).1
  obtain ⟨A, c, hfv⟩ := row_shape F.row
  have d1 : w.cell? ⟨f.b, 1, none⟩ = some (.slice A f.ws.length c) := by rw [← hfv]; exact gcell F.blk 1 _ rfl
  have R := index_row F.row hn who
  rw [if_neg hm, hfv] at R
  go_enter Try.func11, Try.ntmps11
  go_wp2_with (first | (go_at_call 22; refine H.mono ?_; rintro e w1 ⟨rfl, rfl⟩) | (go_at_call 23; refine R.mono ?_; rintro e w2 ⟨rfl, m, rfl⟩))
  go_ret
  exact ⟨rfl, ⟨rfl, rfl, rfl, Nat.le_refl _, fun _ _ => rfl⟩⟩
set_option maxHeartbeats 1000000 in
theorem leave_some {k who : Int} (h : Tab w S g mb most queue L) (hk : (Lit.int .i64 k).wf = true) {f : Fl} (hf : findK L k = some f) (hm : who ∈ f.ws) (hn : f.ws.length ≤ 1000000) :
    Calls Try.prog 11 #[.pointer (some ⟨g, 0, none⟩), .int .i64 k, .int .i64 who] w fun e w1 => e = .returned (.bool true) ∧
      ∃ v', Tab w1 (grow S w w1) g mb most queue (upd L k (f.ws.erase who) v') ∧ Turn w w1 S := by
  have H := of_at h hk
  rw [ptrOf_some hf] at H
  have F := h.fl f (findK_mem hf).1
  obtain ⟨A, c, hfv⟩ := row_shape F.row
  have d1 : w.cell? ⟨f.b, 1, none⟩ = some (.slice A f.ws.length c) := by rw [← hfv]; exact gcell F.blk 1 _ rfl
  have R0 := index_row F.row hn who
  rw [if_pos hm, hfv] at R0
  obtain ⟨i, hi, R, hera⟩ : ∃ i : Nat, i < f.ws.length ∧ Calls Try.prog 23 #[.slice A f.ws.length c, .int .i64 who] w (fun e w' => e = .returned (.int .i64 (i : Int)) ∧ ∃ m, w' = w.drewN m) ∧ f.ws.eraseIdx i = f.ws.erase who :=
    ⟨_, List.idxOf_lt_length_of_mem hm, R0, (List.erase_eq_eraseIdx_of_idxOf rfl).symm⟩
  clear R0
  have C := fun m => clone_row (w := w.drewN m) F.row hn
  rw [hfv] at C
  have D : ∀ (w : World) (base : Nat) (v : Value), w.ownsRow base 3 1 v f.ws.length (f.ws.map (Value.int .i64)) → Calls Try.prog 24 #[v, .int .i64 (i : Int), .int .i64 ((i : Int) + 1)] w fun e w1 => ∃ v', e = .returned v' ∧ w1.ownsRow base 3 1 v' (f.ws.eraseIdx i).length ((f.ws.eraseIdx i).map (Value.int .i64)) ∧ Below base w w1 := fun w base v hr => del_row hr i hi hn
  go_enter Try.func11, Try.ntmps11
  go_wp2_with (first | (go_at_call 22; refine H.mono ?_; rintro e w1 ⟨rfl, rfl⟩) | (go_at_call 23; refine R.mono ?_; rintro e w2 ⟨rfl, m, rfl⟩) | (go_at_call 25; refine (C _).mono ?_; rintro e w2 ⟨v2, rfl, r2, hb2⟩) | (go_at_call 24; refine (D _ _ _ r2).mono ?_; rintro e w3 ⟨v3, rfl, r3, hb3⟩; obtain ⟨A3, c3, rfl⟩ := row_shape r3; have hb := hb2.trans hb3; have b3 := (hb.block f.b (heap_lt F.blk)).trans F.blk; have e3 := gcell b3 1 _ rfl; have f3 := gfroz b3 1))
  go_ret
  have hlen : (f.ws.eraseIdx i).length = f.ws.length - 1 := List.length_eraseIdx_of_lt hi
  rw [hera] at r3 hlen
  have r4 : w3.ownsRow w1.heap.size 3 1 (.slice A3 (f.ws.length - 1) c3) (f.ws.erase who).length ((f.ws.erase who).map (Value.int .i64)) := by rw [← hlen]; exact r3
  have r5 : w3.ownsRow 0 3 1 (.slice A3 (f.ws.length - 1) c3) (f.ws.erase who).length ((f.ws.erase who).map (Value.int .i64)) := row_low r4
  exact ⟨rfl, _, h.stored hf b3 r5 (fun b hb => .inr (r4.lt b hb).1) (fun b hlt _ => hb.block b hlt) hb.os hb.tape hb.output hb.size⟩
end Go.Proofs.Ytbonaoopkfcabaa.Own
