/- The table's Join: somebody leads, or finds no room. -/
import Derived.Test.YtbonaoopkfcabaaOwnFlightD
namespace Go.Proofs.Ytbonaoopkfcabaa.Own
open Go.RowKit Go.Maps Go.Proofs.Ytbonaoopkfcabaa.PFlightPlays Go.Proofs.YtbonaoopkfcabaaW.PrintWords Go.Proofs.YtbonaoopkfcabaaW.PrintLast Go.Proofs.YtbonaoopkfcabaaW.PrintMore
set_option linter.unusedVariables false
variable {w w1 : World} {S S' : Nat → Prop} {g mb : Nat} {most queue : Int} {L : List Fl}
theorem quiet_len {ops : Array Oper} {C : World → Prop} {Q : Act → Prop} {a : Act} {o : Oper} {rest : List Oper} (hw : Region.wanted o (yielded ops a.tmps) = true) (m : Operand) (t : TypeId)
    (hop : o.op = Op.call { callee := Callee.builtin Builtin.len, args := #[m], argTypes := #[t] }) (M V : Value) (hm : a.eval m = M) (hrun : ∀ w', C w' → (Builtin.len_ #[t] o.type #[M]).run Try.prog w' = .ok V w')
    (hK : wpQuiet Try.prog ops C Q rest (a.put o.dst V)) : wpQuiet Try.prog ops C Q (o :: rest) a := by
  refine wpQuiet_step fun K hK' => ?_
  rw [if_pos hw]
  refine ⟨V, fun w' hw' => ?_, hK' _ hK⟩
  unfold Oper.quietAt
  simp [execOp, hop, resolve, invoke, builtin, hm, hrun w' hw', Result.andThen, Oper.quietUpon]
set_option maxHeartbeats 1000000 in
theorem join_full {k who : Int} (h : Tab w S g mb most queue L) (hk : (Lit.int .i64 k).wf = true) {f : Fl} (hf : findK L k = some f) (hq : ¬ (f.ws.length : Int) < queue) :
    Calls Try.prog 10 #[.pointer (some ⟨g, 0, none⟩), .int .i64 k, .int .i64 who] w fun e w1 => e = .returned (.int .i64 0) ∧ Below w.heap.size w w1 := by
  have H := of_at h hk
  rw [ptrOf_some hf] at H
  have F := h.fl f (findK_mem hf).1
  have c0 : w.cell? ⟨g, 0, none⟩ = some (.map (some mb)) := gcell h.head 0 _ rfl
  have c1 : w.cell? ⟨g, 1, none⟩ = some (.int .i64 most) := gcell h.head 1 _ rfl
  have c2 : w.cell? ⟨g, 2, none⟩ = some (.int .i64 queue) := gcell h.head 2 _ rfl
  obtain ⟨A, c, hfv⟩ := row_shape F.row
  have d1 : w.cell? ⟨f.b, 1, none⟩ = some (.slice A f.ws.length c) := by rw [← hfv]; exact gcell F.blk 1 _ rfl
  have hq1 : decide ((f.ws.length : Int) < queue) = false := decide_eq_false hq
  go_enter Try.func10, Try.ntmps10
  go_wp2_with (first | (go_at_call 22; refine H.mono ?_; rintro e w1 ⟨rfl, rfl⟩))
  go_quiet (fail)
  go_wp2
  go_quiet (fail)
  go_wp2
  go_ret
  exact ⟨rfl, ⟨rfl, rfl, rfl, Nat.le_refl _, fun _ _ => rfl⟩⟩
set_option maxHeartbeats 1000000 in
theorem join_over {k who : Int} (h : Tab w S g mb most queue L) (hk : (Lit.int .i64 k).wf = true) (hf : findK L k = none) (hq : ¬ (L.length : Int) < most) :
    Calls Try.prog 10 #[.pointer (some ⟨g, 0, none⟩), .int .i64 k, .int .i64 who] w fun e w1 => e = .returned (.int .i64 0) ∧ Below w.heap.size w w1 := by
  have H := of_at h hk
  rw [ptrOf_none hf] at H
  have c0 : w.cell? ⟨g, 0, none⟩ = some (.map (some mb)) := gcell h.head 0 _ rfl
  have c1 : w.cell? ⟨g, 1, none⟩ = some (.int .i64 most) := gcell h.head 1 _ rfl
  have c2 : w.cell? ⟨g, 2, none⟩ = some (.int .i64 queue) := gcell h.head 2 _ rfl
  have hl := fun m n => ((h.drewN m).drewN n).len
  have hq1 : decide ((L.length : Int) < most) = false := decide_eq_false hq
  go_enter Try.func10, Try.ntmps10
  go_wp2_with (first | (go_at_call 22; refine H.mono ?_; rintro e w1 ⟨rfl, rfl⟩))
  go_quiet (fail)
  go_wp2
  refine wp_region_quiet_lit (by kernel_rfl) (by kernel_rfl) ?_
  repeat (go_big_quiet_step (fail))
  refine quiet_len rfl _ _ rfl _ _ rfl (fun w' hw' => by obtain ⟨n, rfl⟩ := hw'; exact hl _ _ _) ?_
  go_frame
  repeat (go_big_quiet_step (fail))
  refine wpQuiet_nil ?_
  intro w2 hw2
  obtain ⟨n2, rfl⟩ := hw2
  go_wp2
  go_ret
  exact ⟨rfl, ⟨rfl, rfl, rfl, Nat.le_refl _, fun _ _ => rfl⟩⟩
theorem ptrR_mk (b : Nat) : ptrR (.pointer (some ⟨b, 0, none⟩)) = some (.lit (.int .i64 (b : Int)), []) := rfl
set_option maxHeartbeats 1000000 in
theorem join_leads {k who : Int} (h : Tab w S g mb most queue L) (hk : (Lit.int .i64 k).wf = true) (hf : findK L k = none) (hq : (L.length : Int) < most) (hn : L.length ≤ 1000000) :
    Calls Try.prog 10 #[.pointer (some ⟨g, 0, none⟩), .int .i64 k, .int .i64 who] w fun e w1 => e = .returned (.int .i64 1) ∧
      ∃ b, Tab w1 (grow S w w1) g mb most queue (L ++ [⟨k, who, [], b, .slice none 0 0⟩]) ∧ Turn w w1 S := by
  have H := of_at h hk
  rw [ptrOf_none hf] at H
  have c0 : w.cell? ⟨g, 0, none⟩ = some (.map (some mb)) := gcell h.head 0 _ rfl
  have c1 : w.cell? ⟨g, 1, none⟩ = some (.int .i64 most) := gcell h.head 1 _ rfl
  have c2 : w.cell? ⟨g, 2, none⟩ = some (.int .i64 queue) := gcell h.head 2 _ rfl
  have hl := fun m n => ((h.drewN m).drewN n).len
  have hq1 : decide ((L.length : Int) < most) = true := decide_eq_true hq
  obtain ⟨D, d1, d2, d3⟩ := h.map
  go_enter Try.func10, Try.ntmps10
  go_wp2_with (first | (go_at_call 22; refine H.mono ?_; rintro e w1 ⟨rfl, rfl⟩))
  go_quiet (fail)
  go_wp2
  refine wp_region_quiet_lit (by kernel_rfl) (by kernel_rfl) ?_
  repeat (go_big_quiet_step (fail))
  refine quiet_len rfl _ _ rfl _ _ rfl (fun w' hw' => by obtain ⟨n, rfl⟩ := hw'; exact hl _ _ _) ?_
  go_frame
  repeat (go_big_quiet_step (fail))
  refine wpQuiet_nil ?_
  intro w2 hw2
  obtain ⟨n2, rfl⟩ := hw2
  go_wp2_with (first | (at_mapUpdate; refine wpList_mapUpdate_in _ rfl _ _ _ 52 rfl 3 55 keyed3 Try.underlying52 ptrR mb _ D rfl (World.ownsMap.alloc (show World.ownsMap ((w1.drewN nq).drewN n2) Try.prog 3 ptrR mb L.length D from d1) _) (by unfold maxLen; omega) _ _ _ rfl rfl (keyOf_int_mk Try.underlying3 hk) _ _ (ptrR_mk _) ?_; intro w3 hown hturn))
  go_ret
  have q := hturn.grown
  have hsz : w1.heap.size + 1 ≤ w3.heap.size := by have := q.size; rw [al, Array.size_push] at this; exact this
  have hmb := d1.lt
  have hkeep : ∀ b, b < w1.heap.size → b ≠ mb → w3.heap[b]? = w1.heap[b]? := fun b hlt hne => by
    rw [turned_other hturn hne (by rw [al, Array.size_push]; exact Nat.lt_succ_of_lt hlt), al, Array.getElem?_push, if_neg (by show ¬ b = w1.heap.size; omega)]
    rfl
  refine ⟨rfl, w1.heap.size, h.add hf hk (Nat.le_refl _) d2 d3 (d1.tidy keyed3) hown ?_ (fun b hb => .inl hb) (.inr ⟨Nat.le_refl _, hsz⟩) (fun b _ hlt hne => hkeep b hlt hne), ⟨q.os, q.tape, q.output, by omega, fun i hi hn => hkeep i hi (fun e => hn (e ▸ h.mS))⟩⟩
  rw [turned_other hturn (by omega) (by rw [al, Array.size_push]; exact Nat.lt_succ_self _), al]
  exact Array.getElem?_push_size
end Go.Proofs.Ytbonaoopkfcabaa.Own
