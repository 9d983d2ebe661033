/- What the table's functions answer, each by a walk of its own: New, Leader, Len, Waiters, End. -/
import Derived.Test.YtbonaoopkfcabaaOwnFlightB
import Derived.Carry
import Derived.Test.YtbonaoopkfcabaaOwnShelf
namespace Go.Proofs.Ytbonaoopkfcabaa.Own
open Go.RowKit Go.Maps Go.Proofs.Ytbonaoopkfcabaa.PFlightPlays Go.Proofs.YtbonaoopkfcabaaW.PrintWords Go.Proofs.YtbonaoopkfcabaaW.PrintLast Go.Proofs.YtbonaoopkfcabaaW.PrintMore
set_option linter.unusedVariables false
variable {w w1 : World} {S S' : Nat → Prop} {g mb : Nat} {most queue : Int} {L : List Fl}
theorem leader_nil (k : Int) (w : World) : Calls Try.prog 17 #[.pointer none, .int .i64 k] w fun e w1 => e = .returned (.tuple #[.int .i64 0, .bool false]) ∧ w1 = w := by
  go_enter Try.func17, Try.ntmps17
  go_wp2_with (go_at_call 22; refine (of_nil k _).mono ?_; rintro e w1 ⟨rfl, rfl⟩)
  go_ret2
  exact ⟨rfl, rfl⟩
theorem leader_none {k : Int} (h : Tab w S g mb most queue L) (hk : (Lit.int .i64 k).wf = true) (hf : findK L k = none) :
    Calls Try.prog 17 #[.pointer (some ⟨g, 0, none⟩), .int .i64 k] w fun e w1 => e = .returned (.tuple #[.int .i64 0, .bool false]) ∧ w1 = w := by
  have H := of_at h hk
  rw [ptrOf_none hf] at H
  go_enter Try.func17, Try.ntmps17
  go_wp2_with (go_at_call 22; refine H.mono ?_; rintro e w1 ⟨rfl, rfl⟩)
  go_ret2
  exact ⟨rfl, rfl⟩
theorem leader_some {k : Int} (h : Tab w S g mb most queue L) (hk : (Lit.int .i64 k).wf = true) {f : Fl} (hf : findK L k = some f) :
    Calls Try.prog 17 #[.pointer (some ⟨g, 0, none⟩), .int .i64 k] w fun e w1 => e = .returned (.tuple #[.int .i64 f.lead, .bool true]) ∧ w1 = w := by
  have H := of_at h hk
  rw [ptrOf_some hf] at H
  have c0 := gcell (h.fl f (findK_mem hf).1).blk 0 _ rfl
  go_enter Try.func17, Try.ntmps17
  go_wp2_with (go_at_call 22; refine H.mono ?_; rintro e w1 ⟨rfl, rfl⟩)
  go_ret2
  exact ⟨rfl, rfl⟩
theorem len_nil (w : World) : Calls Try.prog 19 #[.pointer none] w fun e w1 => e = .returned (.int .i64 0) ∧ w1 = w := by
  go_enter Try.func19, Try.ntmps19
  go_wp2
  go_ret
  exact ⟨rfl, rfl⟩
theorem wpList_len_run (w : World) {ops : Array Oper} {rest : List Oper} {o : Oper} {a : Act} {Q : Exit → Act → World → Prop} (hg : o.guard = none) (m : Operand) (t : TypeId) (hop : o.op = Op.call { callee := Callee.builtin Builtin.len, args := #[m], argTypes := #[t] }) (M V : Value)
    (hm : a.eval m = M) (hrun : (Builtin.len_ #[t] o.type #[M]).run Try.prog w = .ok V w)
    (hK : wpList Try.prog ops Q rest (a.put o.dst V) w) : wpList Try.prog ops Q (o :: rest) a w := by
  refine wpList_plain hg fun K' hK' => ?_
  unfold Oper.wp
  simp [execOp, hop, resolve, invoke, builtin, hm, hrun, Result.andThen]
  exact hK' _ _ hK
theorem len_at (h : Tab w S g mb most queue L) : Calls Try.prog 19 #[.pointer (some ⟨g, 0, none⟩)] w fun e w1 => e = .returned (.int .i64 (L.length : Int)) ∧ w1 = w := by
  have c0 := gcell h.head 0 _ rfl
  have hl := h.len
  go_enter Try.func19, Try.ntmps19
  go_wp2_with (at_len; refine wpList_len_run _ rfl _ _ rfl _ _ rfl (hl _) ?_)
  go_ret
  exact ⟨rfl, rfl⟩
theorem new_not (n q : Int) (hn : n < 1 ∨ q < 0) (w : World) : Calls Try.prog 9 #[.int .i64 n, .int .i64 q] w fun e w1 => e = .returned (.pointer none) ∧ w1 = w := by
  by_cases h1 : n < 1
  · go_enter Try.func9, Try.ntmps9
    go_wp2
    go_ret
    exact ⟨rfl, rfl⟩
  · have h2 : q < 0 := by omega
    go_enter Try.func9, Try.ntmps9
    go_wp2
    go_ret
    exact ⟨rfl, rfl⟩
theorem al (w : World) (o : Obj) : (w.alloc o).heap = w.heap.push o := rfl
/-- a new table's own blocks -/
theorem new_at (n q : Int) (hn : 1 ≤ n) (hq : 0 ≤ q) (w : World) : Calls Try.prog 9 #[.int .i64 n, .int .i64 q] w fun e w1 => ∃ g mb, e = .returned (.pointer (some ⟨g, 0, none⟩)) ∧ Tab w1 (fun b => w.heap.size ≤ b ∧ b < w1.heap.size) g mb n q [] ∧ Below w.heap.size w w1 := by
  have h1 : ¬ n < 1 := by omega
  have h2 : ¬ q < 0 := by omega
  have hmm := @run_makeMap Try.prog
  go_enter Try.func9, Try.ntmps9
  go_wp2
  go_ret
  have e0 : ((w.alloc (.map #[] 0)).alloc (.cells #[.map (some w.heap.size), .int .i64 n, .int .i64 q] 54)).heap[w.heap.size]? = some (.map #[] 0) := by simp [al, Array.getElem?_push]
  have e1 : ((w.alloc (.map #[] 0)).alloc (.cells #[.map (some w.heap.size), .int .i64 n, .int .i64 q] 54)).heap[w.heap.size + 1]? = some (.cells #[.map (some w.heap.size), .int .i64 n, .int .i64 q] 54 (0, 0)) := by rw [al, al, Array.getElem?_push, if_pos (by simp)]
  have e2 : ((w.alloc (.map #[] 0)).alloc (.cells #[.map (some w.heap.size), .int .i64 n, .int .i64 q] 54)).heap.size = w.heap.size + 2 := by simp [al]
  refine ⟨_, rfl, ⟨w.heap.size, e1, ⟨by omega, by omega⟩, ⟨by omega, by omega⟩, ⟨.map [], ?_, fun k hk z => rfl, rfl⟩, fun f hf => by simp at hf, List.Pairwise.nil, fun f hf => by simp at hf⟩, ?_⟩
  · exact (World.ownsMap_made w Try.prog 3 ptrR).alloc _
  · exact ⟨rfl, rfl, rfl, by omega, fun i hi => by rw [al, al, Array.getElem?_push, if_neg (by simp; omega), Array.getElem?_push, if_neg (by omega)]⟩
theorem end_nil (k : Int) (w : World) : Calls Try.prog 13 #[.pointer none, .int .i64 k] w fun e w1 => e = .returned (.tuple #[.int .i64 0, .slice none 0 0, .bool false]) ∧ w1 = w := by
  go_enter Try.func13, Try.ntmps13
  go_wp2_with (go_at_call 22; refine (of_nil k _).mono ?_; rintro e w1 ⟨rfl, rfl⟩)
  go_ret3
  exact ⟨rfl, rfl⟩
theorem end_none {k : Int} (h : Tab w S g mb most queue L) (hk : (Lit.int .i64 k).wf = true) (hf : findK L k = none) :
    Calls Try.prog 13 #[.pointer (some ⟨g, 0, none⟩), .int .i64 k] w fun e w1 => e = .returned (.tuple #[.int .i64 0, .slice none 0 0, .bool false]) ∧ w1 = w := by
  have H := of_at h hk
  rw [ptrOf_none hf] at H
  go_enter Try.func13, Try.ntmps13
  go_wp2_with (go_at_call 22; refine H.mono ?_; rintro e w1 ⟨rfl, rfl⟩)
  go_ret3
  exact ⟨rfl, rfl⟩
theorem end_some {k : Int} (h : Tab w S g mb most queue L) (hk : (Lit.int .i64 k).wf = true) {f : Fl} (hf : findK L k = some f) :
    Calls Try.prog 13 #[.pointer (some ⟨g, 0, none⟩), .int .i64 k] w fun e w1 => e = .returned (.tuple #[.int .i64 f.lead, f.v, .bool true]) ∧
      Tab w1 S g mb most queue (L.filter fun x => !decide (x.k = k)) ∧ FlAt w1 S f ∧ Turn w w1 S := by
  have H := of_at h hk
  rw [ptrOf_some hf] at H
  obtain ⟨D, d1, d2, d3⟩ := h.map
  have c0 := gcell h.head 0 _ rfl
  have F := h.fl f (findK_mem hf).1
  have hmb : ∃ es cl, w.heap[mb]? = some (.map es cl) := by obtain ⟨es, cl, hb, _⟩ := d1; exact ⟨es, cl, hb⟩
  go_enter Try.func13, Try.ntmps13
  go_wp2_with (first | (go_at_call 22; refine H.mono ?_; rintro e w1 ⟨rfl, rfl⟩) | (at_delete; refine wpList_delete_own _ rfl _ _ 52 3 rfl 55 keyed3 Try.underlying52 ptrR mb _ D rfl d1 _ _ rfl (keyOf_int_mk Try.underlying3 hk) ?_; intro w2 hown hturn; have F2 := F.stepm hmb (fun b _ hlt hne => turned_other hturn hne hlt); have c1 := gcell F2.blk 0 _ rfl; have c2 := gcell F2.blk 1 _ rfl))
  go_quiet (fail)
  go_wp2
  go_ret3
  refine ⟨rfl, ?_, F2.step (fun _ _ _ => rfl), ?_⟩
  · exact (h.del hf hk d2 d3 (d1.tidy keyed3) hown (fun b _ hlt hne => turned_other hturn hne hlt)).drewN _
  · have q := hturn.grown
    exact ⟨q.os, q.tape, q.output, q.size, fun i hi hn => q.block i hi (fun e => hn (by injection e with e; rw [e]; exact h.mS))⟩
theorem row_cells {w : World} {base e : Nat} {g cap : Nat} {cur : Array Value} {xs : List Int} (hh : w.heap[g]? = some (.cells cur e (0, 0))) (ht : cur.toList.take (xs.length * 1) = xs.map (Value.int .i64)) (j : Nat) (hj : j < xs.length) :
    w.cell? ⟨g, 0 + j, none⟩ = some (.int .i64 (xs.getD j 0)) := by
  refine gcell hh _ _ ?_
  have h1 : (cur.toList.take (xs.length * 1))[j]? = cur.toList[j]? := List.getElem?_take_of_lt (by omega)
  rw [ht] at h1
  rw [Nat.zero_add, ← Array.getElem?_toList, ← h1, List.getElem?_map, List.getD_eq_getElem?_getD, List.getElem?_eq_getElem hj]
  rfl
theorem clone_row {w : World} {base : Nat} {v : Value} {xs : List Int} (h : w.ownsRow base 3 1 v xs.length (xs.map (Value.int .i64))) (hbig : xs.length ≤ 1000000) :
    Calls Try.prog 25 #[v] w fun e w1 => ∃ v', e = .returned v' ∧ w1.ownsRow w.heap.size 3 1 v' xs.length (xs.map (Value.int .i64)) ∧ Below w.heap.size w w1 := by
  obtain ⟨_, h2⟩ := h
  rcases h2 with ⟨rfl, h0⟩ | ⟨g, cap, cur, rfl, hg, hh, h5, h6, h7, h8⟩
  · refine (Try.slices_Clone_int_nil 0 0 w).mono ?_
    rintro e w1 ⟨rfl, rfl⟩
    exact ⟨_, rfl, ⟨by simp, .inl ⟨rfl, h0⟩⟩, Below.refl _ _⟩
  · refine (Try.slices_Clone_int g 0 xs.length cap xs w (Nat.le_refl _) (by omega) (fun j hj => row_cells (base := base) (cap := cap) hh h8 j hj)).mono ?_
    rintro e w1 ⟨v', rfl, k1, k2, k3⟩
    rw [List.take_length] at k1
    exact ⟨v', rfl, k1, k3⟩
theorem waiters_nil (k : Int) (w : World) : Calls Try.prog 16 #[.pointer none, .int .i64 k] w fun e w1 => e = .returned (.slice none 0 0) ∧ w1 = w := by
  go_enter Try.func16, Try.ntmps16
  go_wp2_with (go_at_call 22; refine (of_nil k _).mono ?_; rintro e w1 ⟨rfl, rfl⟩)
  go_ret
  exact ⟨rfl, rfl⟩
theorem waiters_none {k : Int} (h : Tab w S g mb most queue L) (hk : (Lit.int .i64 k).wf = true) (hf : findK L k = none) :
    Calls Try.prog 16 #[.pointer (some ⟨g, 0, none⟩), .int .i64 k] w fun e w1 => e = .returned (.slice none 0 0) ∧ w1 = w := by
  have H := of_at h hk
  rw [ptrOf_none hf] at H
  go_enter Try.func16, Try.ntmps16
  go_wp2_with (go_at_call 22; refine H.mono ?_; rintro e w1 ⟨rfl, rfl⟩)
  go_ret
  exact ⟨rfl, rfl⟩
theorem waiters_some {k : Int} (h : Tab w S g mb most queue L) (hk : (Lit.int .i64 k).wf = true) {f : Fl} (hf : findK L k = some f) (hn : f.ws.length ≤ 1000000) :
    Calls Try.prog 16 #[.pointer (some ⟨g, 0, none⟩), .int .i64 k] w fun e w1 => ∃ v', e = .returned v' ∧ w1.ownsRow w.heap.size 3 1 v' f.ws.length (f.ws.map (Value.int .i64)) ∧ Below w.heap.size w w1 := by
  have H := of_at h hk
  rw [ptrOf_some hf] at H
  have F := h.fl f (findK_mem hf).1
  have c1 := gcell F.blk 1 _ rfl
  have R := clone_row F.row hn
  go_enter Try.func16, Try.ntmps16
  go_wp2_with (first | (go_at_call 22; refine H.mono ?_; rintro e w1 ⟨rfl, rfl⟩) | (go_at_call 25; refine R.mono ?_; rintro e w1 ⟨v', rfl, k1, k2⟩))
  go_ret
  exact ⟨v', rfl, k1, k2⟩
end Go.Proofs.Ytbonaoopkfcabaa.Own
