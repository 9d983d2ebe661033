/- The table's Join, where somebody waits. -/
import Derived.Test.YtbonaoopkfcabaaOwnFlightC
import Derived.Maps.AppendAt
namespace Go.Proofs.Ytbonaoopkfcabaa.Own
open Go.RowKit Go.Maps Go.Proofs.Ytbonaoopkfcabaa.PFlightPlays Go.Proofs.YtbonaoopkfcabaaW.PrintWords Go.Proofs.YtbonaoopkfcabaaW.PrintLast Go.Proofs.YtbonaoopkfcabaaW.PrintMore
set_option linter.unusedVariables false
variable {w w1 : World} {S S' : Nat → Prop} {g mb : Nat} {most queue : Int} {L : List Fl}
/-- 'f.waiters = v' at the end of a turn -/
theorem Tab.stored (h : Tab w S g mb most queue L) {k : Int} {f : Fl} (hf : findK L k = some f) {w2 : World} {ws' : List Int} {v' : Value}
    (b2 : w2.heap[f.b]? = some (.cells #[.int .i64 f.lead, f.v] 58 (0, 0))) (r2 : w2.ownsRow 0 3 1 v' ws'.length (ws'.map (Value.int .i64)))
    (hat : ∀ b, v'.ownBlock = some b → f.v.ownBlock = some b ∨ w.heap.size ≤ b)
    (hm : ∀ b, b < w.heap.size → f.v.ownBlock ≠ some b → w2.heap[b]? = w.heap[b]?)
    (hos : w2.os = w.os) (htape : w2.tape = w.tape) (hout : w2.output = w.output) (hsz : w.heap.size ≤ w2.heap.size) :
    Tab (w2.setCell ⟨f.b, 1, none⟩ v') (grow S w (w2.setCell ⟨f.b, 1, none⟩ v')) g mb most queue (Own.upd L k ws' v') ∧ Turn w (w2.setCell ⟨f.b, 1, none⟩ v') S := by
  have F := h.fl f (findK_mem hf).1
  have hs3 : (w2.setCell ⟨f.b, 1, none⟩ v').heap.size = w2.heap.size := by simp
  have b3 : (w2.setCell ⟨f.b, 1, none⟩ v').heap[f.b]? = some (.cells #[.int .i64 f.lead, v'] 58 (0, 0)) := heap_setCell_same w2 f.b 1 _ 58 v' b2
  have o3 : ∀ b, b ≠ f.b → (w2.setCell ⟨f.b, 1, none⟩ v').heap[b]? = w2.heap[b]? := fun b hb => heap_setCell_other w2 _ b v' hb
  have hv : ∀ b, v'.ownBlock = some b → b ≠ f.b := fun b hb e => by
    obtain ⟨cur, hc⟩ := row_block r2 b hb
    rw [e, b2] at hc
    simp at hc
  have r3 := row_kept r2 (w1 := w2.setCell ⟨f.b, 1, none⟩ v') (fun b hb => o3 b (hv b hb))
  refine ⟨h.upd hf b3 r3 ?_ (fun b hb => .inl hb) ?_, ⟨?_, ?_, ?_, ?_, ?_⟩⟩
  · intro b hb
    refine ⟨?_, hat b hb⟩
    rcases hat b hb with e | e
    · exact .inl (F.rowMine b e)
    · exact .inr ⟨e, row_lt r3 b hb⟩
  · intro b hb hlt h1 h2
    rw [o3 b h1]
    exact hm b hlt h2
  · exact hos
  · exact htape
  · exact hout
  · rw [hs3]; exact hsz
  · intro b hlt hn
    have h1 : b ≠ f.b := fun e => hn (e ▸ F.mine)
    rw [o3 b h1]
    exact hm b hlt (fun e => hn (F.rowMine b e))
theorem info3 : ∃ i, Try.prog.info? 3 = some i ∧ i.zero = some (.int .i64 0) ∧ i.size = 1 ∧ i.bytes = 8 := ⟨_, rfl, rfl, rfl, rfl⟩
theorem grown_keep {w w2 : World} {row : Option Nat} {o : Obj} (h : (w.alloc o).grownBy w2 row) {i : Nat} (hi : i < w.heap.size) (hr : some i ≠ row) : w2.heap[i]? = w.heap[i]? := by
  have h1 := h.block i (by rw [al, Array.size_push]; omega) hr
  rw [h1, al, Array.getElem?_push, if_neg (by omega)]
theorem row_shape {w : World} {base e n : Nat} {v : Value} {xs : List Value} (h : w.ownsRow base e 1 v n xs) : ∃ A c, v = .slice A n c := by
  obtain ⟨_, h2⟩ := h
  rcases h2 with ⟨rfl, rfl⟩ | ⟨g, cap, cur, rfl, _⟩
  · exact ⟨_, _, rfl⟩
  · exact ⟨_, _, rfl⟩
theorem row_drew {w : World} {base e n m : Nat} {v : Value} {xs : List Value} (h : w.ownsRow base e 1 v n xs) : (w.drewN m).ownsRow base e 1 v n xs := h
set_option maxHeartbeats 1000000 in
theorem join_waits {k who : Int} (h : Tab w S g mb most queue L) (hk : (Lit.int .i64 k).wf = true) {f : Fl} (hf : findK L k = some f) (hq : (f.ws.length : Int) < queue) (hn : f.ws.length ≤ 1000000) :
    Calls Try.prog 10 #[.pointer (some ⟨g, 0, none⟩), .int .i64 k, .int .i64 who] w fun e w1 => e = .returned (.int .i64 2) ∧
      ∃ v', Tab w1 (grow S w w1) g mb most queue (upd L k (f.ws ++ [who]) v') ∧ Turn w w1 S := by
  have H := of_at h hk
  rw [ptrOf_some hf] at H
  have F := h.fl f (findK_mem hf).1
  have c2 : w.cell? ⟨g, 2, none⟩ = some (.int .i64 queue) := gcell h.head 2 _ rfl
  obtain ⟨A, c, hfv⟩ := row_shape F.row
  have d1 : w.cell? ⟨f.b, 1, none⟩ = some (.slice A f.ws.length c) := by rw [← hfv]; exact gcell F.blk 1 _ rfl
  obtain ⟨i3, i3a, i3b, i3c, i3d⟩ := info3
  have hq1 : decide ((f.ws.length : Int) < queue) = true := decide_eq_true hq
  have hrow : w.ownsRow 0 3 1 (.slice A f.ws.length c) f.ws.length (f.ws.map (Value.int .i64)) := hfv ▸ F.row
  have hne : some f.b ≠ (Value.slice A f.ws.length c).ownBlock := fun e => by
    obtain ⟨cur, hc⟩ := row_block hrow f.b e.symm
    rw [F.blk] at hc
    simp at hc
  go_enter Try.func10, Try.ntmps10
  go_wp2_with (first | (go_at_call 22; refine H.mono ?_; rintro e w1 ⟨rfl, rfl⟩))
  go_quiet (fail)
  go_wp2_with (at_builtin; refine wpList_append_own_at _ rfl _ _ 26 rfl 0 3 i3 (.int .i64 0) 1 8 Try.underlying26 i3a i3b i3c i3d rfl (by decide) (.slice A f.ws.length c) f.ws.length (f.ws.map (Value.int .i64)) rfl ((row_drew hrow).alloc _) ⟨_, 0, none⟩ 1 1 [.int .i64 who] rfl rfl (cell_one_new _ _ _) (by intro u hu; rw [List.mem_singleton.1 hu]; rfl) (by unfold maxLen; omega) (by omega) (Nat.zero_le _) ?_; intro v' w2 hown' hgrow hnil hat; obtain ⟨A', c', rfl⟩ := row_shape hown'; have b2 := (grown_keep hgrow (heap_lt F.blk) hne).trans F.blk; have e2 := gcell b2 1 _ rfl; have f2 := gfroz b2 1)
  go_ret
  refine ⟨rfl, _, h.stored hf b2 (ws' := f.ws ++ [who]) (v' := .slice A' (f.ws.length + 1) c') (by simpa using hown') ?_ ?_ hgrow.os hgrow.tape hgrow.output ?_⟩
  · intro b hb
    rw [hb, ← hfv] at hat
    rcases hat with e | e
    · exact .inl e.symm
    · injection e with e
      rw [e, al, Array.size_push]
      exact .inr (by show w1.heap.size ≤ w1.heap.size + 1; omega)
  · intro b hlt hn
    exact grown_keep hgrow hlt (by rw [← hfv]; exact fun e => hn e.symm)
  · have := hgrow.size
    rw [al, Array.size_push] at this
    exact Nat.le_trans (Nat.le_succ _) this
end Go.Proofs.Ytbonaoopkfcabaa.Own
