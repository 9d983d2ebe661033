/- What becomes of the table when a flight comes, turns, or goes. -/
import Derived.Test.YtbonaoopkfcabaaOwnFlight
namespace Go.Proofs.Ytbonaoopkfcabaa.Own
open Go.RowKit Go.Maps Go.Proofs.Ytbonaoopkfcabaa.PFlightPlays Go.Proofs.YtbonaoopkfcabaaW.PrintWords Go.Proofs.YtbonaoopkfcabaaW.PrintLast Go.Proofs.YtbonaoopkfcabaaW.PrintMore
set_option linter.unusedVariables false
variable {w w1 : World} {S S' : Nat → Prop} {g mb : Nat} {most queue : Int} {L : List Fl}
/-! ### The table after a turn -/
def upd (L : List Fl) (k : Int) (ws : List Int) (v : Value) : List Fl := L.map fun x => if x.k = k then { x with ws := ws, v := v } else x
theorem findK_mem {L : List Fl} {k : Int} {f : Fl} (h : findK L k = some f) : f ∈ L ∧ f.k = k := by
  unfold findK at h
  exact ⟨List.mem_of_find?_eq_some h, by simpa using List.find?_some h⟩
theorem findK_none {L : List Fl} {k : Int} (h : findK L k = none) : ∀ f ∈ L, f.k ≠ k := by
  unfold findK at h
  intro f hf
  simpa using List.find?_eq_none.1 h f hf
theorem findK_upd (L : List Fl) (k : Int) (ws : List Int) (v : Value) (j : Int) : findK (upd L k ws v) j = (findK L j).map fun x => if x.k = k then { x with ws := ws, v := v } else x := by
  unfold findK upd
  induction L with
  | nil => rfl
  | cons a t ih =>
    have e : (if a.k = k then ({ a with ws := ws, v := v } : Fl) else a).k = a.k := by split <;> rfl
    simp only [List.map_cons, List.find?_cons, e]
    by_cases hj : a.k = j
    · simp [hj]
    · simp only [hj, decide_false, ih]
theorem upd_b (k : Int) (ws : List Int) (v : Value) (x : Fl) : (if x.k = k then ({ x with ws := ws, v := v } : Fl) else x).b = x.b := by split <;> rfl
theorem ptrZ_upd (L : List Fl) (k : Int) (ws : List Int) (v : Value) (j : Int) (z : DataW Unit) : ptrZ (upd L k ws v) j z = ptrZ L j z := by
  unfold ptrZ
  rw [findK_upd]
  cases findK L j with
  | none => rfl
  | some x => simp only [Option.map_some, upd_b]
theorem row_block {w : World} {base e n : Nat} {v : Value} {xs : List Value} (h : w.ownsRow base e 1 v n xs) (b : Nat) (hb : v.ownBlock = some b) : ∃ cur, w.heap[b]? = some (.cells cur e (0, 0)) := by
  obtain ⟨_, h2⟩ := h
  rcases h2 with ⟨rfl, _⟩ | ⟨g, cap, cur, rfl, hg, hh, r⟩
  · simp [Value.ownBlock] at hb
  · obtain rfl : g = b := by simpa [Value.ownBlock] using hb
    exact ⟨_, hh⟩
theorem pw_ne {L : List Fl} (h : L.Pairwise ApartFl) {f x : Fl} (hf : f ∈ L) (hx : x ∈ L) (hk : x.k ≠ f.k) : f.b ≠ x.b ∧ ∀ b, f.v.ownBlock = some b → x.v.ownBlock ≠ some b := by
  induction L with
  | nil => simp at hf
  | cons a t ih =>
    rw [List.pairwise_cons] at h
    rcases List.mem_cons.1 hf with rfl | hf'
    · rcases List.mem_cons.1 hx with rfl | hx'
      · exact absurd rfl hk
      · exact (h.1 x hx').2
    · rcases List.mem_cons.1 hx with rfl | hx'
      · obtain ⟨_, h2, h3⟩ := h.1 f hf'
        exact ⟨fun e => h2 e.symm, fun b hb hc => h3 b hc hb⟩
      · exact ih h.2 hf' hx'
/-- one flight's row of who waits is another now -/
theorem Tab.upd (h : Tab w S g mb most queue L) {k : Int} {f : Fl} (hf : findK L k = some f) {ws' : List Int} {v' : Value}
    (h1 : w1.heap[f.b]? = some (.cells #[.int .i64 f.lead, v'] 58 (0, 0))) (h2 : w1.ownsRow 0 3 1 v' ws'.length (ws'.map (Value.int .i64)))
    (h3 : ∀ b, v'.ownBlock = some b → S' b ∧ (f.v.ownBlock = some b ∨ w.heap.size ≤ b)) (hS : ∀ b, S b → S' b)
    (hm : ∀ b, S b → b < w.heap.size → b ≠ f.b → f.v.ownBlock ≠ some b → w1.heap[b]? = w.heap[b]?) : Tab w1 S' g mb most queue (upd L k ws' v') := by
  obtain ⟨hfm, hfk⟩ := findK_mem hf
  have F := h.fl f hfm
  have hg : w1.heap[g]? = w.heap[g]? := hm g h.gS (heap_lt h.head) (fun e => by have q := h.head; rw [e, F.blk] at q; simp at q) (fun e => by obtain ⟨cur, hc⟩ := row_block F.row g e; rw [h.head] at hc; simp at hc)
  obtain ⟨D, d1, d2, d3⟩ := h.map
  have hmo : ∃ es cl, w.heap[mb]? = some (.map es cl) := by obtain ⟨es, cl, hb, _⟩ := d1; exact ⟨es, cl, hb⟩
  obtain ⟨es, cl, hmb⟩ := hmo
  have hmm : w1.heap[mb]? = w.heap[mb]? := hm mb h.mS d1.lt (fun e => by rw [e, F.blk] at hmb; simp at hmb) (fun e => by obtain ⟨cur, hc⟩ := row_block F.row mb e; rw [hmb] at hc; simp at hc)
  refine ⟨hg.trans h.head, hS _ h.gS, hS _ h.mS, ⟨D, ?_, fun j hj z => by rw [ptrZ_upd]; exact d2 j hj z, by simpa [Own.upd] using d3⟩, ?_, ?_, ?_⟩
  · simpa [Own.upd] using map_kept d1 hmm
  · intro x hx
    obtain ⟨y, hy, rfl⟩ := List.mem_map.1 hx
    by_cases hyk : y.k = k
    · rw [if_pos hyk]
      have e : y = f := by
        apply Classical.byContradiction
        intro hne
        have := h.apart
        have hh : ∀ {M : List Fl}, M.Pairwise ApartFl → ∀ {p q : Fl}, p ∈ M → q ∈ M → p.k = q.k → p = q := by
          intro M hM
          induction M with
          | nil => intro p q hp; simp at hp
          | cons a t ih =>
            intro p q hp hq hpq
            rw [List.pairwise_cons] at hM
            rcases List.mem_cons.1 hp with rfl | hp'
            · rcases List.mem_cons.1 hq with rfl | hq'
              · rfl
              · exact absurd hpq (hM.1 q hq').1
            · rcases List.mem_cons.1 hq with rfl | hq'
              · exact absurd hpq.symm (hM.1 p hp').1
              · exact ih hM.2 hp' hq' hpq
        exact hne (hh this hy hfm (hyk.trans hfk.symm))
      subst e
      exact ⟨h1, hS _ F.mine, h2, fun b hb => (h3 b hb).1⟩
    · rw [if_neg hyk]
      have Y := h.fl y hy
      obtain ⟨n1, n2⟩ := pw_ne h.apart hfm hy (by rw [hfk]; exact hyk)
      refine ⟨?_, hS _ Y.mine, row_kept Y.row ?_, fun b hb => hS _ (Y.rowMine b hb)⟩
      · rw [hm y.b Y.mine (heap_lt Y.blk) (fun e => n1 e.symm) (fun e => by obtain ⟨cur, hc⟩ := row_block F.row y.b e; rw [Y.blk] at hc; simp at hc)]
        exact Y.blk
      · intro b hb
        exact hm b (Y.rowMine b hb) (row_lt Y.row b hb) (fun e => by obtain ⟨cur, hc⟩ := row_block Y.row b hb; rw [e, F.blk] at hc; simp at hc) (fun e => n2 b e hb)
  · refine List.pairwise_map.2 (h.apart.imp_of_mem ?_)
    intro x y hx hy hxy
    obtain ⟨a1, a2, a3⟩ := hxy
    have X := h.fl x hx
    have Y := h.fl y hy
    refine ⟨?_, ?_, ?_⟩
    · split <;> split <;> simpa using a1
    · rw [upd_b, upd_b]; exact a2
    · intro b
      by_cases hx' : x.k = k <;> by_cases hy' : y.k = k
      · exact absurd (hx'.trans hy'.symm) a1
      · rw [if_pos hx', if_neg hy']
        intro hb hc
        rcases (h3 b hb).2 with e | e
        · exact (pw_ne h.apart hfm hy (by rw [hfk]; exact hy')).2 b e hc
        · have := row_lt Y.row b hc; omega
      · rw [if_neg hx', if_pos hy']
        intro hb hc
        rcases (h3 b hc).2 with e | e
        · exact (pw_ne h.apart hfm hx (by rw [hfk]; exact hx')).2 b e hb
        · have := row_lt X.row b hb; omega
      · rw [if_neg hx', if_neg hy']
        exact a3 b
  · intro x hx
    obtain ⟨y, hy, rfl⟩ := List.mem_map.1 hx
    have := h.keys y hy
    split <;> simpa using this
/-- a map holds at most as many entries as it has -/
theorem tight {w : World} {b n : Nat} {D : DataW Unit} (h : w.ownsMap Try.prog 3 ptrR b n D) : w.ownsMap Try.prog 3 ptrR b (Maps.size D) D := by
  obtain ⟨es, clock, hb, F, hs, rfl⟩ := h
  refine ⟨es, clock, hb, F, ?_, rfl⟩
  simp [Maps.size, length_sorted]
theorem lit_ne {j k : Int} (h : j ≠ k) : (Lit.int .i64 j) ≠ (Lit.int .i64 k) := fun e => h (by injection e)
theorem isKey (k : Int) : WideAt.IsKeyLit (.int .i64 k) := by trivial
theorem ptrOf_none {L : List Fl} {k : Int} (h : findK L k = none) : ptrOf L k = .pointer none := by unfold ptrOf; rw [h]
theorem ptrOf_some {L : List Fl} {k : Int} {f : Fl} (h : findK L k = some f) : ptrOf L k = .pointer (some ⟨f.b, 0, none⟩) := by unfold ptrOf; rw [h]
theorem has_of {D : DataW Unit} {L : List Fl} {k : Int} (h : ∀ z, D.atKey (.int .i64 k) z = ptrZ L k z) {f : Fl} (hf : findK L k = some f) : Maps.has D (.int .i64 k) = true :=
  Maps.has_true_of_atKey (y := .lit (.int .i64 (f.b : Int))) (fun z => by rw [h z]; unfold ptrZ; rw [hf])
theorem hasnt_of {D : DataW Unit} {L : List Fl} {k : Int} (h : ∀ z, D.atKey (.int .i64 k) z = ptrZ L k z) (hf : findK L k = none) : Maps.has D (.int .i64 k) = false :=
  Maps.has_false_of_atKey (fun z => by rw [h z]; unfold ptrZ; rw [hf])
theorem findK_snoc (L : List Fl) (x : Fl) (j : Int) : findK (L ++ [x]) j = match findK L j with | some f => some f | none => if x.k = j then some x else none := by
  unfold findK
  rw [List.find?_append]
  cases List.find? (fun f => decide (f.k = j)) L with
  | some f => rfl
  | none => by_cases h : x.k = j <;> simp [h]
theorem findK_drop (L : List Fl) (k j : Int) : findK (L.filter fun x => !decide (x.k = k)) j = if j = k then none else findK L j := by
  unfold findK
  induction L with
  | nil => simp
  | cons a t ih =>
    by_cases ha : a.k = k
    · rw [List.filter_cons_of_neg (by simp [ha]), ih]
      by_cases hj : j = k
      · simp [hj]
      · rw [if_neg hj, if_neg hj, List.find?_cons_of_neg (by simp; omega)]
    · rw [List.filter_cons_of_pos (by simp [ha])]
      by_cases hj : a.k = j
      · rw [List.find?_cons_of_pos (by simp [hj]), List.find?_cons_of_pos (by simp [hj]), if_neg (by omega)]
      · rw [List.find?_cons_of_neg (by simp [hj]), ih, List.find?_cons_of_neg (by simp [hj])]
theorem turned_other {w w' : World} {b i : Nat} (h : w.mapTurned w' b) (hi : i ≠ b) (hlt : i < w.heap.size) : w'.heap[i]? = w.heap[i]? :=
  h.grown.block i hlt (by simpa using hi)
theorem FlAt.stepm {w w1 : World} {S : Nat → Prop} {f : Fl} {mb : Nat} (h : FlAt w S f) (hmb : ∃ es cl, w.heap[mb]? = some (.map es cl)) (hm : ∀ b, S b → b < w.heap.size → b ≠ mb → w1.heap[b]? = w.heap[b]?) : FlAt w1 S f := by
  obtain ⟨es, cl, hmb⟩ := hmb
  refine ⟨(hm _ h.mine (heap_lt h.blk) (fun e => by have q := h.blk; rw [e, hmb] at q; simp at q)).trans h.blk, h.mine, row_kept h.row (fun b hb => hm b (h.rowMine b hb) (row_lt h.row b hb) (fun e => ?_)), h.rowMine⟩
  obtain ⟨cur, hc⟩ := row_block h.row b hb
  rw [e, hmb] at hc
  simp at hc
/-- a flight has come, at the end -/
theorem Tab.add (h : Tab w S g mb most queue L) {k who : Int} {b : Nat} (hf : findK L k = none) (hk : (Lit.int .i64 k).wf = true) (hb : w.heap.size ≤ b)
    {D : DataW Unit} (d2 : ∀ k, (Lit.int .i64 k).wf = true → ∀ z, D.atKey (.int .i64 k) z = ptrZ L k z) (d3 : Maps.size D = L.length) (d4 : Maps.Tidy D)
    (d1 : w1.ownsMap Try.prog 3 ptrR mb (L.length + 1) (D.put (.int .i64 k) (.lit (.int .i64 (b : Int)))))
    (h1 : w1.heap[b]? = some (.cells #[.int .i64 who, .slice none 0 0] 58 (0, 0))) (hS : ∀ b, S b → S' b) (hSb : S' b)
    (hm : ∀ b, S b → b < w.heap.size → b ≠ mb → w1.heap[b]? = w.heap[b]?) : Tab w1 S' g mb most queue (L ++ [⟨k, who, [], b, .slice none 0 0⟩]) := by
  obtain ⟨D0, e1, _, _⟩ := h.map
  have hmo : ∃ es cl, w.heap[mb]? = some (.map es cl) := by obtain ⟨es, cl, hb, _⟩ := e1; exact ⟨es, cl, hb⟩
  obtain ⟨es, cl, hmb⟩ := hmo
  have hg : w1.heap[g]? = w.heap[g]? := hm g h.gS (heap_lt h.head) (fun e => by have q := h.head; rw [e, hmb] at q; simp at q)
  refine ⟨hg.trans h.head, hS _ h.gS, hS _ h.mS, ⟨_, by simpa using d1, ?_, ?_⟩, ?_, ?_, ?_⟩
  · intro j hj z
    unfold ptrZ
    rw [findK_snoc]
    by_cases hjk : j = k
    · subst hjk
      rw [Maps.atKey_put_same (by obtain ⟨es, e, _⟩ := d4; exact ⟨es, e⟩) (isKey j), hf]
      simp
    · rw [Maps.atKey_put_other (lit_ne hjk), d2 j hj z]
      unfold ptrZ
      cases findK L j with
      | some f => rfl
      | none => simp [show ¬ k = j from fun e => hjk e.symm]
  · rw [Maps.size_put d4, hasnt_of (d2 k hk) hf, d3]; simp
  · intro x hx
    rcases List.mem_append.1 hx with hx | hx
    · exact ((h.fl x hx).stepm ⟨es, cl, hmb⟩ hm).mono hS
    · rw [List.mem_singleton] at hx
      subst hx
      exact ⟨h1, hSb, ⟨by simp, .inl ⟨rfl, rfl⟩⟩, fun b hb => by simp [Value.ownBlock] at hb⟩
  · refine List.pairwise_append.2 ⟨h.apart, List.pairwise_singleton _ _, ?_⟩
    intro x hx y hy
    rw [List.mem_singleton] at hy
    subst hy
    exact ⟨findK_none hf x hx, by have := heap_lt (h.fl x hx).blk; show x.b ≠ b; omega, fun b hb => by simp [Value.ownBlock]⟩
  · intro x hx
    rcases List.mem_append.1 hx with hx | hx
    · exact h.keys x hx
    · rw [List.mem_singleton] at hx; subst hx; exact hk

theorem drop_length {L : List Fl} (h : L.Pairwise ApartFl) {k : Int} {f : Fl} (hf : findK L k = some f) : (L.filter fun x => !decide (x.k = k)).length + 1 = L.length := by
  induction L with
  | nil => simp [findK] at hf
  | cons a t ih =>
    rw [List.pairwise_cons] at h
    by_cases ha : a.k = k
    · rw [List.filter_cons_of_neg (by simp [ha])]
      have : (t.filter fun x => !decide (x.k = k)) = t := by
        rw [List.filter_eq_self]
        intro x hx
        have := (h.1 x hx).1
        simp
        omega
      rw [this, List.length_cons]
    · rw [List.filter_cons_of_pos (by simp [ha]), List.length_cons, List.length_cons]
      have : findK t k = some f := by
        unfold findK at hf ⊢
        rwa [List.find?_cons_of_neg (by simp [ha])] at hf
      have := ih h.2 this
      omega
/-- a flight has gone -/
theorem Tab.del (h : Tab w S g mb most queue L) {k : Int} {f : Fl} (hf : findK L k = some f) (hk : (Lit.int .i64 k).wf = true)
    {D : DataW Unit} (d2 : ∀ k, (Lit.int .i64 k).wf = true → ∀ z, D.atKey (.int .i64 k) z = ptrZ L k z) (d3 : Maps.size D = L.length) (d4 : Maps.Tidy D)
    (d1 : w1.ownsMap Try.prog 3 ptrR mb L.length (D.del (.int .i64 k)))
    (hm : ∀ b, S b → b < w.heap.size → b ≠ mb → w1.heap[b]? = w.heap[b]?) : Tab w1 S g mb most queue (L.filter fun x => !decide (x.k = k)) := by
  obtain ⟨D0, e1, _, _⟩ := h.map
  have hmo : ∃ es cl, w.heap[mb]? = some (.map es cl) := by obtain ⟨es, cl, hb, _⟩ := e1; exact ⟨es, cl, hb⟩
  obtain ⟨es, cl, hmb⟩ := hmo
  have hg : w1.heap[g]? = w.heap[g]? := hm g h.gS (heap_lt h.head) (fun e => by have q := h.head; rw [e, hmb] at q; simp at q)
  have hsz : Maps.size (D.del (.int .i64 k)) = (L.filter fun x => !decide (x.k = k)).length := by
    have h1 := Maps.size_del (k := .int .i64 k) d4
    rw [has_of (d2 k hk) hf, d3] at h1
    have h2 := drop_length h.apart hf
    simp at h1
    omega
  refine ⟨hg.trans h.head, h.gS, h.mS, ⟨_, by rw [← hsz]; exact tight d1, ?_, hsz⟩, ?_, h.apart.filter _, ?_⟩
  · intro j hj z
    unfold ptrZ
    rw [findK_drop]
    by_cases hjk : j = k
    · subst hjk
      rw [Maps.atKey_del_same]
      simp
    · rw [Maps.atKey_del_other (lit_ne hjk), d2 j hj z, if_neg hjk]
      rfl
  · intro x hx
    exact (h.fl x (List.mem_filter.1 hx).1).stepm ⟨es, cl, hmb⟩ hm
  · intro x hx
    exact h.keys x (List.mem_filter.1 hx).1
end Go.Proofs.Ytbonaoopkfcabaa.Own
