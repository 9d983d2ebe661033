/- The table's Sum: a walk over the map in an order that nobody knows. -/
import Derived.Test.YtbonaoopkfcabaaOwnFlightF
namespace Go.Proofs.Ytbonaoopkfcabaa.Own
open Go.RowKit Go.Maps Go.Proofs.Ytbonaoopkfcabaa.PFlightPlays Go.Proofs.YtbonaoopkfcabaaW.PrintWords Go.Proofs.YtbonaoopkfcabaaW.PrintLast Go.Proofs.YtbonaoopkfcabaaW.PrintMore
set_option linter.unusedVariables false
variable {w w1 : World} {S S' : Nat → Prop} {g mb : Nat} {most queue : Int} {L : List Fl}
def sumL (left : Lit → Bool) (L : List Fl) : Nat := (L.map fun f => if left (.int .i64 f.k) = true then f.ws.length else 0).sum
def sumAll (L : List Fl) : Nat := (L.map fun f => f.ws.length).sum
theorem sumL_none {left : Lit → Bool} (h : ∀ kl, left kl = false) (L : List Fl) : sumL left L = 0 := by
  unfold sumL
  induction L with
  | nil => rfl
  | cons a t ih => rw [List.map_cons, List.sum_cons, ih, h]; rfl
theorem sumL_strike {left : Lit → Bool} {f : Fl} (hl : left (.int .i64 f.k) = true) : ∀ {L : List Fl}, L.Pairwise ApartFl → f ∈ L →
    sumL (fun z => left z && !z.sameKey (.int .i64 f.k)) L + f.ws.length = sumL left L := by
  have same : ∀ x : Fl, x.k = f.k → (left (.int .i64 x.k) && !(Lit.int .i64 x.k).sameKey (.int .i64 f.k)) = false := fun x e => by rw [e, WideAt.sameKey_self (isKey f.k)]; simp
  have other : ∀ x : Fl, x.k ≠ f.k → (left (.int .i64 x.k) && !(Lit.int .i64 x.k).sameKey (.int .i64 f.k)) = left (.int .i64 x.k) := fun x e => by rw [Maps.sameKey_ne (lit_ne e)]; simp
  have rest : ∀ {L : List Fl}, (∀ x ∈ L, x.k ≠ f.k) → sumL (fun z => left z && !z.sameKey (.int .i64 f.k)) L = sumL left L := by
    intro L hL
    unfold sumL
    congr 1
    refine List.map_congr_left fun x hx => ?_
    show (if (left (.int .i64 x.k) && !(Lit.int .i64 x.k).sameKey (.int .i64 f.k)) = true then _ else _) = _
    rw [other x (hL x hx)]
  intro L
  induction L with
  | nil => intro _ h; simp at h
  | cons a t ih =>
    intro hp hm
    rw [List.pairwise_cons] at hp
    by_cases ha : a.k = f.k
    · have hf : f = a := by
        rcases List.mem_cons.1 hm with e | e
        · exact e
        · exact absurd ha (hp.1 f e).1
      subst hf
      have h1 := rest (L := t) (fun x hx e => (hp.1 x hx).1 e.symm)
      unfold sumL at h1 ⊢
      rw [List.map_cons, List.sum_cons, List.map_cons, List.sum_cons, h1]
      show (if (left (.int .i64 f.k) && !(Lit.int .i64 f.k).sameKey (.int .i64 f.k)) = true then _ else _) + _ + _ = _
      rw [same f rfl, hl]
      simp
      omega
    · have hm' : f ∈ t := by
        rcases List.mem_cons.1 hm with e | e
        · exact absurd (by rw [e]) ha
        · exact e
      have := ih hp.2 hm'
      unfold sumL at this ⊢
      rw [List.map_cons, List.sum_cons, List.map_cons, List.sum_cons]
      show (if (left (.int .i64 a.k) && !(Lit.int .i64 a.k).sameKey (.int .i64 f.k)) = true then _ else _) + _ + _ = _
      rw [other a ha]
      omega
theorem findK_self : ∀ {L : List Fl}, L.Pairwise ApartFl → ∀ {f : Fl}, f ∈ L → findK L f.k = some f := by
  intro L
  induction L with
  | nil => intro _ f h; simp at h
  | cons a t ih =>
    intro hp f hm
    rw [List.pairwise_cons] at hp
    unfold findK
    rcases List.mem_cons.1 hm with e | e
    · subst e
      rw [List.find?_cons_of_pos (by simp)]
    · rw [List.find?_cons_of_neg (by simpa using (hp.1 f e).1)]
      exact ih hp.2 e
theorem sumL_all {D : DataW Unit} {L : List Fl} (hp : L.Pairwise ApartFl) (hk : ∀ f ∈ L, (Lit.int .i64 f.k).wf = true) (d2 : ∀ k, (Lit.int .i64 k).wf = true → ∀ z, D.atKey (.int .i64 k) z = ptrZ L k z) : sumL (Maps.has D) L = sumAll L := by
  unfold sumL sumAll
  congr 1
  refine List.map_congr_left fun x hx => ?_
  rw [if_pos (has_of (d2 _ (hk x hx)) (findK_self hp hx))]
theorem wpList_next_tab {w : World} {L : List Fl} {ops : Array Oper} {rest : List Oper} {o : Oper} {a : Act} {Q : Exit → Act → World → Prop} (hg : o.guard = none) (it : Operand) (hop : o.op = Op.next it false)
    (b r n : Nat) (D : DataW Unit) (left : Lit → Bool) (cnt : Nat) (hit : a.eval it = .pointer (some ⟨r, 0, none⟩)) (h : w.ranges Try.prog 3 ptrR b r n D left cnt)
    (d2 : ∀ k, (Lit.int .i64 k).wf = true → ∀ z, D.atKey (.int .i64 k) z = ptrZ L k z)
    (hDone : cnt = 0 → (∀ kl, left kl = false) → wpList Try.prog ops Q rest (a.put o.dst (.tuple #[.bool false])) w)
    (hMore : ∀ (f : Fl) (w' : World) (cnt' : Nat), f ∈ L → left (.int .i64 f.k) = true → w'.ranges Try.prog 3 ptrR b r n D (fun z => left z && !z.sameKey (.int .i64 f.k)) cnt' → cnt' < cnt →
      w.grownBy w' (some r) → w'.heap.size = w.heap.size → (Instr.entry (.pointer (some ⟨r, 0, none⟩))).run Try.prog w' = .ok (.tuple #[.int .i64 f.k, .pointer (some ⟨f.b, 0, none⟩)]) w' → wpList Try.prog ops Q rest (a.put o.dst (.tuple #[.bool true, .int .i64 f.k, .pointer (some ⟨f.b, 0, none⟩)])) w') :
    wpList Try.prog ops Q (o :: rest) a w :=
  wpList_next_ranges w hg it hop 3 keyed3 ptrR (Value.int .i64) (fun v : Value => v) (fun key kl hkey => by obtain ⟨x, rfl, _⟩ := Maps.keyOf_int_inv Try.underlying3 hkey; exact ⟨x, rfl⟩) (fun v y hv => ⟨v, rfl⟩)
    b r n D left cnt hit h hDone (fun x c kl y w' cnt' hkey hlk hv hat hrg hlt hgr hsz hen => by
      obtain ⟨x', ex, rfl, hwx⟩ := Maps.keyOf_int_inv Try.underlying3 hkey
      cases ex
      cases hf : findK L x with
      | none =>
        have h1 := (d2 x hwx .nil).symm.trans (hat .nil)
        have h2 := (d2 x hwx (.agg [])).symm.trans (hat (.agg []))
        unfold ptrZ at h1 h2
        rw [hf] at h1 h2
        exact absurd (h1.trans h2.symm) (by simp)
      | some f =>
        have h1 := (d2 x hwx .nil).symm.trans (hat .nil)
        unfold ptrZ at h1
        rw [hf] at h1
        replace h1 : DataW.lit (.int .i64 (f.b : Int)) = y.1 := h1
        obtain ⟨hm, rfl⟩ := findK_mem hf
        have hc : c = .pointer (some ⟨f.b, 0, none⟩) := ptrR_some (ps := y.2) (by rw [hv, h1])
        rw [hc]
        rw [hc] at hen
        exact hMore f w' cnt' hm hlk hrg hlt hgr hsz hen)
theorem sum_nil (w : World) : Calls Try.prog 20 #[.pointer none] w fun e w1 => e = .returned (.int .i64 0) ∧ w1 = w := by
  go_enter Try.func20, Try.ntmps20
  go_wp2
  go_ret
  exact ⟨rfl, rfl⟩
set_option maxRecDepth 100000 in
theorem sum_at (h : Tab w S g mb most queue L) (hn : sumAll L ≤ 1000000) : Calls Try.prog 20 #[.pointer (some ⟨g, 0, none⟩)] w fun e w1 => e = .returned (.int .i64 (sumAll L : Int)) ∧ Below w.heap.size w w1 := by
  have c0 : w.cell? ⟨g, 0, none⟩ = some (.map (some mb)) := gcell h.head 0 _ rfl
  obtain ⟨D, d1, d2, d3⟩ := h.map
  go_enter Try.func20, Try.ntmps20
  go_wp2_with (first | (at_range; refine wpList_range_own _ rfl _ 52 rfl 3 55 keyed3 Try.underlying52 _ mb _ _ rfl d1 ?_; intro w0 hrg0 hg0 hs0) | go_in)
  go_frame
  go_loopw [3, 5] (fun v _ wr => ∃ (left : Lit → Bool) (cnt s : Nat), v = .int .i64 (s : Int) ∧ wr.ranges Try.prog 3 ptrR mb w.heap.size L.length D left cnt ∧ s + sumL left L = sumAll L ∧ Below w.heap.size w wr) (fun _ _ wr => wr.rangeLeft mb w.heap.size)
  case atStart =>
    exact ⟨_, _, 0, rfl, hrg0, by rw [sumL_all h.apart h.keys d2]; omega, ⟨hg0.os, hg0.tape, hg0.output, hg0.size, fun i hi => hg0.block i hi (by simp)⟩⟩
  case round =>
    obtain ⟨left, cnt, s, rfl, hrg, hs, hb⟩ := hrel
    go_wp2_with (first | (at_next; refine wpList_next_tab (L := L) rfl _ rfl mb w.heap.size _ D _ _ rfl hrg d2 ?_ ?_) | go_in)
    · intro hc0 hl0
      go_wp2
      go_ret
      rw [sumL_none hl0] at hs
      refine ⟨?_, hb⟩
      rw [← hs]
      rfl
    · intro f w1 cnt1 hf hl hrg1 hlt hg1 hs1 hen
      have hst := sumL_strike hl h.apart hf
      have hb1 : Below w.heap.size w w1 := ⟨hg1.os.trans hb.os, hg1.tape.trans hb.tape, hg1.output.trans hb.output, Nat.le_trans hb.size hg1.size, fun i hi => (hg1.block i (Nat.lt_of_lt_of_le hi hb.size) (by intro e; injection e with e; omega)).trans (hb.block i hi)⟩
      have F := (h.fl f hf).step (fun b _ hlt => hb1.block b hlt)
      obtain ⟨A, c, hfv⟩ := row_shape F.row
      have e1 : w1.cell? ⟨f.b, 1, none⟩ = some (.slice A f.ws.length c) := by rw [← hfv]; exact gcell F.blk 1 _ rfl
      go_wp2
      exact ⟨⟨_, cnt1, s + f.ws.length, by rw [Int.natCast_add], hrg1, by omega, hb1⟩, by rw [hrg1.left_eq, hrg.left_eq]; exact hlt⟩
end Go.Proofs.Ytbonaoopkfcabaa.Own
