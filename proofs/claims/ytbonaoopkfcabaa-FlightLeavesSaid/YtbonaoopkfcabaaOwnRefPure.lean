/- The reference's list of flights, in plain words: what its functions answer at the list that the table's flights make. -/
import Derived.Test.YtbonaoopkfcabaaOwnAny
import Derived.Test.YtbonaoopkfcabaaOwnRefs16
namespace Go.Proofs.Ytbonaoopkfcabaa.Own
open Go.RowKit Go.Proofs.Ytbonaoopkfcabaa.PFlightPlays Go.Proofs.YtbonaoopkfcabaaW.PrintWords Go.Proofs.YtbonaoopkfcabaaW.PrintLast Go.Proofs.YtbonaoopkfcabaaW.PrintMore
set_option linter.unusedVariables false
def s48 (f : Fl) : S48 := ⟨f.k, f.lead, f.ws⟩
def refL (L : List Fl) : List S48 := L.map s48
theorem refL_len (L : List Fl) : (refL L).length = L.length := by simp [refL]
theorem rd48 {xs : List S48} {i : Nat} (h : i < xs.length) : rd_T48 xs (i : Int) = xs[i] := by
  unfold rd_T48
  simp [h]
theorem rd48_mid (a b : List S48) (s : S48) : rd_T48 (a ++ s :: b) (a.length : Int) = s := by
  rw [rd48 (by simp)]
  simp
theorem split_of {L : List Fl} {k : Int} {f : Fl} (h : findK L k = some f) : ∃ a b, L = a ++ f :: b ∧ (∀ x ∈ a, x.k ≠ k) ∧ f.k = k := by
  unfold findK at h
  obtain ⟨h1, a, b, rfl, h2⟩ := List.find?_eq_some_iff_append.1 h
  exact ⟨a, b, rfl, fun x hx => by simpa using h2 x hx, by simpa using h1⟩
theorem others_of {a b : List Fl} {f : Fl} (h : (a ++ f :: b).Pairwise ApartFl) : (∀ x ∈ a, x.k ≠ f.k) ∧ ∀ x ∈ b, x.k ≠ f.k := by
  rw [List.pairwise_append, List.pairwise_cons] at h
  exact ⟨fun x hx => (h.2.2 x hx f (List.mem_cons_self ..)).1, fun x hx e => (h.2.1.1 x hx).1 e.symm⟩
theorem map_id_of {L : List Fl} {k : Int} (h : ∀ x ∈ L, x.k ≠ k) (ws : List Int) (v : Value) : upd L k ws v = L := by
  unfold upd
  have : L.map (fun x => if x.k = k then ({ x with ws := ws, v := v } : Fl) else x) = L.map id := List.map_congr_left (fun x hx => by rw [if_neg (h x hx)]; rfl)
  rw [this, List.map_id]
theorem upd_split {a b : List Fl} {f : Fl} (h : (a ++ f :: b).Pairwise ApartFl) (ws : List Int) (v : Value) : upd (a ++ f :: b) f.k ws v = a ++ ({ f with ws := ws, v := v } : Fl) :: b := by
  obtain ⟨h1, h2⟩ := others_of h
  have e1 := map_id_of h1 ws v
  have e2 := map_id_of h2 ws v
  unfold upd at e1 e2 ⊢
  rw [List.map_append, List.map_cons, e1, e2, if_pos rfl]
theorem filter_split {a b : List Fl} {f : Fl} (h : (a ++ f :: b).Pairwise ApartFl) : ((a ++ f :: b).filter fun x => !decide (x.k = f.k)) = a ++ b := by
  obtain ⟨h1, h2⟩ := others_of h
  rw [List.filter_append, List.filter_cons_of_neg (by simp), List.filter_eq_self.2 (fun x hx => by simpa using h1 x hx), List.filter_eq_self.2 (fun x hx => by simpa using h2 x hx)]
theorem set_mid (a b : List S48) (s t : S48) : (a ++ s :: b).set a.length t = a ++ t :: b := by
  induction a with
  | nil => rfl
  | cons x r ih => simp
/-! ### Find -/
theorem find_none_loop {xs : List S48} {k : Int} (hn : xs.length ≤ 1000000) (h : ∀ x ∈ xs, x.f0 ≠ k) : ∀ m i : Nat, i ≤ xs.length → xs.length - i < m → derrickref16_Find.l0 m xs k (i : Int) = some (-1) := by
  intro m
  induction m with
  | zero => intro i _ h; omega
  | succ m ih =>
    intro i hi hm
    unfold derrickref16_Find.l0
    by_cases hlt : i < xs.length
    · rw [if_pos (by omega), if_pos (by omega), rd48 hlt, if_neg (h _ (List.getElem_mem hlt)), wrap64_small (by omega)]
      exact ih (i + 1) (by omega) (by omega)
    · rw [if_neg (by omega)]
theorem find_some_loop {a b : List S48} {s : S48} {k : Int} (hn : (a ++ s :: b).length ≤ 1000000) (h : ∀ x ∈ a, x.f0 ≠ k) (hs : s.f0 = k) : ∀ m i : Nat, i ≤ a.length → a.length - i < m → derrickref16_Find.l0 m (a ++ s :: b) k (i : Int) = some (a.length : Int) := by
  have hl : (a ++ s :: b).length = a.length + 1 + b.length := by simp; omega
  intro m
  induction m with
  | zero => intro i _ h; omega
  | succ m ih =>
    intro i hi hm
    unfold derrickref16_Find.l0
    rw [if_pos (by omega), if_pos (by omega), rd48 (by omega)]
    by_cases hlt : i < a.length
    · rw [List.getElem_append_left hlt, if_neg (h _ (List.getElem_mem hlt)), wrap64_small (by omega)]
      exact ih (i + 1) (by omega) (by omega)
    · obtain rfl : i = a.length := by omega
      rw [if_pos (by simpa using hs)]
theorem find_none {L : List Fl} {k : Int} (hn : L.length ≤ 1000) (h : findK L k = none) : derrickref16_Find.f 2000 (refL L) k = some (-1) := by
  have := find_none_loop (xs := refL L) (k := k) (by rw [refL_len]; omega) (fun x hx => by obtain ⟨y, hy, rfl⟩ := List.mem_map.1 hx; exact findK_none h y hy) 2000 0 (by omega) (by rw [refL_len]; omega)
  simpa [derrickref16_Find.f] using this
theorem find_some {a b : List Fl} {f : Fl} (hn : (a ++ f :: b).length ≤ 1000) (h : ∀ x ∈ a, x.k ≠ f.k) : derrickref16_Find.f 2000 (refL (a ++ f :: b)) f.k = some (a.length : Int) := by
  have e : refL (a ++ f :: b) = refL a ++ s48 f :: refL b := by simp [refL]
  have hl : (a ++ f :: b).length = a.length + 1 + b.length := by simp; omega
  have := find_some_loop (a := refL a) (b := refL b) (s := s48 f) (k := f.k) (by rw [← e, refL_len]; omega) (fun x hx => by obtain ⟨y, hy, rfl⟩ := List.mem_map.1 hx; exact h y hy) rfl 2000 0 (by omega) (by rw [refL_len]; omega)
  rw [e]
  rw [refL_len] at this
  simpa [derrickref16_Find.f] using this
/-! ### Join -/
variable {L : List Fl} {k who n0 n1 : Int} {f : Fl}
theorem ref_join_new (hn : L.length ≤ 1000) (h : findK L k = none) (hr : (L.length : Int) < n0) (b : Nat) (v : Value) : derrickref16_Join.f 2000 (refL L) n0 n1 k who = some (refL (L ++ [⟨k, who, [], b, v⟩]), 1) := by
  have hl := refL_len L
  unfold derrickref16_Join.f
  rw [find_none hn h, Option.bind_some, Option.bind_some, if_pos (by simp; omega), Option.bind_some, if_pos (by omega), if_neg (by omega), if_pos (by simp; omega)]
  simp [refL, s48]
theorem ref_join_over (hn : L.length ≤ 1000) (h : findK L k = none) (hr : ¬ (L.length : Int) < n0) : derrickref16_Join.f 2000 (refL L) n0 n1 k who = some (refL L, 0) := by
  have hl := refL_len L
  unfold derrickref16_Join.f
  rw [find_none hn h, Option.bind_some, Option.bind_some, if_pos (by simp; omega), Option.bind_some, if_pos (by omega), if_pos (by omega)]
theorem mid_eq (a b : List Fl) (f : Fl) : refL (a ++ f :: b) = refL a ++ s48 f :: refL b := by simp [refL]
theorem rd_mid (a b : List Fl) (f : Fl) : rd_T48 (refL (a ++ f :: b)) (a.length : Int) = s48 f := by
  rw [mid_eq, ← refL_len a]
  exact rd48_mid _ _ _
theorem ref_join_waits (hn : L.length ≤ 1000) (hw : f.ws.length ≤ 1000) (hp : L.Pairwise ApartFl) (h : findK L k = some f) (hr : (f.ws.length : Int) < n1) (v : Value) : derrickref16_Join.f 2000 (refL L) n0 n1 k who = some (refL (upd L k (f.ws ++ [who]) v), 2) := by
  obtain ⟨a, b, rfl, h1, rfl⟩ := split_of h
  have hl := refL_len (a ++ f :: b)
  have hm : (a ++ f :: b).length = a.length + 1 + b.length := by simp; omega
  unfold derrickref16_Join.f
  rw [find_some hn h1, Option.bind_some, Option.bind_some, if_pos (by simp; omega), Option.bind_some, if_neg (by omega), if_pos (by omega), if_pos (by omega), rd_mid, List.nil_append, rd_mid]
  show (if (f.ws.length : Int) ≥ n1 then _ else _) = _
  rw [if_neg (by omega), Option.bind_some]
  show (if [].length + f.ws.length < 17592186044416 then _ else _) = _
  rw [if_pos (by simp; omega), Option.bind_some]
  show (if ([] ++ f.ws).length < 17592186044416 then _ else _) = _
  rw [if_pos (by simp; omega), if_pos (by omega), Int.toNat_natCast, upd_split hp, mid_eq, ← refL_len a, set_mid, mid_eq]
  simp [s48]
theorem ref_join_full (hn : L.length ≤ 1000) (h : findK L k = some f) (hr : ¬ (f.ws.length : Int) < n1) : derrickref16_Join.f 2000 (refL L) n0 n1 k who = some (refL L, 0) := by
  obtain ⟨a, b, rfl, h1, rfl⟩ := split_of h
  have hl := refL_len (a ++ f :: b)
  have hm : (a ++ f :: b).length = a.length + 1 + b.length := by simp; omega
  unfold derrickref16_Join.f
  rw [find_some hn h1, Option.bind_some, Option.bind_some, if_pos (by simp; omega), Option.bind_some, if_neg (by omega), if_pos (by omega), if_pos (by omega), rd_mid]
  show (if (f.ws.length : Int) ≥ n1 then _ else _) = _
  rw [if_pos (by omega)]
/-! ### Leave -/
theorem ref_leave_none (hn : L.length ≤ 1000) (h : findK L k = none) : derrickref16_Leave.f 2000 (refL L) k who = some (refL L, false) := by
  unfold derrickref16_Leave.f
  rw [find_none hn h, Option.bind_some, if_pos (by omega)]
theorem leave_loop (a b : List Fl) (f : Fl) (x : Int) (hn : (a ++ f :: b).length ≤ 1000) (hw : f.ws.length ≤ 1000) : ∀ m (i : Nat) (out : List Int) (done : Bool), i ≤ f.ws.length → out.length ≤ i → f.ws.length - i < m →
    derrickref16_Leave.l0 m (refL (a ++ f :: b)) x (a.length : Int) out done (i : Int) = some ((refL a) ++ (⟨f.k, f.lead, out ++ (if done = true then f.ws.drop i else (f.ws.drop i).erase x)⟩ : S48) :: refL b, done || decide (x ∈ f.ws.drop i)) := by
  have hl := refL_len (a ++ f :: b)
  have hm : (a ++ f :: b).length = a.length + 1 + b.length := by simp; omega
  intro m
  induction m with
  | zero => intro i _ _ _ _ h; omega
  | succ m ih =>
    intro i out done hi ho hk
    unfold derrickref16_Leave.l0
    rw [if_pos (by omega), if_pos (by omega), rd_mid]
    show (if (i : Int) < (f.ws.length : Int) then (if 0 ≤ (i : Int) then (if rd f.ws (i : Int) = x then _ else _) else _) else _) = _
    by_cases hlt : i < f.ws.length
    · have hd := List.drop_eq_getElem_cons hlt
      rw [if_pos (by omega), if_pos (by omega), rd_eq f.ws hlt, wrap64_small (by omega), hd]
      have hI := fun out d h => ih (i + 1) out d (by omega) h (by omega)
      show (if f.ws[i] = x then (if done = true then (if out.length < 17592186044416 then derrickref16_Leave.l0 m (refL (a ++ f :: b)) x (a.length : Int) (out ++ [rd f.ws (i : Int)]) done ((i + 1 : Nat) : Int) else none) else derrickref16_Leave.l0 m (refL (a ++ f :: b)) x (a.length : Int) out true ((i + 1 : Nat) : Int)) else (if out.length < 17592186044416 then derrickref16_Leave.l0 m (refL (a ++ f :: b)) x (a.length : Int) (out ++ [rd f.ws (i : Int)]) done ((i + 1 : Nat) : Int) else none)) = _
      rw [rd_eq f.ws hlt]
      generalize f.ws.drop (i + 1) = ys at hd hI
      generalize f.ws[i] = y at hd
      by_cases he : y = x
      · subst he
        rw [if_pos rfl]
        cases done with
        | true => rw [if_pos rfl, if_pos (by omega), hI _ _ (by rw [List.length_append, List.length_singleton]; omega)]; simp
        | false => rw [if_neg (by simp), hI _ _ (by omega)]; simp
      · rw [if_neg he, if_pos (by omega), hI _ _ (by rw [List.length_append, List.length_singleton]; omega)]
        have he2 : ¬ x = y := fun e => he e.symm
        cases done with
        | true => simp
        | false => simp [show (y == x) = false from by simpa using he, he2]
    · rw [if_neg (by omega), List.drop_eq_nil_of_le (by omega), Option.bind_some, if_pos (by simp; omega), Option.bind_some, List.nil_append, if_pos (by omega), Int.toNat_natCast, rd_mid, mid_eq, ← refL_len a, set_mid]
      simp [s48]
theorem ref_leave (hn : L.length ≤ 1000) (hw : f.ws.length ≤ 1000) (hp : L.Pairwise ApartFl) (h : findK L k = some f) (v : Value) : derrickref16_Leave.f 2000 (refL L) k who = some (refL (upd L k (f.ws.erase who) v), decide (who ∈ f.ws)) := by
  obtain ⟨a, b, rfl, h1, rfl⟩ := split_of h
  unfold derrickref16_Leave.f
  have := leave_loop a b f who hn hw 2000 0 [] false (by omega) (by simp) (by omega)
  rw [find_some hn h1, Option.bind_some, if_neg (by omega)]
  refine Eq.trans (by simpa using this) ?_
  rw [upd_split hp, mid_eq]
  simp [s48]
theorem ref_leave_not (hn : L.length ≤ 1000) (hw : f.ws.length ≤ 1000) (hp : L.Pairwise ApartFl) (h : findK L k = some f) (hm : who ∉ f.ws) : derrickref16_Leave.f 2000 (refL L) k who = some (refL L, false) := by
  rw [ref_leave hn hw hp h f.v, List.erase_of_not_mem hm, decide_eq_false hm]
  obtain ⟨a, b, rfl, h1, rfl⟩ := split_of h
  rw [upd_split hp]
theorem ref_leave_some (hn : L.length ≤ 1000) (hw : f.ws.length ≤ 1000) (hp : L.Pairwise ApartFl) (h : findK L k = some f) (hm : who ∈ f.ws) (v : Value) : derrickref16_Leave.f 2000 (refL L) k who = some (refL (upd L k (f.ws.erase who) v), true) := by
  rw [ref_leave hn hw hp h v, decide_eq_true hm]
/-! ### End -/
theorem ref_end_none (hn : L.length ≤ 1000) (h : findK L k = none) : derrickref16_End.f 2000 (refL L) k = some (refL L, 0, 0, [], false) := by
  unfold derrickref16_End.f
  rw [find_none hn h, Option.bind_some, if_pos (by omega)]
theorem ref_end_some (hn : L.length ≤ 1000) (hp : L.Pairwise ApartFl) (h : findK L k = some f) : derrickref16_End.f 2000 (refL L) k = some (refL (L.filter fun x => !decide (x.k = k)), k, f.lead, f.ws, true) := by
  obtain ⟨a, b, rfl, h1, rfl⟩ := split_of h
  have hl := refL_len (a ++ f :: b)
  have hm : (a ++ f :: b).length = a.length + 1 + b.length := by simp; omega
  have hla := refL_len a
  have e1 : (refL (a ++ f :: b)).take a.length = refL a := by rw [mid_eq, ← hla, List.take_left]
  have e2 : (refL (a ++ f :: b)).drop (a.length + 1) = refL b := by
    rw [mid_eq, ← hla, ← List.drop_drop, List.drop_left]
    rfl
  have hlb := refL_len b
  unfold derrickref16_End.f
  rw [find_some hn h1, Option.bind_some, if_neg (by omega), Option.bind_some, if_pos (by omega), if_pos (by omega), Option.bind_some, Int.toNat_natCast, e1, if_pos (by simp; omega), Option.bind_some, wrap64_small (by omega), if_pos (by omega), if_pos (by omega), Option.bind_some, Int.toNat_natCast, e2, List.nil_append, if_pos (by omega), if_pos (by omega), rd_mid, filter_split hp]
  simp [refL, s48]
/-! ### Sum -/
theorem sum_loop (L : List Fl) (hn : L.length ≤ 1000) (hs : sumAll L ≤ 1000000) : ∀ m i s : Nat, i ≤ L.length → L.length - i < m → s + sumAll (L.drop i) ≤ 1000000 → derrickref16_Sum.l0 m (refL L) (s : Int) (i : Int) = some ((s + sumAll (L.drop i) : Nat) : Int) := by
  have hl := refL_len L
  intro m
  induction m with
  | zero => intro i _ _ h; omega
  | succ m ih =>
    intro i s hi hk hb
    unfold derrickref16_Sum.l0
    by_cases hlt : i < L.length
    · have hd := List.drop_eq_getElem_cons hlt
      have e : sumAll (L.drop i) = (L[i]).ws.length + sumAll (L.drop (i + 1)) := by rw [hd]; unfold sumAll; rw [List.map_cons, List.sum_cons]
      rw [e] at hb ⊢
      have hI := ih (i + 1) (s + (L[i]).ws.length) (by omega) (by omega) (by omega)
      have ew : wrap64 ((s : Int) + (((refL L)[i]'(by omega)).f2.length : Int)) = ((s + (L[i]).ws.length : Nat) : Int) := by
        have : ((refL L)[i]'(by omega)).f2 = (L[i]).ws := by simp [refL, s48]
        rw [this]
        unfold wrap64
        omega
      rw [if_pos (by omega), if_pos (by omega), rd48 (by omega), wrap64_small (by omega), ew, hI, Nat.add_assoc]
    · rw [if_neg (by omega), List.drop_eq_nil_of_le (by omega)]
      simp [sumAll]
theorem ref_sum (hn : L.length ≤ 1000) (hs : sumAll L ≤ 1000000) : derrickref16_Sum.f 2000 (refL L) = some (sumAll L : Int) := by
  have := sum_loop L hn hs 2000 0 0 (by omega) (by omega) (by simpa using hs)
  simpa [derrickref16_Sum.f] using this
end Go.Proofs.Ytbonaoopkfcabaa.Own
