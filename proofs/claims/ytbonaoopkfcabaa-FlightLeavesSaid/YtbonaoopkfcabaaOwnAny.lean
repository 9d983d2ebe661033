/- What the table's Join, Leave and End do to the flights of other keys; two lists that are one; a list without a number. -/
import Derived.Test.YtbonaoopkfcabaaOwnArr
namespace Go.Proofs.Ytbonaoopkfcabaa.Own
open Go.RowKit Go.Maps Go.Proofs.Ytbonaoopkfcabaa.PFlightTold Go.Proofs.YtbonaoopkfcabaaW.PrintWords Go.Proofs.YtbonaoopkfcabaaW.PrintLast Go.Proofs.YtbonaoopkfcabaaW.PrintMore
set_option linter.unusedVariables false
variable {w w1 : World} {S S' : Nat → Prop} {g mb : Nat} {most queue : Int} {L : List Fl}
/-- no more flights, nor who waits, than there may be -/
structure Fits (most queue : Int) (L : List Fl) : Prop where
  n : (L.length : Int) ≤ most
  q : ∀ f ∈ L, (f.ws.length : Int) ≤ queue
theorem Fits.nil {most queue : Int} (h : 0 ≤ most) : Fits most queue [] := ⟨by simpa using h, fun f hf => by simp at hf⟩
theorem Fits.upd {most queue : Int} {L : List Fl} (h : Fits most queue L) {k : Int} {ws : List Int} {v : Value} (hw : (ws.length : Int) ≤ queue) : Fits most queue (upd L k ws v) := by
  refine ⟨by simpa [Own.upd] using h.n, fun f hf => ?_⟩
  obtain ⟨y, hy, rfl⟩ := List.mem_map.1 hf
  split
  · exact hw
  · exact h.q y hy
theorem Fits.add {most queue : Int} {L : List Fl} (h : Fits most queue L) {x : Fl} (hn : (L.length : Int) < most) (hw : (x.ws.length : Int) ≤ queue) : Fits most queue (L ++ [x]) := by
  refine ⟨by rw [List.length_append, List.length_singleton]; omega, fun f hf => ?_⟩
  rcases List.mem_append.1 hf with hf | hf
  · exact h.q f hf
  · rw [List.mem_singleton.1 hf]; exact hw
theorem Fits.drop {most queue : Int} {L : List Fl} (h : Fits most queue L) (p : Fl → Bool) : Fits most queue (L.filter p) :=
  ⟨by have := List.length_filter_le p L; have := h.n; omega, fun f hf => h.q f (List.mem_filter.1 hf).1⟩
theorem wks {n : Nat} {q : Int} (h : (n : Int) ≤ q) (hq : q ≤ 1000000) : n ≤ 1000000 := by omega
/-- the flights of other keys stay -/
def Others (k : Int) (L L' : List Fl) : Prop := ∀ j, j ≠ k → findK L' j = findK L j
theorem Others.refl (k : Int) (L : List Fl) : Others k L L := fun _ _ => rfl
theorem Others.upd {L : List Fl} (k : Int) (ws : List Int) (v : Value) : Others k L (Own.upd L k ws v) := fun j hj => by
  rw [findK_upd]
  cases hf : findK L j with
  | none => rfl
  | some f =>
    have := (findK_mem hf).2
    rw [Option.map_some, if_neg (by omega)]
theorem Others.add {L : List Fl} {k : Int} {x : Fl} (hx : x.k = k) : Others k L (L ++ [x]) := fun j hj => by
  rw [findK_snoc]
  cases findK L j with
  | none => simp only []; rw [if_neg (by omega)]
  | some f => rfl
theorem Others.drop {L : List Fl} (k : Int) : Others k L (L.filter fun x => !decide (x.k = k)) := fun j hj => by
  rw [findK_drop, if_neg hj]
/-- what a call that turns the table leaves -/
def Did (w w1 : World) (S : Nat → Prop) (g mb : Nat) (most queue : Int) (k : Int) (L : List Fl) : Prop :=
  ∃ L', Tab w1 (grow S w w1) g mb most queue L' ∧ Turn w w1 S ∧ Fits most queue L' ∧ Others k L L'
theorem Did.same (h : Tab w S g mb most queue L) (hF : Fits most queue L) (k : Int) (hb : Below w.heap.size w w1) : Did w w1 S g mb most queue k L :=
  ⟨L, (h.below hb).mono (fun b hb => .inl hb), Turn.of_below hb S, hF, Others.refl k L⟩
theorem join_any {k who : Int} (h : Tab w S g mb most queue L) (hF : Fits most queue L) (hk : (Lit.int .i64 k).wf = true) (hm : most ≤ 1000000) (hq0 : 0 ≤ queue) (hq : queue ≤ 1000000) :
    Calls Try.prog 10 #[.pointer (some ⟨g, 0, none⟩), .int .i64 k, .int .i64 who] w fun e w1 => ∃ r : Int, e = .returned (.int .i64 r) ∧ Did w w1 S g mb most queue k L := by
  cases hf : findK L k with
  | none =>
    by_cases hr : (L.length : Int) < most
    · refine (join_leads h hk hf hr (wks hF.n hm)).mono ?_
      rintro e w1 ⟨rfl, b, h1, t1⟩
      exact ⟨1, rfl, _, h1, t1, hF.add hr (by simpa using hq0), Others.add rfl⟩
    · refine (join_over h hk hf hr).mono ?_
      rintro e w1 ⟨rfl, hb⟩
      exact ⟨0, rfl, Did.same h hF k hb⟩
  | some f =>
    by_cases hr : (f.ws.length : Int) < queue
    · refine (join_waits h hk hf hr (wks (hF.q f (findK_mem hf).1) hq)).mono ?_
      rintro e w1 ⟨rfl, v, h1, t1⟩
      exact ⟨2, rfl, _, h1, t1, hF.upd (by rw [List.length_append, List.length_singleton]; omega), Others.upd k _ v⟩
    · refine (join_full h hk hf hr).mono ?_
      rintro e w1 ⟨rfl, hb⟩
      exact ⟨0, rfl, Did.same h hF k hb⟩
theorem leave_any {k who : Int} (h : Tab w S g mb most queue L) (hF : Fits most queue L) (hk : (Lit.int .i64 k).wf = true) (hq : queue ≤ 1000000) :
    Calls Try.prog 11 #[.pointer (some ⟨g, 0, none⟩), .int .i64 k, .int .i64 who] w fun e w1 => ∃ r : Bool, e = .returned (.bool r) ∧ Did w w1 S g mb most queue k L := by
  cases hf : findK L k with
  | none =>
    refine (leave_none h hk hf).mono ?_
    rintro e w1 ⟨rfl, rfl⟩
    exact ⟨false, rfl, Did.same h hF k (Below.refl _ _)⟩
  | some f =>
    have hl := hF.q f (findK_mem hf).1
    by_cases hm : who ∈ f.ws
    · refine (leave_some h hk hf hm (wks hl hq)).mono ?_
      rintro e w1 ⟨rfl, v, h1, t1⟩
      exact ⟨true, rfl, _, h1, t1, hF.upd (by have := List.length_erase_le (a := who) (l := f.ws); omega), Others.upd k _ v⟩
    · refine (leave_not h hk hf hm (wks hl hq)).mono ?_
      rintro e w1 ⟨rfl, hb⟩
      exact ⟨false, rfl, Did.same h hF k hb⟩
theorem end_any {k : Int} (h : Tab w S g mb most queue L) (hF : Fits most queue L) (hk : (Lit.int .i64 k).wf = true) :
    Calls Try.prog 13 #[.pointer (some ⟨g, 0, none⟩), .int .i64 k] w fun e w1 => ∃ x y z : Value, e = .returned (.tuple #[x, y, z]) ∧ Did w w1 S g mb most queue k L := by
  cases hf : findK L k with
  | none =>
    refine (end_none h hk hf).mono ?_
    rintro e w1 ⟨rfl, rfl⟩
    exact ⟨_, _, _, rfl, Did.same h hF k (Below.refl _ _)⟩
  | some f =>
    refine (end_some h hk hf).mono ?_
    rintro e w1 ⟨rfl, h1, _, t1⟩
    exact ⟨_, _, _, rfl, _, h1.mono (fun b hb => .inl hb), t1, hF.drop _, Others.drop k⟩
theorem rd_eq (l : List Int) {i : Nat} (h : i < l.length) : rd l (i : Int) = l[i] := by
  unfold rd
  simp [h]
theorem ints_loop (xs : List Int) (hn : xs.length ≤ 1000000) : ∀ k i, i ≤ xs.length → xs.length - i < k → derrickref09_Ints.l0 k xs xs (i : Int) = some true := by
  intro k
  induction k with
  | zero => intro i _ h; omega
  | succ k ih =>
    intro i hi hk
    unfold derrickref09_Ints.l0
    by_cases hlt : i < xs.length
    · rw [if_pos (by omega), if_pos (by omega), if_pos (by omega), if_pos rfl, wrap64_small (by omega)]
      exact ih (i + 1) (by omega) (by omega)
    · rw [if_neg (by omega)]
theorem ints_same {w : World} {A B : Option Addr} {c d : Nat} {xs : List Int} (hn : xs.length ≤ 1000000) (hA : Kd.C (Kd.int .i64) w A xs.length xs) (hc : xs.length ≤ c) (hB : Kd.C (Kd.int .i64) w B xs.length xs) (hd : xs.length ≤ d) :
    Calls Try.prog 14 #[.slice A xs.length c, .slice B xs.length d] w fun e w' => e = .returned (.bool true) ∧ ∃ m, w' = w.drewN m := by
  refine (derrickref09_Ints.calls (xs.length + 1) A c xs B d xs true w hA hc hB hd (by unfold derrickref09_Ints.f; rw [if_pos rfl]; have := ints_loop xs hn (xs.length + 1) 0 (by omega) (by omega); simpa using this)).mono ?_
  rintro e w' ⟨rfl, hd⟩
  exact ⟨rfl, hd.out⟩
theorem without_loop (xs : List Int) (x : Int) (hn : xs.length ≤ 1000000) : ∀ k i (out : List Int) (done : Bool), i ≤ xs.length → out.length ≤ i → xs.length - i < k →
    derricklaw16_without.l0 k xs x out done (i : Int) = some (out ++ (if done = true then xs.drop i else (xs.drop i).erase x)) := by
  intro k
  induction k with
  | zero => intro i _ _ _ _ h; omega
  | succ k ih =>
    intro i out done hi ho hk
    unfold derricklaw16_without.l0
    by_cases hlt : i < xs.length
    · have hd := List.drop_eq_getElem_cons hlt
      rw [if_pos (by omega), if_pos (by omega), rd_eq xs hlt, wrap64_small (by omega), hd]
      have hI := fun out d h => ih (i + 1) out d (by omega) h (by omega)
      generalize xs.drop (i + 1) = ys at hd hI
      generalize xs[i] = y at hd
      by_cases he : y = x
      · subst he
        rw [if_pos rfl]
        cases done with
        | true => rw [if_pos rfl, if_pos (by omega), hI _ _ (by rw [List.length_append, List.length_singleton]; omega)]; simp
        | false => rw [if_neg (by simp), hI _ _ (by omega)]; simp
      · rw [if_neg he, if_pos (by omega), hI _ _ (by rw [List.length_append, List.length_singleton]; omega)]
        cases done with
        | true => simp
        | false => simp [show (y == x) = false from by simpa using he]
    · rw [if_neg (by omega), List.drop_eq_nil_of_le (by omega)]
      simp
theorem without_row {w : World} {A : Option Addr} {c : Nat} {xs : List Int} (hn : xs.length ≤ 1000000) (x : Int) (hA : Kd.C (Kd.int .i64) w A xs.length xs) (hc : xs.length ≤ c) :
    Calls Try.prog 12 #[.slice A xs.length c, .int .i64 x] w fun e w' => ∃ v, e = .returned v ∧ w'.ownsRow w.heap.size 3 1 v (xs.erase x).length ((xs.erase x).map (Value.int .i64)) ∧ Below w.heap.size w w' := by
  refine (derricklaw16_without.calls (xs.length + 1) A c xs x (xs.erase x) w hA hc (by unfold derricklaw16_without.f; have := without_loop xs x hn (xs.length + 1) 0 [] false (by omega) (by simp) (by omega); simpa using this)).mono ?_
  rintro e w' ⟨v, rfl, hR, hb⟩
  exact ⟨v, rfl, Kd.own_of_R hR, hb⟩
end Go.Proofs.Ytbonaoopkfcabaa.Own
