/- The chain of TopRefuses, part 38. -/
import Derived.Test.YtgemonlknehegaaGreatDoorK37
namespace Go.Proofs.YtgemonlknehegaaGreatDoor.AI
open Go
set_option linter.unusedVariables false
set_option linter.unusedSimpArgs false
theorem at8_app {s x : List UInt8} {i : Nat} (h : i < s.length) : at8 (s ++ x) i = at8 s i := by
  unfold at8; rw [List.getD_eq_getElem?_getD, List.getD_eq_getElem?_getD, List.getElem?_append_left h]
theorem at8_app2 {s x : List UInt8} {i : Nat} : at8 (s ++ x) (s.length + i) = at8 x i := by
  unfold at8; rw [List.getD_eq_getElem?_getD, List.getD_eq_getElem?_getD, List.getElem?_append_right (by omega)]; congr 3; omega
theorem sub8_app {s x : List UInt8} {a m : Nat} (h : a + m ≤ s.length) : sub8 (s ++ x) (a : Nat) (m : Nat) = sub8 s (a : Nat) (m : Nat) := by
  unfold sub8
  show ((s ++ x).drop a).take m = (s.drop a).take m
  rw [List.drop_append_of_le_length (by omega), List.take_append_of_le_length (by rw [List.length_drop]; omega)]
/-- a name at a place; pointers lead ahead of fr; e: what is behind it -/
inductive Rd (B : List UInt8) : Int → Nat → List UInt8 → Nat → Prop
  | root {fr : Int} {p : Nat} : p < B.length → at8 B p = 0 → Rd B fr p [0] (p + 1)
  | lab {fr : Int} {p : Nat} {n : List UInt8} {e : Nat} : 0 < at8 B p → at8 B p ≤ 63 → p + 1 + at8 B p ≤ B.length → fold (sub8 B (p + 1 : Nat) (at8 B p : Nat)) = sub8 B (p + 1 : Nat) (at8 B p : Nat) → Rd B fr (p + 1 + at8 B p) n e → Rd B fr p (UInt8.ofNat (at8 B p) :: (sub8 B (p + 1 : Nat) (at8 B p : Nat) ++ n)) e
  | ptr {fr : Int} {p q : Nat} {n : List UInt8} {e : Nat} : p + 2 ≤ B.length → u16 B p = 49152 + q → q < 16384 → (q : Int) < fr → Rd B q q n e → Rd B fr p n (p + 2)
theorem rd_mono {B : List UInt8} {fr fr' : Int} {p e : Nat} {n : List UInt8} (h : Rd B fr p n e) (hf : fr ≤ fr') : Rd B fr' p n e := by
  induction h with
  | root a b => exact .root a b
  | lab a b c d _ ih => exact .lab a b c d (ih hf)
  | ptr a b c d r ih => exact .ptr a b c (by omega) r
theorem rd_app {B : List UInt8} (X : List UInt8) {fr : Int} {p e : Nat} {n : List UInt8} (h : Rd B fr p n e) : Rd (B ++ X) fr p n e := by
  have hl : ∀ k, k ≤ B.length → k ≤ (B ++ X).length := fun k hk => by rw [List.length_append]; omega
  induction h with
  | root a b => exact .root (by rw [List.length_append]; omega) (by rw [at8_app a]; exact b)
  | @lab fr p n e a b c d r ih =>
    have e1 : at8 (B ++ X) p = at8 B p := at8_app (by omega)
    have e2 := sub8_app (x := X) (show p + 1 + at8 B p ≤ B.length from c)
    have := Rd.lab (B := B ++ X) (fr := fr) (p := p) (n := n) (e := e) (by rw [e1]; exact a) (by rw [e1]; exact b) (by rw [e1]; exact hl _ c) (by rw [e1, e2]; exact d) (by rw [e1]; exact ih)
    rw [e1, e2] at this
    exact this
  | @ptr fr p q n e a b c d r ih =>
    refine .ptr (hl _ a) ?_ c d ih
    unfold u16 at b ⊢
    rw [at8_app (by omega), at8_app (by omega)]; exact b
theorem z8_nat (B : List UInt8) (p : Nat) : z8 B (p : Nat) = (at8 B p : Nat) := rfl
theorem ptrBits {q : Nat} (h : q < 16384) : nAndNot (49152 + q) 49152 = q := by
  have e : 49152 + q = 3 <<< 14 ||| q := by rw [← Nat.shiftLeft_add_eq_or_of_lt (by omega)]; rfl
  have e2 : (49152 : Nat) = 3 <<< 14 := rfl
  unfold nAndNot
  show (49152 + q) ^^^ ((49152 + q) &&& 49152) = q
  rw [e, e2]
  apply Nat.eq_of_testBit_eq
  intro i
  rw [Nat.testBit_xor, Nat.testBit_and, Nat.testBit_or]
  by_cases hi : i < 14
  · have : (3 <<< 14).testBit i = false := by rw [Nat.testBit_shiftLeft]; simp; omega
    rw [this]; simp
  · have : q.testBit i = false := Nat.testBit_lt_two_pow (Nat.lt_of_lt_of_le h (Nat.pow_le_pow_right (n := 2) (by omega) (show 14 ≤ i by omega)))
    rw [this]; simp
theorem plc_ptr {B : List UInt8} {p q : Nat} (h : u16 B p = 49152 + q) (hq : q < 16384) : plc B (p : Nat) = (q : Nat) := by
  unfold plc
  show nat2S nAndNot (IntKind.wrap .i64 ((u16 B p : Nat) : Int)) 49152 = _
  rw [h, wrap64 (by omega) (by omega)]
  show Int.ofNat (nAndNot (49152 + q) 49152) = _
  rw [ptrBits hq]; rfl
theorem okS {s : List UInt8} {a m : Nat} (h : a + m ≤ s.length) : okSome s (a : Nat) (m : Nat) = true := decide_eq_true (by omega)
theorem tstep_lab {B : List UInt8} {p : Nat} {fr be : Int} {out : List UInt8} (hk : at8 B p ≤ 63) (hl : p + 1 + at8 B p ≤ B.length) (ho : out.length + 1 + at8 B p ≤ 255) :
    tstep B ⟨p, fr, be, out⟩ = match decide (0 < at8 B p) with
      | true => .more ⟨(p + 1 + at8 B p : Nat), fr, be, out ++ UInt8.ofNat (at8 B p) :: fold (sub8 B (p + 1 : Nat) (at8 B p : Nat))⟩
      | false => .done (out ++ [UInt8.ofNat (at8 B p)]) (if be < 0 then ((p + 1 + at8 B p : Nat) : Int) else be) := by
  have e0 : okSome B (p : Nat) 1 = true := okS (m := 1) (by omega)
  have e1 : decide (63 < z8 B (p : Nat)) = false := decide_eq_false (by rw [z8_nat]; omega)
  have e2 : w8 B (p : Nat) = (at8 B p : Nat) := by rw [w8_eq, z8_nat]
  have e3 : okSome B ((p : Nat) + 1) ((at8 B p : Nat) : Int) = true := okS (a := p + 1) hl
  have e4 : lbl B (p : Nat) = sub8 B (p + 1 : Nat) (at8 B p : Nat) := by unfold lbl; rw [e2]; rfl
  have e5 : (sub8 B (p + 1 : Nat) (at8 B p : Nat)).length = at8 B p := by rw [sub8_length (okS (a := p + 1) hl)]; rfl
  have e6 : decide (255 < out.length + 1 + at8 B p) = false := decide_eq_false (by omega)
  have e7 : decide (0 < z8 B (p : Nat)) = decide (0 < at8 B p) := by rw [z8_nat]; simp
  have e8 : one B (p : Nat) = [UInt8.ofNat (at8 B p)] := rfl
  unfold tstep
  simp only [e0, e1, e2, e3, e4, e5, e6, e7, e8]
  cases decide (0 < at8 B p) with
  | true => simp only [List.append_assoc, List.singleton_append]; congr 2
  | false =>
    simp only
    congr 1
    by_cases hb : be < 0
    · rw [if_pos hb, decide_eq_true hb]; simp only; omega
    · rw [if_neg hb, decide_eq_false hb]
theorem tstep_ptr {B : List UInt8} {p q : Nat} {fr be : Int} {out : List UInt8} (hl : p + 2 ≤ B.length) (h : u16 B p = 49152 + q) (hq : q < 16384) (hf : (q : Int) < fr) :
    tstep B ⟨p, fr, be, out⟩ = .more ⟨(q : Nat), (q : Nat), if be < 0 then ((p + 2 : Nat) : Int) else be, out⟩ := by
  have h192 : 192 ≤ at8 B p := by
    have := at8_lt B (p + 1)
    have h' : at8 B p * 256 + at8 B (p + 1) = 49152 + q := h
    omega
  have e0 : okSome B (p : Nat) 1 = true := okS (m := 1) (by omega)
  have e1 : decide (63 < z8 B (p : Nat)) = true := decide_eq_true (by rw [z8_nat]; omega)
  have e2 : decide (z8 B (p : Nat) < 192) = false := decide_eq_false (by rw [z8_nat]; omega)
  have e3 : okSome B (p : Nat) 2 = true := okS (m := 2) (by omega)
  have e4 := plc_ptr h hq
  have e5 : decide ((q : Int) < fr) = true := decide_eq_true hf
  by_cases hb : be < 0
  · have e6 := decide_eq_true hb
    unfold tstep
    simp only [e0, e1, e2, e3, e4, e5, e6, if_pos hb]
    rfl
  · have e6 := decide_eq_false hb
    unfold tstep
    simp only [e0, e1, e2, e3, e4, e5, e6, if_neg hb]
theorem rd_tk {B : List UInt8} {fr : Int} {p e : Nat} {n : List UInt8} (h : Rd B fr p n e) : ∀ (be : Int) (out : List UInt8), out.length + n.length ≤ 255 → tkF B ⟨p, fr, be, out⟩ = some (out ++ n, if be < 0 then (e : Int) else be) := by
  induction h with
  | @root fr p a b =>
    intro be out ho
    have ho' : out.length + 1 ≤ 255 := ho
    rw [tkF_step (by show out.length ≤ 255; omega), tstep_lab (by omega) (by omega) (by omega), b]
    rfl
  | @lab fr p n e a b c d r ih =>
    intro be out ho
    have e5 : (sub8 B (p + 1 : Nat) (at8 B p : Nat)).length = at8 B p := by rw [sub8_length (okS (a := p + 1) c)]; rfl
    have ho' : out.length + (at8 B p + n.length + 1) ≤ 255 := by rw [List.length_cons, List.length_append, e5] at ho; exact ho
    rw [tkF_step (by show out.length ≤ 255; omega), tstep_lab b c (by omega), decide_eq_true a]
    simp only
    rw [ih be _ (by rw [List.length_append, List.length_cons, fold_length, e5]; omega), d]
    simp only [List.append_assoc, List.cons_append]
  | @ptr fr p q n e a b c d r ih =>
    intro be out ho
    rw [tkF_step (by show out.length ≤ 255; omega), tstep_ptr a b c d]
    simp only
    rw [ih _ out ho]
    by_cases hb : be < 0
    · rw [if_pos hb, if_neg (by omega)]
    · rw [if_neg hb, if_neg hb]
/-- a name at a place of its own is read -/
theorem rd_name {B : List UInt8} {p e : Nat} {n : List UInt8} (h : Rd B p p n e) (hn : n.length ≤ 255) : okA B (p : Nat) = true ∧ nmA B (p : Nat) = n ∧ nxA B (p : Nat) = (e : Nat) := by
  have h1 : nameAt B (p : Nat) (p : Nat) (-1) = some (n, (e : Int)) := by
    unfold nameAt
    rw [rd_tk h (-1) [] (by simpa using hn)]
    rfl
  refine ⟨?_, ?_, ?_⟩
  · unfold okA; rw [h1]; rfl
  · unfold nmA; rw [h1]; rfl
  · unfold nxA; rw [h1]; rfl
end Go.Proofs.YtgemonlknehegaaGreatDoor.AI
namespace Go.Proofs.YtgemonlknehegaaGreatDoor.AI
open Go
set_option linter.unusedVariables false
set_option linter.unusedSimpArgs false
/-! ### Names that may be -/
inductive Vn : List UInt8 → Prop
  | root : Vn [0]
  | lab {n : List UInt8} : lstep n = true → Vn (lrest n) → Vn n
theorem vn_of {n : List UInt8} : ∀ {acc : List Rc}, (wk n n acc).left = [0] → Vn n := by
  generalize hk : n.length = k
  induction k using Nat.strongRecOn generalizing n with
  | ind k ih =>
    intro acc h
    cases hs : lstep n with
    | true => rw [wk_step hs] at h; exact .lab hs (ih _ (by have := lstep_len hs; omega) rfl h)
    | false =>
      rw [wk_stop hs] at h
      have h' : n = [0] := h
      rw [h']; exact .root
theorem of_vn {n : List UInt8} (h : Vn n) : ∀ acc : List Rc, (wk n n acc).left = [0] := by
  induction h with
  | root => intro acc; rw [wk_stop (by decide)]
  | lab hs _ ih => intro acc; rw [wk_step hs]; exact ih _
structure GoodN (n : List UInt8) : Prop where
  vn : Vn n
  len : n.length ≤ 255
  fold : fold n = n
theorem mayN_iff {n : List UInt8} : mayN n = true ↔ GoodN n := by
  unfold mayN
  rw [Bool.and_eq_true, Bool.and_eq_true, decide_eq_true_eq, decide_eq_true_eq, decide_eq_true_eq]
  exact ⟨fun h => ⟨vn_of h.1, h.2.1, h.2.2⟩, fun h => ⟨of_vn h.vn [], h.len, h.fold⟩⟩
theorem toNat_ofNat {k : Nat} (h : k < 256) : (UInt8.ofNat k).toNat = k := by
  rw [UInt8.toNat_ofNat']; omega
theorem vn_lab {k : Nat} {l n : List UInt8} (h0 : 0 < k) (h1 : k ≤ 63) (hl : l.length = k) (hn : Vn n) (hne : 0 < n.length) : Vn (UInt8.ofNat k :: (l ++ n)) := by
  have e : k0 (UInt8.ofNat k :: (l ++ n)) = k := toNat_ofNat (by omega)
  refine .lab ?_ ?_
  · unfold lstep
    have hlen : k < (UInt8.ofNat k :: (l ++ n)).length := by rw [List.length_cons, List.length_append]; omega
    rw [e, decide_eq_true hlen, decide_eq_true h0, decide_eq_true h1]
    rfl
  · unfold lrest
    rw [e, Nat.add_comm, List.drop_succ_cons, List.drop_append_of_le_length (by omega), List.drop_of_length_le (by omega)]
    exact hn
theorem vn_pos {n : List UInt8} (h : Vn n) : 0 < n.length := by
  cases h with
  | root => decide
  | lab hs _ => have := lstep_iff hs; omega
theorem fold1_idem (c : UInt8) : fold1 (fold1 c) = fold1 c := by
  unfold fold1
  by_cases h : 65 ≤ c.toNat ∧ c.toNat ≤ 90
  · rw [if_pos h, if_neg]
    have : (c + 32).toNat = c.toNat + 32 := by rw [UInt8.toNat_add]; show (c.toNat + 32) % 256 = _; omega
    omega
  · rw [if_neg h, if_neg h]
theorem fold_idem (l : List UInt8) : fold (fold l) = fold l := by
  unfold fold; rw [List.map_map]; apply List.map_congr_left; intro c _; exact fold1_idem c
theorem fold_app (a b : List UInt8) : fold (a ++ b) = fold a ++ fold b := List.map_append ..
theorem fold_small {k : Nat} (h : k ≤ 63) : fold [UInt8.ofNat k] = [UInt8.ofNat k] := by
  show [fold1 (UInt8.ofNat k)] = _
  rw [fold1_id]
  rw [toNat_ofNat (by omega)]; omega
/-- what is read as a name is one -/
theorem tk_good {s : List UInt8} : ∀ (f : Nat) (x : TS) (r : List UInt8 × Int), x.out.length ≤ 255 → tk f s x = some r → ∃ n, r.1 = x.out ++ n ∧ Vn n ∧ fold n = n ∧ r.1.length ≤ 255
  | 0, _, _, _, h => by cases h
  | f + 1, x, r, hx, h => by
    have h' : (match tstep s x with | .err => none | .more y => tk f s y | .done n b => some (n, b)) = some r := h
    cases hs : tstep s x with
    | err => rw [hs] at h'; cases h'
    | more y =>
      rw [hs] at h'
      obtain ⟨n, e1, e2, e3, e4⟩ := tk_good f y r (tstep_mu hx hs).2 h'
      unfold tstep at hs
      split at hs
      · cases hs
      · split at hs
        · cases hs
        · split at hs
          · split at hs
            · cases hs; exact ⟨n, e1, e2, e3, e4⟩
            · cases hs
          · cases hs
        · rename_i hz
          split at hs
          · cases hs
          · rename_i hok
            split at hs
            · cases hs
            · split at hs
              · rename_i hz2
                cases hs
                have hz1 := of_decide_eq_true hz2
                have hz3 := of_decide_eq_false hz
                rw [z8_lt' s x.a] at hz1 hz3
                have e5 : one s x.a = [UInt8.ofNat (at8 s x.a.toNat)] := rfl
                have e6 : (fold (lbl s x.a)).length = at8 s x.a.toNat := by rw [fold_length, lbl_length hok]; rfl
                refine ⟨UInt8.ofNat (at8 s x.a.toNat) :: (fold (lbl s x.a) ++ n), ?_, vn_lab (by omega) (by omega) e6 e2 (vn_pos e2), ?_, e4⟩
                · rw [e1]; show x.out ++ one s x.a ++ fold (lbl s x.a) ++ n = _; rw [e5]; simp only [List.append_assoc, List.cons_append, List.nil_append]
                · have := fold_small (k := at8 s x.a.toNat) (by omega)
                  show fold ([UInt8.ofNat (at8 s x.a.toNat)] ++ (fold (lbl s x.a) ++ n)) = _
                  rw [fold_app, fold_app, fold_idem, this, e3]; rfl
              · cases hs
    | done m b =>
      rw [hs] at h'
      cases h'
      unfold tstep at hs
      split at hs
      · cases hs
      · split at hs
        · cases hs
        · split at hs
          · split at hs <;> cases hs
          · cases hs
        · split at hs
          · cases hs
          · split at hs
            · cases hs
            · rename_i hlen
              split at hs
              · cases hs
              · rename_i hz2
                cases hs
                have hz1 := of_decide_eq_false hz2
                rw [z8_lt' s x.a] at hz1
                have h0 : at8 s x.a.toNat = 0 := by omega
                have e5 : one s x.a = [0] := by show [UInt8.ofNat (at8 s x.a.toNat)] = _; rw [h0]; rfl
                have hl := of_decide_eq_false hlen
                refine ⟨[0], by show x.out ++ one s x.a = _; rw [e5], .root, by decide, ?_⟩
                show (x.out ++ one s x.a).length ≤ 255
                rw [e5, List.length_append]; simp only [List.length_cons, List.length_nil]; omega
  where z8_lt' (s : List UInt8) (a : Int) : z8 s a = (at8 s a.toNat : Nat) := rfl
theorem nmA_good {s : List UInt8} {a : Int} (h : okA s a = true) : GoodN (nmA s a) := by
  unfold okA at h
  unfold nmA nmOf
  cases h1 : nameAt s a a (-1) with
  | none => rw [h1] at h; cases h
  | some r =>
    obtain ⟨n, e1, e2, e3, e4⟩ := tk_good _ _ r (Nat.zero_le _) h1
    have e1' : r.1 = n := e1
    show GoodN r.1
    rw [e1'] at e4 ⊢
    exact ⟨e2, e4, e3⟩
/-! ### Names that are put -/
def p16 (x : Nat) : List UInt8 := [UInt8.ofNat (x / 256), UInt8.ofNat (x % 256)]
theorem p16_u16 {x : Nat} (h : x < 65536) (B Y : List UInt8) : u16 (B ++ (p16 x ++ Y)) B.length = x := by
  unfold u16
  have e0 : at8 (B ++ (p16 x ++ Y)) B.length = x / 256 := by
    rw [show B.length = B.length + 0 from rfl, at8_app2]; exact toNat_ofNat (by omega)
  have e1 : at8 (B ++ (p16 x ++ Y)) (B.length + 1) = x % 256 := by
    rw [at8_app2]; exact toNat_ofNat (by omega)
  rw [e0, e1]; omega
structure PK where
  B : List UInt8
  K : List (List UInt8 × Int)
def npT : Nat → List UInt8 → PK → PK
  | 0, n, p => ⟨p.B ++ n, p.K⟩
  | f + 1, n, p => match decide (n = [0]) with
    | true => ⟨p.B ++ n, p.K⟩
    | false => match slook p.K n with
      | some a => ⟨p.B ++ p16 (Nat.lor 49152 a.toNat), p.K⟩
      | none => npT f (lrest n) ⟨p.B ++ n.take (1 + k0 n), match decide (p.B.length < 16384) with | true => sput p.K n p.B.length | false => p.K⟩
def npF (n : List UInt8) (p : PK) : PK := npT n.length n p
theorem slook_put (K : List (List UInt8 × Int)) (n m : List UInt8) (a : Int) : slook (sput K n a) m = if n = m then some a else slook K m := by
  induction K with
  | nil => rfl
  | cons e K ih =>
    unfold sput
    by_cases h : e.1 = n
    · rw [if_pos h]
      unfold slook
      subst h
      by_cases h2 : e.1 = m
      · rw [if_pos h2, if_pos h2]
      · rw [if_neg h2, if_neg h2, if_neg h2]
    · rw [if_neg h]
      unfold slook
      by_cases h2 : e.1 = m
      · rw [if_pos h2, if_pos h2, if_neg (fun e' => h (h2.trans e'.symm))]
      · rw [if_neg h2, if_neg h2]; exact ih
/-- whatever is known stands there -/
def KI (p : PK) : Prop := ∀ m a, slook p.K m = some a → ∃ q : Nat, a = (q : Nat) ∧ q < p.B.length ∧ q < 16384 ∧ ∃ e, Rd p.B q q m e
def KE (B : List UInt8) (a0 : Nat) (rem m : List UInt8) (a : Int) : Prop :=
  ∃ q : Nat, a = (q : Nat) ∧ q < B.length ∧ q < 16384 ∧ ((q < a0 ∧ ∃ e, Rd B q q m e) ∨ (a0 ≤ q ∧ rem.length < m.length ∧ ∀ X e, Rd (B ++ X) q B.length rem e → Rd (B ++ X) q q m e))
theorem rd_step {B X n : List UInt8} {fr : Int} {e : Nat} (hs : lstep n = true) (hf : fold n = n) (h : Rd (B ++ n.take (1 + k0 n) ++ X) fr (B ++ n.take (1 + k0 n)).length (lrest n) e) : Rd (B ++ n.take (1 + k0 n) ++ X) fr B.length n e := by
  obtain ⟨h1, h2, h3, h4⟩ := lstep_iff hs
  cases n with
  | nil => exact absurd rfl h1
  | cons c t =>
    have hk : k0 (c :: t) = c.toNat := rfl
    rw [hk] at h2 h3 h4
    rw [List.length_cons] at h4
    have ht : (c :: t).take (1 + k0 (c :: t)) = c :: t.take c.toNat := by rw [hk, Nat.add_comm]; rfl
    have hr : lrest (c :: t) = t.drop c.toNat := by unfold lrest; rw [hk, Nat.add_comm]; rfl
    have hft : fold (t.take c.toNat) = t.take c.toNat := by
      have hf' : fold t = t := (List.cons.inj hf).2
      unfold fold at hf' ⊢
      rw [List.map_take, hf']
    rw [ht] at h ⊢
    rw [hr] at h
    have hl : (t.take c.toNat).length = c.toNat := by rw [List.length_take]; omega
    have e0 : at8 (B ++ c :: t.take c.toNat ++ X) B.length = c.toNat := by
      rw [List.append_assoc, show B.length = B.length + 0 from rfl, at8_app2]; rfl
    have e1 : sub8 (B ++ c :: t.take c.toNat ++ X) (B.length + 1 : Nat) (c.toNat : Nat) = t.take c.toNat := by
      unfold sub8
      show ((B ++ c :: t.take c.toNat ++ X).drop (B.length + 1)).take c.toNat = _
      rw [List.append_assoc, List.drop_append, List.drop_of_length_le (by omega), show B.length + 1 - B.length = 1 by omega]
      show (t.take c.toNat ++ X).take c.toNat = _
      rw [List.take_append_of_le_length (by omega), List.take_of_length_le (by omega)]
    have hlen : (B ++ c :: t.take c.toNat).length = B.length + 1 + c.toNat := by rw [List.length_append, List.length_cons, hl]; omega
    rw [hlen] at h
    have := Rd.lab (B := B ++ c :: t.take c.toNat ++ X) (fr := fr) (p := B.length) (n := t.drop c.toNat) (e := e) (by rw [e0]; exact h2) (by rw [e0]; exact h3)
      (by rw [e0, List.length_append, hlen]; omega) (by rw [e0, e1]; exact hft) (by rw [e0]; exact h)
    rw [e0, e1, List.take_append_drop, UInt8.ofNat_toNat] at this
    exact this
theorem lor_ptr {q : Nat} (h : q < 16384) : Nat.lor 49152 q = 49152 + q := by
  show 49152 ||| q = _
  have : (49152 : Nat) = 3 <<< 14 := rfl
  rw [this, Nat.shiftLeft_add_eq_or_of_lt h]
theorem np_ok : ∀ (f : Nat) (n B : List UInt8) (K : List (List UInt8 × Int)) (a0 : Nat), n.length ≤ f → Vn n → fold n = n → a0 ≤ B.length → (∀ m a, slook K m = some a → KE B a0 n m a) →
    (∃ X, (npT f n ⟨B, K⟩).B = B ++ X) ∧ KI (npT f n ⟨B, K⟩) ∧ ∀ fr : Int, a0 ≤ fr → Rd (npT f n ⟨B, K⟩).B fr B.length n (npT f n ⟨B, K⟩).B.length
  | 0, n, B, K, a0, hl, hv, _, _, _ => by have := vn_pos hv; omega
  | f + 1, n, B, K, a0, hl, hv, hf, ha, hK => by
    unfold npT
    by_cases h0 : n = [0]
    · rw [decide_eq_true h0]
      subst h0
      simp only
      have e0 : ∀ X, at8 (B ++ [0] ++ X) B.length = 0 := fun X => by
        rw [List.append_assoc, show B.length = B.length + 0 from rfl, at8_app2]; rfl
      have rd : ∀ fr : Int, Rd (B ++ [0]) fr B.length [0] (B ++ [0]).length := fun fr => by
        have := Rd.root (B := B ++ [0]) (fr := fr) (p := B.length) (by rw [List.length_append]; exact Nat.lt_succ_self _) (by have := e0 []; rwa [List.append_nil] at this)
        rw [List.length_append]; exact this
      refine ⟨⟨_, rfl⟩, fun m a hm => ?_, fun fr _ => rd fr⟩
      obtain ⟨q, h1, h2, h3, h4⟩ := hK m a hm
      refine ⟨q, h1, by rw [List.length_append]; omega, h3, ?_⟩
      rcases h4 with ⟨_, e, h5⟩ | ⟨_, _, h5⟩
      · exact ⟨e, rd_app _ h5⟩
      · exact ⟨_, h5 [0] _ (rd _)⟩
    · rw [decide_eq_false h0]
      simp only
      cases hk : slook K n with
      | some a =>
        simp only
        obtain ⟨q, h1, h2, h3, h4⟩ := hK n a hk
        have hq : q < a0 ∧ ∃ e, Rd B q q n e := by
          rcases h4 with h5 | ⟨_, h5, _⟩
          · exact h5
          · omega
        obtain ⟨hq0, e, hq1⟩ := hq
        have ea : Nat.lor 49152 a.toNat = 49152 + q := by rw [h1]; exact lor_ptr h3
        rw [ea]
        have hlen : (B ++ p16 (49152 + q)).length = B.length + 2 := by rw [List.length_append]; rfl
        have rd : ∀ fr : Int, a0 ≤ fr → Rd (B ++ p16 (49152 + q)) fr B.length n (B ++ p16 (49152 + q)).length := fun fr hfr => by
          have := p16_u16 (x := 49152 + q) (by omega) B []
          rw [List.append_nil] at this
          rw [hlen]
          exact .ptr (by omega) this h3 (by omega) (rd_app _ hq1)
        refine ⟨⟨_, rfl⟩, fun m b hm => ?_, rd⟩
        obtain ⟨q', g1, g2, g3, g4⟩ := hK m b hm
        refine ⟨q', g1, by rw [hlen]; omega, g3, ?_⟩
        rcases g4 with ⟨_, e, h5⟩ | ⟨g6, _, h5⟩
        · exact ⟨e, rd_app _ h5⟩
        · exact ⟨_, h5 _ _ (rd _ (by omega))⟩
      | none =>
        simp only
        cases hv with
        | root => exact absurd rfl h0
        | lab hs hv' =>
          obtain ⟨s1, s2, s3, s4⟩ := lstep_iff hs
          have hlt := lstep_len hs
          have htk : (n.take (1 + k0 n)).length = 1 + k0 n := by rw [List.length_take]; omega
          have hB1 : (B ++ n.take (1 + k0 n)).length = B.length + (1 + k0 n) := by rw [List.length_append, htk]
          have hf' : fold (lrest n) = lrest n := by
            unfold lrest fold at *
            rw [List.map_drop, hf]
          have old : ∀ m a, slook K m = some a → KE (B ++ n.take (1 + k0 n)) a0 (lrest n) m a := fun m a hm => by
            obtain ⟨q, g1, g2, g3, g4⟩ := hK m a hm
            refine ⟨q, g1, by omega, g3, ?_⟩
            rcases g4 with ⟨g5, e, g6⟩ | ⟨g5, g6, g7⟩
            · exact .inl ⟨g5, e, rd_app _ g6⟩
            · refine .inr ⟨g5, by omega, fun X e hr => ?_⟩
              have := g7 (n.take (1 + k0 n) ++ X) e
              rw [← List.append_assoc] at this
              exact this (rd_step hs hf hr)
          obtain ⟨⟨X, c1⟩, c2, c3⟩ := np_ok f (lrest n) (B ++ n.take (1 + k0 n)) (match decide (B.length < 16384) with | true => sput K n B.length | false => K) a0 (by omega) hv' hf' (by omega) (fun m a hm => by
            by_cases hb : B.length < 16384
            · rw [decide_eq_true hb] at hm
              simp only at hm
              rw [slook_put] at hm
              by_cases hn : n = m
              · rw [if_pos hn] at hm
                cases hm
                subst hn
                exact ⟨B.length, rfl, by omega, hb, .inr ⟨ha, hlt, fun X e hr => rd_step hs hf hr⟩⟩
              · rw [if_neg hn] at hm; exact old m a hm
            · rw [decide_eq_false hb] at hm; exact old m a hm)
          refine ⟨⟨n.take (1 + k0 n) ++ X, by rw [c1, List.append_assoc]⟩, c2, fun fr hfr => ?_⟩
          have := c3 fr hfr
          rw [c1] at this ⊢
          exact rd_step hs hf this
theorem np_name {n : List UInt8} {p : PK} (hg : GoodN n) (hk : KI p) : (∃ X, (npF n p).B = p.B ++ X) ∧ KI (npF n p) ∧ Rd (npF n p).B p.B.length p.B.length n (npF n p).B.length := by
  obtain ⟨a, b, c⟩ := np_ok n.length n p.B p.K p.B.length (Nat.le_refl _) hg.vn hg.fold (Nat.le_refl _) (fun m a hm => by
    obtain ⟨q, h1, h2, h3, h4⟩ := hk m a hm
    exact ⟨q, h1, h2, h3, .inl ⟨h2, h4⟩⟩)
  exact ⟨a, b, c _ (Int.le_refl _)⟩
end Go.Proofs.YtgemonlknehegaaGreatDoor.AI
namespace Go.Proofs.YtgemonlknehegaaGreatDoor.AI
open Go
set_option linter.unusedVariables false
set_option linter.unusedSimpArgs false
def rcQ (s : List UInt8) (a : Int) : Rc := [.s (nmA s a), .n ((u16 s (Int.toNat (nxA s a)) : Nat) : Int), .n ((u16 s (Int.toNat (nxA s a + 2)) : Nat) : Int)]
def qsT (s : List UInt8) : Nat → Int → List Rc → Option (List Rc × Int)
  | 0, a, acc => some (acc, a)
  | k + 1, a, acc => match okQ s a with
    | true => qsT s k (nxA s a + 2 + 2) (acc ++ [rcQ s a])
    | false => none
structure GoodQ (r : Rc) : Prop where
  eq : ∃ n t c, r = [.s n, .n t, .n c] ∧ GoodN n ∧ 0 ≤ t ∧ t < 65536 ∧ 0 ≤ c ∧ c < 65536
theorem rcQ_good {s : List UInt8} {a : Int} (h : okQ s a = true) : GoodQ (rcQ s a) := by
  unfold okQ at h
  rw [Bool.and_eq_true] at h
  have h1 := u16_lt s (Int.toNat (nxA s a))
  have h2 := u16_lt s (Int.toNat (nxA s a + 2))
  exact ⟨_, _, _, rfl, nmA_good h.1, by omega, by omega, by omega, by omega⟩
theorem qsT_good {s : List UInt8} : ∀ (k : Nat) (a : Int) (acc : List Rc) (r : List Rc × Int), (∀ x ∈ acc, GoodQ x) → qsT s k a acc = some r → (∀ x ∈ r.1, GoodQ x) ∧ r.1.length = acc.length + k
  | 0, a, acc, r, h, e => by cases e; exact ⟨h, rfl⟩
  | k + 1, a, acc, r, h, e => by
    unfold qsT at e
    split at e
    · rename_i hk
      obtain ⟨h1, h2⟩ := qsT_good k _ _ r (fun x hx => by
        rcases List.mem_append.1 hx with hx | hx
        · exact h x hx
        · rw [List.mem_singleton.1 hx]; exact rcQ_good hk) e
      exact ⟨h1, by rw [h2, List.length_append]; simp only [List.length_cons, List.length_nil]; omega⟩
    · cases e
def qPut (p : PK) (r : Rc) : PK := ⟨(npF (fldS r 0) p).B ++ (p16 (fldN r 1).toNat ++ p16 (fldN r 2).toNat), (npF (fldS r 0) p).K⟩
theorem ki_app {p : PK} (X : List UInt8) (h : KI p) : KI ⟨p.B ++ X, p.K⟩ := fun m a hm => by
  obtain ⟨q, h1, h2, h3, e, h4⟩ := h m a hm
  exact ⟨q, h1, by show q < (p.B ++ X).length; rw [List.length_append]; omega, h3, e, rd_app _ h4⟩
theorem q_ok {p : PK} {r : Rc} (hg : GoodQ r) (hk : KI p) : (∃ X, (qPut p r).B = p.B ++ X) ∧ KI (qPut p r) ∧ ∀ Y, okQ ((qPut p r).B ++ Y) p.B.length = true ∧ rcQ ((qPut p r).B ++ Y) p.B.length = r ∧ nxA ((qPut p r).B ++ Y) p.B.length + 2 + 2 = (qPut p r).B.length := by
  obtain ⟨n, t, c, rfl, gn, t0, t1, c0, c1⟩ := hg.eq
  obtain ⟨⟨X, a⟩, b, rd⟩ := np_name gn hk
  have e0 : fldS [.s n, .n t, .n c] 0 = n := rfl
  have e1 : fldN [.s n, .n t, .n c] 1 = t := rfl
  have e2 : fldN [.s n, .n t, .n c] 2 = c := rfl
  have hq : qPut p [.s n, .n t, .n c] = ⟨(npF n p).B ++ (p16 t.toNat ++ p16 c.toNat), (npF n p).K⟩ := rfl
  rw [hq]
  refine ⟨⟨X ++ (p16 t.toNat ++ p16 c.toNat), by rw [a, List.append_assoc]⟩, ki_app _ b, fun Y => ?_⟩
  have hlen : ((npF n p).B ++ (p16 t.toNat ++ p16 c.toNat)).length = (npF n p).B.length + 4 := by rw [List.length_append]; rfl
  have rd' := rd_app (p16 t.toNat ++ p16 c.toNat ++ Y) rd
  rw [← List.append_assoc] at rd'
  obtain ⟨k1, k2, k3⟩ := rd_name rd' gn.len
  have u1 : u16 ((npF n p).B ++ (p16 t.toNat ++ p16 c.toNat) ++ Y) (npF n p).B.length = t.toNat := by
    rw [List.append_assoc, List.append_assoc]; exact p16_u16 (by omega) _ _
  have u2 : u16 ((npF n p).B ++ (p16 t.toNat ++ p16 c.toNat) ++ Y) ((npF n p).B.length + 2) = c.toNat := by
    have := p16_u16 (x := c.toNat) (by omega) ((npF n p).B ++ p16 t.toNat) Y
    rw [List.length_append, show (p16 t.toNat).length = 2 from rfl] at this
    simpa [List.append_assoc] using this
  refine ⟨?_, ?_, ?_⟩
  · unfold okQ
    rw [k1, k3]
    have l1 : okSome ((npF n p).B ++ (p16 t.toNat ++ p16 c.toNat) ++ Y) ((npF n p).B.length : Nat) 2 = true := okS (m := 2) (by rw [List.length_append, hlen]; omega)
    have l2 : okSome ((npF n p).B ++ (p16 t.toNat ++ p16 c.toNat) ++ Y) (((npF n p).B.length : Nat) + 2) 2 = true := okS (a := (npF n p).B.length + 2) (m := 2) (by rw [List.length_append, hlen]; omega)
    rw [l1, l2]; rfl
  · unfold rcQ
    rw [k2, k3]
    have t2 : Int.toNat (((npF n p).B.length : Nat) : Int) = (npF n p).B.length := rfl
    have t3 : Int.toNat ((((npF n p).B.length : Nat) : Int) + 2) = (npF n p).B.length + 2 := by omega
    rw [t2, t3, u1, u2, Int.toNat_of_nonneg t0, Int.toNat_of_nonneg c0]
  · rw [k3, hlen]; omega
theorem qs_ok : ∀ (L : List Rc) (p : PK), (∀ r ∈ L, GoodQ r) → KI p → (∃ X, (L.foldl qPut p).B = p.B ++ X) ∧ KI (L.foldl qPut p) ∧ ∀ Y acc, qsT ((L.foldl qPut p).B ++ Y) L.length p.B.length acc = some (acc ++ L, (((L.foldl qPut p).B.length : Nat) : Int))
  | [], p, _, hk => ⟨⟨[], by simp⟩, hk, fun Y acc => by simp [qsT]⟩
  | r :: L, p, hL, hk => by
    obtain ⟨⟨X, a⟩, b, c⟩ := q_ok (hL r (List.mem_cons_self ..)) hk
    obtain ⟨⟨X', a'⟩, b', c'⟩ := qs_ok L (qPut p r) (fun x hx => hL x (List.mem_cons_of_mem _ hx)) b
    refine ⟨⟨X ++ X', by show (L.foldl qPut (qPut p r)).B = _; rw [a', a, List.append_assoc]⟩, b', fun Y acc => ?_⟩
    show qsT ((L.foldl qPut (qPut p r)).B ++ Y) (L.length + 1) p.B.length acc = some (acc ++ r :: L, (((L.foldl qPut (qPut p r)).B.length : Nat) : Int))
    obtain ⟨d1, d2, d3⟩ := c (X' ++ Y)
    rw [← List.append_assoc, ← a'] at d1 d2 d3
    unfold qsT
    rw [d1]
    simp only
    rw [d2, d3, c' Y (acc ++ [r])]
    simp only [List.append_assoc, List.singleton_append]
end Go.Proofs.YtgemonlknehegaaGreatDoor.AI
