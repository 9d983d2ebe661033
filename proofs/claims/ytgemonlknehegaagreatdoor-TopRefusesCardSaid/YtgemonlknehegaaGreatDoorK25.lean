/- The chain of TopRefuses, part 25. -/
import Derived.Test.YtgemonlknehegaaGreatDoorK24
namespace Go.Proofs.YtgemonlknehegaaGreatDoor.AI
open Go
set_option linter.unusedVariables false
set_option linter.unusedSimpArgs false
/-! ### Records as cells -/
theorem encR_length : ∀ (S : List FK) (r : Rc), (encR S r).length = S.length
  | [], _ => rfl
  | k :: S, r => by simp [encR, encR_length S]
theorem encL_nil (S : List FK) : encL S [] = [] := rfl
theorem encL_cons (S : List FK) (r : Rc) (l : List Rc) : encL S (r :: l) = encR S r ++ encL S l := by simp [encL]
theorem encL_append (S : List FK) (l m : List Rc) : encL S (l ++ m) = encL S l ++ encL S m := by simp [encL]
theorem encL_length (S : List FK) : ∀ l : List Rc, (encL S l).length = l.length * S.length
  | [] => by simp [encL]
  | r :: l => by rw [encL_cons, List.length_append, encR_length, encL_length S l, List.length_cons, Nat.succ_mul]; omega
theorem encL_split (S : List FK) {l : List Rc} {i : Nat} (h : i < l.length) : encL S l = encL S (l.take i) ++ (encR S (l.getD i []) ++ encL S (l.drop (i + 1))) := by
  have e : l = l.take i ++ (l.getD i [] :: l.drop (i + 1)) := by
    rw [List.getD_eq_getElem?_getD, List.getElem?_eq_getElem h, Option.getD_some, List.getElem_cons_drop h, List.take_append_drop]
  conv => lhs; rw [e]
  rw [encL_append, encL_cons]
theorem encL_take (S : List FK) (l : List Rc) (n : Nat) : (encL S l).take (n * S.length) = encL S (l.take n) := by
  by_cases h : n ≤ l.length
  · conv => lhs; rw [← List.take_append_drop n l, encL_append]
    rw [List.take_append_of_le_length (by rw [encL_length, List.length_take, Nat.min_eq_left h]; omega)]
    rw [List.take_of_length_le (by rw [encL_length, List.length_take, Nat.min_eq_left h]; omega)]
  · rw [List.take_of_length_le (by rw [encL_length]; exact Nat.mul_le_mul_right _ (by omega)), List.take_of_length_le (by omega)]
theorem encL_drop (S : List FK) (l : List Rc) (n : Nat) : (encL S l).drop (n * S.length) = encL S (l.drop n) := by
  by_cases h : n ≤ l.length
  · conv => lhs; rw [← List.take_append_drop n l, encL_append]
    rw [List.drop_append, List.drop_of_length_le (by rw [encL_length, List.length_take, Nat.min_eq_left h]; omega), encL_length, List.length_take, Nat.min_eq_left h]
    simp
  · rw [List.drop_of_length_le (by rw [encL_length]; exact Nat.mul_le_mul_right _ (by omega)), List.drop_of_length_le (by omega)]; rfl
/-- a part of a record among all cells -/
theorem encL_part (S : List FK) {l : List Rc} {i fo n : Nat} (h : i < l.length) (hn : fo + n ≤ S.length) : ((encL S l).drop (i * S.length + fo)).take n = ((encR S (l.getD i [])).drop fo).take n := by
  rw [encL_split S h, ← List.drop_drop]
  have e : (encL S (l.take i)).length = i * S.length := by rw [encL_length, List.length_take, Nat.min_eq_left (by omega)]
  rw [← e, List.drop_left]
  rw [List.drop_append_of_le_length (by rw [encR_length]; omega)]
  rw [List.take_append_of_le_length (by rw [List.length_drop, encR_length]; omega)]
theorem encL_get (S : List FK) {l : List Rc} {i fo : Nat} (h : i < l.length) (hn : fo < S.length) : (encL S l)[i * S.length + fo]? = (encR S (l.getD i []))[fo]? := by
  have e := congrArg (fun (x : List AV) => x[0]?) (encL_part S (fo := fo) (n := 1) h (by omega))
  simpa [List.getElem?_take, List.getElem?_drop] using e
section
variable {κ : Kp}
theorem sden_sv (k : FK) (x : Lf) : sden κ (k.sv x) = some (k.av x) := by cases k <;> rfl
theorem sdenL_svR : ∀ (S : List FK) (r : Rc), sdenL κ (svR S r) = some (encR S r)
  | [], _ => rfl
  | k :: S, r => sdenL_cons.2 ⟨_, _, sden_sv k _, sdenL_svR S r.tail, rfl⟩
theorem svR_length : ∀ (S : List FK) (r : Rc), (svR S r).length = S.length
  | [], _ => rfl
  | k :: S, r => by simp [svR, svR_length S]
end
theorem bytesCells_map (l : List UInt8) : bytesCells l = l.map fun b => AV.int .u8 (Int.ofNat b.toNat) := by
  unfold bytesCells
  rw [lmap_eq]
  apply List.map_congr_left
  intro b _
  rw [force_eq]
theorem lover_of {α : Type} : ∀ {vs l : List α}, vs.length ≤ l.length → lover vs l = some (vs ++ l.drop vs.length) := by
  intro vs
  induction vs with
  | nil => intro l _; rfl
  | cons v vs ih =>
    intro l h
    cases l with
    | nil => simp at h
    | cons a l =>
      have e : lover (v :: vs) (a :: l) = Option.rec (motive := fun _ => Option (List α)) none (fun r => some (v :: r)) (lover vs l) := rfl
      rw [e, ih (by simpa using h)]; rfl
theorem lput_of {α : Type} : ∀ {k : Nat} {vs l : List α}, k + vs.length ≤ l.length → lput k vs l = some (l.take k ++ vs ++ l.drop (k + vs.length)) := by
  intro k
  induction k with
  | zero => intro vs l h; show lover vs l = _; rw [lover_of (by omega)]; simp
  | succ k ih =>
    intro vs l h
    cases l with
    | nil => simp at h
    | cons a l =>
      have e : lput (k + 1) vs (a :: l) = Option.rec (motive := fun _ => Option (List α)) none (fun r => some (a :: r)) (lput k vs l) := rfl
      rw [e, ih (by simp at h; omega)]
      have : k + 1 + vs.length = (k + vs.length) + 1 := by omega
      rw [this]; rfl
theorem ltake_of {α : Type} {k : Nat} {l : List α} (h : k ≤ l.length) : ltake k l = some (l.take k) := by rw [ltake_eq, if_pos h]

/-! ### Memory -/
def mden (κ : Kp) : List (SV × SV × Nat) → Option (List ME)
  | [] => some []
  | e :: l => match sden κ e.1, sden κ e.2.1, mden κ l with | some k, some v, some r => some (⟨k, v, e.2.2⟩ :: r) | _, _, _ => none
def smapE : List (List UInt8 × Int) → Nat → List ME
  | [], _ => []
  | p :: l, i => ⟨.str p.1, .int .i64 p.2, i⟩ :: smapE l (i + 1)
noncomputable def getTm (t : Tm) : List Nat → Option (List AV)
  | [] => some []
  | i :: l => match t.get (posOf i), getTm t l with | some v, some r => some (v :: r) | _, _ => none
def ORel (κ : Kp) : SO → AObj → Prop
  | .row ty cells opn, ao => ∃ cs, sdenL κ cells = some cs ∧ ao = .row ty cs cs.length opn
  | .lrow ty S l, ao => ao = .row ty (encL S l) (l.length * S.length) (some l.length)
  | .bytes ty l, ao => ao = .row ty (bytesCells l) l.length (some l.length)
  | .map es clock, ao => ∃ mes, mden κ es = some mes ∧ ao = .map mes clock
  | .smap l, ao => ao = .map (smapE l 0) l.length
  | .loop f ix ts ps a c, ao => ∃ tm d as, ao = .loop .ready none f tm ps a c d ∧ getTm tm ix = some as ∧ sdenL κ ts = some as
structure St (κ : Kp) (sh : SH) (h : H) : Prop where
  rel : ∀ x o, sh.get x = some o → ∃ p ao, κ x = some p ∧ h.objs.get p = some ao ∧ ORel κ o ao
  inj : ∀ x y p, κ x = some p → κ y = some p → x = y
  fresh : ∀ x, sh.nm ≤ x → κ x = none
  low : ∀ x p, κ x = some p → p.toNat < h.next.toNat
  bnd : ∀ x o, sh.get x = some o → x < sh.nm
/-- what may have turned since (κ, sh, h) -/
structure Fr (κ : Kp) (sh : SH) (h : H) (κ' : Kp) (sh' : SH) (h' : H) : Prop where
  le : κ.le κ'
  nm : sh.nm ≤ sh'.nm
  next : h.next.toNat ≤ h'.next.toNat
  kept : ∀ p, p.toNat < h.next.toNat → (∀ x o, sh.get x = some o → κ x ≠ some p) → h'.objs.get p = h.objs.get p
  old : ∀ x, x < sh.nm → κ' x = κ x
  sub : ∀ x o, sh'.get x = some o → x < sh.nm → ∃ o0, sh.get x = some o0
  new : ∀ x p, sh.nm ≤ x → κ' x = some p → h.next.toNat ≤ p.toNat
section
variable {κ κ' κ'' : Kp} {sh sh' sh'' : SH} {h h' h'' : H}
theorem Fr.refl (s : St κ sh h) : Fr κ sh h κ sh h :=
  ⟨Kp.le_refl κ, Nat.le_refl _, Nat.le_refl _, fun _ _ _ => rfl, fun _ _ => rfl, fun x o ho _ => ⟨o, ho⟩, fun x p hx hp => by rw [s.fresh x hx] at hp; cases hp⟩
theorem Fr.trans (a : Fr κ sh h κ' sh' h') (b : Fr κ' sh' h' κ'' sh'' h'') : Fr κ sh h κ'' sh'' h'' := by
  refine ⟨Kp.le_trans a.le b.le, Nat.le_trans a.nm b.nm, Nat.le_trans a.next b.next, fun p hp hk => ?_, fun x hx => ?_, fun x o ho hx => ?_, fun x p hx hp => ?_⟩
  · rw [b.kept p (Nat.lt_of_lt_of_le hp a.next) (fun x o ho he => ?_), a.kept p hp hk]
    by_cases hx : x < sh.nm
    · obtain ⟨o0, h0⟩ := a.sub x o ho hx
      exact hk x o0 h0 ((a.old x hx) ▸ he)
    · have := a.new x p (by omega) he; omega
  · rw [b.old x (Nat.lt_of_lt_of_le hx a.nm), a.old x hx]
  · obtain ⟨o1, h1⟩ := b.sub x o ho (Nat.lt_of_lt_of_le hx a.nm)
    exact a.sub x o1 h1 hx
  · by_cases hx' : x < sh'.nm
    · rw [b.old x hx'] at hp; exact a.new x p hx hp
    · exact Nat.le_trans a.next (b.new x p (by omega) hp)
theorem mden_mono (hl : κ.le κ') : ∀ {es : List (SV × SV × Nat)} {r : List ME}, mden κ es = some r → mden κ' es = some r
  | [], _, h => h
  | e :: l, _, h => by
    unfold mden at h ⊢
    cases h1 : sden κ e.1 with
    | none => simp [h1] at h
    | some k => cases h2 : sden κ e.2.1 with
      | none => simp [h1, h2] at h
      | some v => cases h3 : mden κ l with
        | none => simp [h1, h2, h3] at h
        | some r => simp only [h1, h2, h3] at h; rw [sden_mono hl h1, sden_mono hl h2, mden_mono hl h3]; exact h
theorem ORel.mono (hl : κ.le κ') {o : SO} {ao : AObj} (h : ORel κ o ao) : ORel κ' o ao := by
  cases o with
  | row ty cells opn => obtain ⟨cs, h1, h2⟩ := h; exact ⟨cs, sdenL_mono hl h1, h2⟩
  | lrow ty S l => exact h
  | bytes ty l => exact h
  | map es clock => obtain ⟨cs, h1, h2⟩ := h; exact ⟨cs, mden_mono hl h1, h2⟩
  | smap l => exact h
  | loop f ix ts ps a c => obtain ⟨tm, d, as, h1, h2, h3⟩ := h; exact ⟨tm, d, as, h1, h2, sdenL_mono hl h3⟩
theorem row_eq {β : Type} {p : Pos} {ty : TypeId} {cs : List AV} {n : Nat} {o : Option Nat} (hg : h.objs.get p = some (.row ty cs n o)) (d : β) (f : TypeId → List AV → Nat → Option Nat → β) : h.row p d f = f ty cs n o := by
  unfold H.row; rw [hg]; rfl
theorem map_eq {β : Type} {p : Pos} {es : List ME} {c : Nat} (hg : h.objs.get p = some (.map es c)) (d : β) (f : List ME → Nat → β) : h.map p d f = f es c := by
  unfold H.map; rw [hg]; rfl
noncomputable def aLoad (agg : Bool) (h : H) (sz : Nat) (p : AV) : Option AV := match agg with | true => hloadA h sz p | false => hloadC h p
theorem sLoad_ok {agg : Bool} {sz : Nat} {p v : SV} {ap : AV} (hv : (sLoad agg sz p sh).val = some v) (s : St κ sh h) (hp : sden κ p = some ap) : ∃ av, aLoad agg h sz ap = some av ∧ sden κ v = some av := by
  unfold sLoad at hv
  split at hv
  · rename_i x off
    obtain ⟨q, e1, rfl⟩ := sden_ptr hp
    split at hv
    · rename_i ty cells opn hg
      obtain ⟨q', ao, e2, e3, cs, e4, rfl⟩ := s.rel x _ hg
      rw [e1] at e2; cases e2
      split at hv
      · split at hv
        · rename_i l hl
          obtain ⟨h1, rfl⟩ := ltake_some hl
          rw [← leaf_some hv]
          rw [ldrop_eq] at h1 ⊢
          have hd := sdenL_take sz (sdenL_drop off e4)
          refine ⟨.agg ((cs.drop off).take sz), ?_, by simp only [sden, hd]⟩
          show h.row q none (fun _ cells _ _ => bindS (ltake sz (ldrop off cells)) fun l => some (AV.agg l)) = _
          rw [row_eq e3, ldrop_eq, ltake_of (by have := sdenL_length (sdenL_drop off e4); omega)]; rfl
        · cases hv
      · have h1 := ofOpt_some hv
        rw [lget_eq] at h1
        obtain ⟨a, d1, d2⟩ := sdenL_get e4 h1
        refine ⟨a, ?_, d1⟩
        show h.row q none (fun _ cells _ _ => lget cells off) = _
        rw [row_eq e3, lget_eq]; exact d2
    · cases hv
  · rename_i x sz' i fo
    obtain ⟨q, e1, rfl⟩ := sden_eptr hp
    split at hv
    · rename_i ty S l hg
      obtain ⟨q', ao, e2, e3, rfl⟩ := s.rel x _ hg
      rw [e1] at e2; cases e2
      split at hv
      · rename_i hb
        rw [beq_iff.1 hb, llen_eq]
        obtain ⟨h1, h2⟩ := need_some hv
        have h1 := of_decide_eq_true h1
        split at h2
        · split at h2
          · rename_i r hr
            obtain ⟨h3, rfl⟩ := ltake_some hr
            rw [← leaf_some h2]
            rw [ldrop_eq] at h3 ⊢
            rw [List.length_drop, svR_length] at h3
            have hd := sdenL_take sz (sdenL_drop fo (sdenL_svR (κ := κ) S (l.getD i [])))
            refine ⟨.agg (((encR S (l.getD i [])).drop fo).take sz), ?_, by simp only [sden, hd]⟩
            show h.row q none (fun _ cells _ _ => bindS (ltake sz (ldrop (i * S.length + fo) cells)) fun l => some (AV.agg l)) = _
            by_cases hz : fo ≤ S.length
            · rw [row_eq e3, ldrop_eq, ltake_of, encL_part S h1 (by omega)]
              · rfl
              · rw [List.length_drop, encL_length]
                have : (i + 1) * S.length ≤ l.length * S.length := Nat.mul_le_mul_right _ h1
                rw [Nat.succ_mul] at this
                omega
            · have hsz : sz = 0 := by omega
              subst hsz
              rw [row_eq e3, ldrop_eq, ltake_of (Nat.zero_le _)]
              simp
              rfl
          · cases h2
        · split at h2
          · rename_i w hw
            rw [lget_eq] at hw
            rw [← leaf_some h2]
            obtain ⟨a, d1, d2⟩ := sdenL_get (sdenL_svR (κ := κ) S (l.getD i [])) hw
            refine ⟨a, ?_, d1⟩
            have hf : fo < S.length := by
              have := (List.getElem?_eq_some_iff.1 hw).1
              rwa [svR_length] at this
            show h.row q none (fun _ cells _ _ => lget cells (i * S.length + fo)) = _
            rw [row_eq e3, lget_eq, encL_get S h1 hf]; exact d2
          · cases h2
      · cases hv
    · rename_i ty l hg
      obtain ⟨q', ao, e2, e3, rfl⟩ := s.rel x _ hg
      rw [e1] at e2; cases e2
      split at hv
      · rename_i hb hb'
        rw [beq_iff.1 hb, beq_iff.1 hb']
        obtain ⟨h1, h2⟩ := need_some hv
        have h1 := of_decide_eq_true h1
        rw [← leaf_some h2]
        refine ⟨.int .u8 (Int.ofNat (l.getD i 0).toNat), ?_, rfl⟩
        show h.row q none (fun _ cells _ _ => lget cells (i * 1 + 0)) = _
        rw [row_eq e3, lget_eq, bytesCells_map, Nat.mul_one, Nat.add_zero, List.getElem?_map, List.getElem?_eq_getElem h1, List.getD_eq_getElem?_getD, List.getElem?_eq_getElem h1]; rfl
      · cases hv
    · cases hv
  · cases hv
end
end Go.Proofs.YtgemonlknehegaaGreatDoor.AI
namespace Go.Proofs.YtgemonlknehegaaGreatDoor.AI
open Go
set_option linter.unusedVariables false
set_option linter.unusedSimpArgs false
theorem oget_oset : ∀ (l : List (Nat × SO)) (x : Nat) (o : SO) (y : Nat), oget (oset l x o) y = if y = x then (oget l x).map (fun _ => o) else oget l y
  | [], x, o, y => by simp [oset, oget]
  | p :: l, x, o, y => by
    unfold oset
    split
    · rename_i hb
      have := beq_iff.1 hb
      unfold oget
      by_cases e : y = x
      · subst e; simp [Nat.beq_refl, this, hb]
      · rw [if_neg e]
        have h1 : Nat.beq x y = false := beq_false.2 (fun e' => e e'.symm)
        have h2 : Nat.beq p.1 y = false := by rw [this]; exact h1
        simp [h1, h2]
    · rename_i hb
      have := beq_false.1 hb
      have ih := oget_oset l x o y
      show (match Nat.beq p.1 y with | true => some p.2 | false => oget (oset l x o) y) = _
      rw [ih]
      have hx : oget (p :: l) x = oget l x := by show (match Nat.beq p.1 x with | true => some p.2 | false => oget l x) = _; rw [hb]
      rw [hx]
      by_cases e : y = x
      · subst e; rw [hb, if_pos rfl, if_pos rfl]
      · rw [if_neg e, if_neg e]; rfl
theorem oget_odel : ∀ (l : List (Nat × SO)) (x y : Nat), oget (odel l x) y = if y = x then none else oget l y
  | [], x, y => by simp [odel, oget]
  | p :: l, x, y => by
    unfold odel
    have ih := oget_odel l x y
    split
    · rename_i hb
      have := beq_iff.1 hb
      rw [ih]
      by_cases e : y = x
      · rw [if_pos e, if_pos e]
      · rw [if_neg e, if_neg e]
        have h2 : Nat.beq p.1 y = false := by rw [this]; exact beq_false.2 (fun e' => e e'.symm)
        show _ = (match Nat.beq p.1 y with | true => some p.2 | false => oget l y)
        rw [h2]
    · rename_i hb
      have := beq_false.1 hb
      show (match Nat.beq p.1 y with | true => some p.2 | false => oget (odel l x) y) = _
      rw [ih]
      by_cases e : y = x
      · subst e; rw [hb, if_pos rfl]; simp
      · rw [if_neg e, if_neg e]; rfl
theorem get_put (sh : SH) (x : Nat) (o : SO) (y : Nat) : (sh.put x o).get y = if y = x then (sh.get x).map (fun _ => o) else sh.get y := oget_oset _ _ _ _
theorem get_del (sh : SH) (x y : Nat) : (sh.del x).get y = if y = x then none else sh.get y := oget_odel _ _ _
theorem get_add (sh : SH) (o : SO) (y : Nat) : (sh.add o).get y = if y = sh.nm then some o else sh.get y := by
  show (match Nat.beq sh.nm y with | true => some o | false => oget sh.objs y) = _
  by_cases e : y = sh.nm
  · subst e; rw [if_pos rfl, Nat.beq_refl]
  · rw [if_neg e, beq_false.2 (fun e' => e e'.symm)]; rfl
section
variable {κ κ' : Kp} {sh sh' : SH} {h h' : H}
def Kp.upd (κ : Kp) (x : Nat) (p : Pos) : Kp := fun y => if y = x then some p else κ y
theorem Kp.upd_same (κ : Kp) (x : Nat) (p : Pos) : κ.upd x p x = some p := by simp [Kp.upd]
theorem Kp.upd_ne (κ : Kp) {x y : Nat} (p : Pos) (e : y ≠ x) : κ.upd x p y = κ y := by simp [Kp.upd, e]
theorem Kp.le_upd {κ : Kp} {x : Nat} (hx : κ x = none) (p : Pos) : κ.le (κ.upd x p) := fun y q hq => by
  have : y ≠ x := fun e => by rw [e, hx] at hq; cases hq
  rw [Kp.upd_ne κ p this]; exact hq
theorem hget_set (h : H) (p q : Pos) (o : AObj) : (h.set p o).objs.get q = if q = p then some o else h.objs.get q := T.get_set _ _ _ _
theorem St.put (s : St κ sh h) {x : Nat} {p : Pos} {o o0 : SO} {ao : AObj} (hx : κ x = some p) (hg : sh.get x = some o0) (hr : ORel κ o ao) : St κ (sh.put x o) (h.set p ao) ∧ Fr κ sh h κ (sh.put x o) (h.set p ao) := by
  have hget : ∀ y o', (sh.put x o).get y = some o' → (y = x ∧ o' = o) ∨ (y ≠ x ∧ sh.get y = some o') := fun y o' hy => by
    rw [get_put] at hy
    by_cases e : y = x
    · rw [if_pos e, hg] at hy; cases hy; exact .inl ⟨e, rfl⟩
    · rw [if_neg e] at hy; exact .inr ⟨e, hy⟩
  refine ⟨⟨fun y o' hy => ?_, s.inj, s.fresh, s.low, fun y o' hy => ?_⟩, ⟨Kp.le_refl κ, Nat.le_refl _, Nat.le_refl _, fun q hq hk => ?_, fun _ _ => rfl, fun y o' hy hl => ?_, fun y q hy hq => by rw [s.fresh y hy] at hq; cases hq⟩⟩
  · rcases hget y o' hy with ⟨rfl, rfl⟩ | ⟨e, hy⟩
    · exact ⟨p, ao, hx, by rw [hget_set, if_pos rfl], hr⟩
    · obtain ⟨q, ao', h1, h2, h3⟩ := s.rel y o' hy
      refine ⟨q, ao', h1, ?_, h3⟩
      rw [hget_set, if_neg (fun (e' : q = p) => e (s.inj y x q h1 (e' ▸ hx)))]; exact h2
  · rcases hget y o' hy with ⟨rfl, rfl⟩ | ⟨e, hy⟩
    · exact s.bnd _ _ hg
    · exact s.bnd _ _ hy
  · rw [hget_set, if_neg (fun (e : q = p) => hk x o0 hg (e ▸ hx))]
  · rcases hget y o' hy with ⟨rfl, rfl⟩ | ⟨e, hy⟩
    · exact ⟨_, hg⟩
    · exact ⟨_, hy⟩
theorem St.alloc (s : St κ sh h) {o : SO} {ao : AObj} (hr : ORel κ o ao) : St (κ.upd sh.nm h.next) (sh.add o) (h.alloc ao) ∧ Fr κ sh h (κ.upd sh.nm h.next) (sh.add o) (h.alloc ao) := by
  have hnone := s.fresh sh.nm (Nat.le_refl _)
  have hle := Kp.le_upd hnone h.next
  have hget : ∀ y o', (sh.add o).get y = some o' → (y = sh.nm ∧ o' = o) ∨ (y ≠ sh.nm ∧ sh.get y = some o') := fun y o' hy => by
    rw [get_add] at hy
    by_cases e : y = sh.nm
    · rw [if_pos e] at hy; cases hy; exact .inl ⟨e, rfl⟩
    · rw [if_neg e] at hy; exact .inr ⟨e, hy⟩
  have hnx : (h.alloc ao).next.toNat = h.next.toNat + 1 := Pos.toNat_succ _
  have hg : ∀ q, (h.alloc ao).objs.get q = if q = h.next then some ao else h.objs.get q := fun q => T.get_set _ _ _ _
  have ku : ∀ y q, κ.upd sh.nm h.next y = some q → (y = sh.nm ∧ q = h.next) ∨ (y ≠ sh.nm ∧ κ y = some q) := fun y q hy => by
    by_cases e : y = sh.nm
    · rw [e, Kp.upd_same] at hy; cases hy; exact .inl ⟨e, rfl⟩
    · rw [Kp.upd_ne κ _ e] at hy; exact .inr ⟨e, hy⟩
  refine ⟨⟨fun y o' hy => ?_, fun y z q hy hz => ?_, fun y hy => ?_, fun y q hy => ?_, fun y o' hy => ?_⟩, ⟨hle, Nat.le_succ _, by omega, fun q hq hk => ?_, fun y hy => Kp.upd_ne κ _ (by omega), fun y o' hy hl => ?_, fun y q hy hq => ?_⟩⟩
  · rcases hget y o' hy with ⟨rfl, rfl⟩ | ⟨e, hy⟩
    · exact ⟨h.next, ao, Kp.upd_same _ _ _, by rw [hg, if_pos rfl], hr.mono hle⟩
    · obtain ⟨q, ao', h1, h2, h3⟩ := s.rel y o' hy
      refine ⟨q, ao', hle _ _ h1, ?_, h3.mono hle⟩
      rw [hg, if_neg (fun e' => by have := s.low y q h1; rw [e'] at this; omega)]; exact h2
  · rcases ku y q hy with ⟨rfl, rfl⟩ | ⟨e, h1⟩ <;> rcases ku z _ hz with ⟨rfl, e2⟩ | ⟨e', h2⟩
    · rfl
    · have := s.low z _ h2; omega
    · subst e2; have := s.low y _ h1; omega
    · exact s.inj y z q h1 h2
  · have hy' : sh.nm + 1 ≤ y := hy
    rw [Kp.upd_ne κ _ (by omega)]; exact s.fresh y (by omega)
  · rcases ku y q hy with ⟨rfl, rfl⟩ | ⟨e, h1⟩
    · omega
    · have := s.low y q h1; omega
  · rcases hget y o' hy with ⟨rfl, rfl⟩ | ⟨e, hy⟩
    · exact Nat.lt_succ_self _
    · exact Nat.lt_succ_of_lt (s.bnd _ _ hy)
  · rw [hg, if_neg (fun e => by rw [e] at hq; omega)]
  · rcases hget y o' hy with ⟨rfl, rfl⟩ | ⟨e, hy⟩
    · omega
    · exact ⟨_, hy⟩
  · rcases ku y q hq with ⟨rfl, rfl⟩ | ⟨e, h1⟩
    · exact Nat.le_refl _
    · rw [s.fresh y hy] at h1; cases h1
theorem St.del (s : St κ sh h) {x : Nat} {p : Pos} {o0 : SO} (hx : κ x = some p) (hg : sh.get x = some o0) : St κ (sh.del x) (h.del p) ∧ Fr κ sh h κ (sh.del x) (h.del p) := by
  have hget : ∀ y o', (sh.del x).get y = some o' → y ≠ x ∧ sh.get y = some o' := fun y o' hy => by
    rw [get_del] at hy
    by_cases e : y = x
    · rw [if_pos e] at hy; cases hy
    · rw [if_neg e] at hy; exact ⟨e, hy⟩
  have hd : ∀ q, (h.del p).objs.get q = if q = p then none else h.objs.get q := fun q => T.get_del _ _ _
  refine ⟨⟨fun y o' hy => ?_, s.inj, s.fresh, s.low, fun y o' hy => s.bnd _ _ (hget y o' hy).2⟩, ⟨Kp.le_refl κ, Nat.le_refl _, Nat.le_refl _, fun q hq hk => ?_, fun _ _ => rfl, fun y o' hy hl => ⟨_, (hget y o' hy).2⟩, fun y q hy hq => by rw [s.fresh y hy] at hq; cases hq⟩⟩
  · obtain ⟨e, hy⟩ := hget y o' hy
    obtain ⟨q, ao', h1, h2, h3⟩ := s.rel y o' hy
    refine ⟨q, ao', h1, ?_, h3⟩
    rw [hd, if_neg (fun (e' : q = p) => e (s.inj y x q h1 (e' ▸ hx)))]; exact h2
  · rw [hd, if_neg (fun (e : q = p) => hk x o0 hg (e ▸ hx))]
theorem one_den {v : SV} {a : AV} (h : v.one = true) (hd : sden κ v = some a) : a.one = true := by
  cases v <;> try (cases h; done)
  · rw [sden_b hd]; rfl
  · rw [sden_i hd]; rfl
  · rw [sden_s hd]; rfl
  · rw [sden_nil hd]; rfl
  · obtain ⟨p, _, rfl⟩ := sden_ptr hd; rfl
  · obtain ⟨p, _, rfl⟩ := sden_sl hd; rfl
  · obtain ⟨p, _, rfl⟩ := sden_map hd; rfl
  · obtain ⟨p, q, _, _, rfl⟩ := sden_func hd; rfl
  · obtain ⟨p, _, rfl⟩ := sden_yield hd; rfl
  · obtain ⟨p, _, rfl⟩ := sden_tsl hd; rfl
  · obtain ⟨p, _, rfl⟩ := sden_etl hd; rfl
  · obtain ⟨p, _, rfl⟩ := sden_eptr hd; rfl
theorem allOne3_den : ∀ {l : List SV} {as : List AV}, allOne3 l = true → sdenL κ l = some as → allOne as = true
  | [], as, _, hd => by rw [sdenL_nil.1 hd]; rfl
  | v :: l, as, h, hd => by
    obtain ⟨a, s, h1, h2, rfl⟩ := sdenL_cons.1 hd
    unfold allOne3 at h
    split at h
    · rename_i hv
      show Bool.rec false (allOne s) a.one = true
      rw [one_den hv h1]
      exact allOne3_den h h2
    · cases h
theorem cells_den {v : SV} {a : AV} (h : v.noO = true) (hd : sden κ v = some a) : sdenL κ v.cells = some a.cells := by
  cases v with
  | agg l => obtain ⟨r, h1, rfl⟩ := sden_agg hd; exact h1
  | o x => cases h
  | b o x => rw [sden_b hd]; rfl
  | i o k n => rw [sden_i hd]; rfl
  | s o l => rw [sden_s hd]; rfl
  | nil k => rw [sden_nil hd]; rfl
  | ptr x o => obtain ⟨p, e, rfl⟩ := sden_ptr hd; exact sdenL_cons.2 ⟨_, [], hd, rfl, rfl⟩
  | sl x o l c => obtain ⟨p, e, rfl⟩ := sden_sl hd; exact sdenL_cons.2 ⟨_, [], hd, rfl, rfl⟩
  | map x => obtain ⟨p, e, rfl⟩ := sden_map hd; exact sdenL_cons.2 ⟨_, [], hd, rfl, rfl⟩
  | func f u w => obtain ⟨p, q, _, _, rfl⟩ := sden_func hd; exact sdenL_cons.2 ⟨_, [], hd, rfl, rfl⟩
  | yield x => obtain ⟨p, e, rfl⟩ := sden_yield hd; exact sdenL_cons.2 ⟨_, [], hd, rfl, rfl⟩
  | tuple l => obtain ⟨r, h1, rfl⟩ := sden_tuple hd; exact sdenL_cons.2 ⟨_, [], hd, rfl, rfl⟩
  | tsl x z o l => obtain ⟨p, e, rfl⟩ := sden_tsl hd; exact sdenL_cons.2 ⟨_, [], hd, rfl, rfl⟩
  | etl x o k l z => obtain ⟨p, e, rfl⟩ := sden_etl hd; exact sdenL_cons.2 ⟨_, [], hd, rfl, rfl⟩
  | eptr x z o l => obtain ⟨p, e, rfl⟩ := sden_eptr hd; exact sdenL_cons.2 ⟨_, [], hd, rfl, rfl⟩
theorem noO_of_one {v : SV} (h : allOne3 v.cells = true) : v.noO = true := by
  cases v <;> try rfl
  cases h
theorem toLf_den {k : FK} {v : SV} {x : Lf} {a : AV} (h : toLf k v = some x) (hd : sden κ v = some a) : a = k.av x := by
  unfold toLf at h
  split at h
  · cases h; exact sden_b hd
  · split at h
    · rename_i hk; cases ikeq_iff.1 hk; cases h; exact sden_i hd
    · cases h
  · cases h; exact sden_s hd
  · cases h
theorem toRc_den : ∀ {S : List FK} {vs : List SV} {r : Rc} {as : List AV}, toRc S vs = some r → sdenL κ vs = some as → as = encR S r ∧ r.length = S.length
  | [], [], r, as, h, hd => by cases h; exact ⟨sdenL_nil.1 hd, rfl⟩
  | k :: S, v :: vs, r, as, h, hd => by
    obtain ⟨a, s, h1, h2, rfl⟩ := sdenL_cons.1 hd
    unfold toRc at h
    split at h
    · rename_i x r' e1 e2
      cases h
      obtain ⟨e3, e4⟩ := toRc_den e2 h2
      exact ⟨by rw [toLf_den e1 h1, e3]; rfl, by simp [e4]⟩
    · cases h
  | [], _ :: _, r, as, h, hd => by cases h
  | _ :: _, [], r, as, h, hd => by cases h
theorem encR_set : ∀ (S : List FK) (j : Nat) (r : Rc) (x : Lf) (k : FK), S[j]? = some k → encR S (setR j r x) = (encR S r).set j (k.av x)
  | [], j, r, x, k, h => by simp at h
  | q :: S, 0, r, x, k, h => by simp at h; subst h; rfl
  | q :: S, j + 1, r, x, k, h => by
    show q.av _ :: encR S (setR j r.tail x) = q.av _ :: (encR S r.tail).set j (k.av x)
    rw [encR_set S j r.tail x k (by simpa using h)]
    rfl
theorem encR_sets : ∀ (S S' : List FK) (j : Nat) (r : Rc) (xs : List Lf), (S.drop j).take S'.length = S' → xs.length = S'.length → encR S (setRs j r xs) = (encR S r).take j ++ encR S' xs ++ (encR S r).drop (j + S'.length)
  | S, [], j, r, [], h, hl => by show encR S r = _; simp [encR]
  | S, k :: S', j, r, x :: xs, h, hl => by
    have hk : S[j]? = some k := by
      have := congrArg (fun (l : List FK) => l[0]?) h
      simpa [List.getElem?_take, List.getElem?_drop] using this
    have hj : j < S.length := (List.getElem?_eq_some_iff.1 hk).1
    have h' : (S.drop (j + 1)).take S'.length = S' := by
      rw [List.drop_eq_getElem_cons hj] at h
      simpa using (List.cons.inj h).2
    show encR S (setRs (j + 1) (setR j r x) xs) = _
    rw [encR_sets S S' (j + 1) (setR j r x) xs h' (by simpa using hl), encR_set S j r x k hk]
    have hlen : j < (encR S r).length := by rw [encR_length]; exact hj
    rw [List.take_add_one, List.take_set_of_le (Nat.le_refl j), List.getElem?_set_self (by exact hlen), List.drop_set_of_lt (by omega)]
    have e2 : j + 1 + S'.length = j + (k :: S').length := by simp; omega
    rw [e2]
    show _ = (encR S r).take j ++ (k.av x :: encR S' xs) ++ _
    simp
  | S, [], j, r, _ :: _, h, hl => by simp at hl
  | S, _ :: _, j, r, [], h, hl => by simp at hl
theorem lput_mid {α : Type} {A M B vs : List α} {fo : Nat} (h : fo + vs.length ≤ M.length) : lput (A.length + fo) vs (A ++ (M ++ B)) = some (A ++ ((M.take fo ++ vs ++ M.drop (fo + vs.length)) ++ B)) := by
  rw [lput_of (by simp; omega)]
  rw [show A.length + fo + vs.length = A.length + (fo + vs.length) by omega, List.take_length_add_append, List.drop_length_add_append]
  rw [List.take_append_of_le_length (by omega), List.drop_append_of_le_length (by omega)]
  simp
theorem hput_eq {p : Pos} {ty : TypeId} {cs cs' vs : List AV} {n off : Nat} {o : Option Nat} (hg : h.objs.get p = some (.row ty cs n o)) (hl : lput off vs cs = some cs') : hput h p off vs = some (h.set p (.row ty cs' n o)) := by
  show h.row p none (fun ty cells n o => bindS (lput off vs cells) fun cells => some (h.set p (.row ty cells n o))) = _
  rw [row_eq hg, hl]; rfl
theorem encL_set (S : List FK) {l : List Rc} {i : Nat} (hi : i < l.length) (r : Rc) : encL S (l.set i r) = encL S (l.take i) ++ (encR S r ++ encL S (l.drop (i + 1))) := by
  have hi' : i < (l.set i r).length := by simpa using hi
  rw [encL_split S hi', List.take_set_of_le (Nat.le_refl i), List.drop_set_of_lt (by omega)]
  rw [List.getD_eq_getElem?_getD, List.getElem?_set_self hi, Option.getD_some]
theorem sStore_ok {sz : Nat} {p v : SV} {ap av : AV} (hv : (sStore sz p v sh).val = some sh') (s : St κ sh h) (hp : sden κ p = some ap) (hd : sden κ v = some av) : ∃ h', hstore h ap sz av = some h' ∧ St κ sh' h' ∧ Fr κ sh h κ sh' h' := by
  unfold sStore at hv
  split at hv
  · rename_i hb h1
    have hcd := cells_den (noO_of_one h1) hd
    have hall := allOne3_den h1 hcd
    have hlen : (llen av.cells).beq sz = true := by
      rw [llen_eq, sdenL_length hcd, ← llen_eq]; exact hb
    have go : ∀ {q : Pos} {off : Nat} {h' : H}, ap = .ptr q off → hput h q off av.cells = some h' → hstore h ap sz av = some h' := fun e hh => by
      subst e
      show whenS (Nat.beq (llen av.cells) sz) (whenS (allOne av.cells) (hput h _ _ av.cells)) = _
      rw [hlen, hall]; exact hh
    split at hv
    · rename_i x off
      obtain ⟨q, e1, rfl⟩ := sden_ptr hp
      split at hv
      · rename_i ty cells opn hg
        obtain ⟨q', ao, e2, e3, cs, e4, rfl⟩ := s.rel x _ hg
        rw [e1] at e2; cases e2
        split at hv
        · rename_i cells' hc
          rw [← leaf_some hv]
          obtain ⟨k1, rfl⟩ := lput_some hc
          have hl1 := sdenL_length e4
          have hl2 := sdenL_length hcd
          have hnew := sdenL_append (sdenL_append (sdenL_take off e4) hcd) (sdenL_drop (off + v.cells.length) e4)
          refine ⟨_, go rfl (hput_eq e3 (lput_of (by omega))), s.put e1 hg ⟨_, hnew, ?_⟩⟩
          rw [hl2]
          congr 1
          simp; omega
        · cases hv
      · cases hv
    · rename_i x sz' i fo
      obtain ⟨q, e1, rfl⟩ := sden_eptr hp
      split at hv
      · rename_i ty S l hg
        obtain ⟨q', ao, e2, e3, rfl⟩ := s.rel x _ hg
        rw [e1] at e2; cases e2
        split at hv
        · rename_i S' hb0 hS
          obtain ⟨hb', hle⟩ := Bool.and_eq_true_iff.1 hb0
          have hle := ble_iff.1 hle
          rw [llen_eq] at hle
          obtain rfl : sz' = S.length := by rw [beq_iff.1 hb', llen_eq]
          obtain ⟨k1, k2⟩ := ltake_some hS
          rw [ldrop_eq] at k1 k2
          split at hv
          · rename_i r hr
            obtain ⟨m1, m2⟩ := need_some hv
            have m1 := of_decide_eq_true m1
            rw [← leaf_some m2]
            obtain ⟨f1, f2⟩ := toRc_den hr hcd
            have hS'l : S'.length = sz := by rw [k2, List.length_take]; omega
            have e5 := encR_sets S S' fo (l.getD i []) r (by rw [hS'l, ← k2]) f2
            refine ⟨_, go rfl (hput_eq e3 (?_ : lput _ _ _ = some (encL S (l.set i (setRs fo (l.getD i []) r))))), s.put e1 hg ?_⟩
            · rw [encL_set S m1, e5, encL_split S m1, f1]
              have eA : i * S.length = (encL S (l.take i)).length := by rw [encL_length, List.length_take, Nat.min_eq_left (by omega)]
              rw [eA, lput_mid]
              · rw [encR_length]
              · rw [encR_length, encR_length]
                rw [hS'l]; exact hle
            · show _ = _
              simp
          · cases hv
        · cases hv
      · rename_i ty l hg
        obtain ⟨q', ao, e2, e3, rfl⟩ := s.rel x _ hg
        rw [e1] at e2; cases e2
        split at hv
        · rename_i o k n hb' hb''
          split at hv
          · rename_i hk
            cases ikeq_iff.1 hk
            obtain ⟨m1, m2⟩ := need_some hv
            rw [Bool.and_eq_true] at m1
            have m3 := of_decide_eq_true m1.1
            obtain ⟨m4, m5⟩ := inB_nat m1.2
            rw [← leaf_some m2]
            rw [sden_i hd] at hall hlen hcd go ⊢
            refine ⟨_, go (by rw [beq_iff.1 hb', beq_iff.1 hb'']) (hput_eq e3 (?_ : lput _ _ _ = some (bytesCells (l.set i (UInt8.ofNat n.toNat))))), s.put e1 hg ?_⟩
            · rw [Nat.mul_one, Nat.add_zero, bytesCells_map, bytesCells_map, List.map_set]
              show lput i [AV.int .u8 n] _ = _
              rw [lput_of (by simp; omega)]
              have : (UInt8.ofNat n.toNat).toNat = n.toNat := by
                have m6 : n.toNat < 256 := m5
                simpa using Nat.mod_eq_of_lt m6
              rw [this, ← m4]
              rw [List.set_eq_take_append_cons_drop, if_pos (by simpa using m3)]
              simp
            · show _ = _
              simp
          · cases hv
        · cases hv
      · cases hv
    · cases hv
  · cases hv
end
end Go.Proofs.YtgemonlknehegaaGreatDoor.AI
namespace Go.Proofs.YtgemonlknehegaaGreatDoor.AI
open Go
set_option linter.unusedVariables false
set_option linter.unusedSimpArgs false
section
variable {κ κ' : Kp} {sh sh' : SH} {h h' : H}
def OptRel (κ : Kp) (v : Option SV) (a : Option AV) : Prop := (v = none ∧ a = none) ∨ (∃ w b, v = some w ∧ a = some b ∧ sden κ w = some b)
theorem clNat_den {v : SV} {n : Nat} {a : AV} (h : clNat v = some n) (hd : sden κ v = some a) : ∃ k, a = .int k (Int.ofNat n) := by
  unfold clNat at h
  split at h
  · split at h
    · split at h
      · cases h; exact ⟨_, sden_i hd⟩
      · cases h
    · cases h
  · cases h
theorem clOpt_den {v : Option SV} {n : Option Nat} {a : Option AV} (h : clOpt v = some n) (hd : OptRel κ v a) : (n = none ∧ a = none) ∨ (∃ m k, n = some m ∧ a = some (.int k (Int.ofNat m))) := by
  rcases hd with ⟨rfl, rfl⟩ | ⟨w, b, rfl, rfl, hd⟩
  · cases h; exact .inl ⟨rfl, rfl⟩
  · unfold clOpt at h
    simp only at h
    split at h
    · rename_i m hm
      cases h
      obtain ⟨k, rfl⟩ := clNat_den hm hd
      exact .inr ⟨m, k, rfl, rfl⟩
    · cases h
theorem bound_cl {n : Option Nat} {a : Option AV} (h : (n = none ∧ a = none) ∨ (∃ m k, n = some m ∧ a = some (.int k (Int.ofNat m)))) {m d : Nat} (hle : n.getD d ≤ m) : bound a m d = some (n.getD d) := by
  rcases h with ⟨rfl, rfl⟩ | ⟨r, k, rfl, rfl⟩
  · rfl
  · show whenS (Nat.ble r m) (some r) = _
    have : r ≤ m := hle
    rw [ble_iff.2 this]; rfl
theorem cutK_eq (sz : Nat) (b : Pos) (off l hh m : Nat) : cutK sz b off l hh m = .slice b (match Nat.beq m l with | true => off | false => off + l * sz) (hh - l) (.known (m - l)) := by
  unfold cutK
  rw [force_eq, force_eq, force_eq]
  cases Nat.beq m l <;> rfl
theorem sSliceK_ok {sz x off len c : Nat} {lo hi mx : Option Nat} {alo ahi amx : Option AV} {v : SV} {p : Pos} (hv : sSliceK sz x off len c lo hi mx = some v) (hx : κ x = some p)
    (h1 : (lo = none ∧ alo = none) ∨ (∃ m k, lo = some m ∧ alo = some (.int k (Int.ofNat m)))) (h2 : (hi = none ∧ ahi = none) ∨ (∃ m k, hi = some m ∧ ahi = some (.int k (Int.ofNat m))))
    (h3 : (mx = none ∧ amx = none) ∨ (∃ m k, mx = some m ∧ amx = some (.int k (Int.ofNat m)))) : ∃ av, sliceK sz p off len c alo ahi amx = some av ∧ sden κ v = some av := by
  unfold sSliceK at hv
  split at hv
  · rename_i m
    rcases h3 with ⟨h3, _⟩ | ⟨m', k, h3, rfl⟩
    · cases h3
    · cases h3
      split at hv
      · rename_i hh
        rcases h2 with ⟨h2, _⟩ | ⟨hh', k', h2, rfl⟩
        · cases h2
        · cases h2
          split at hv
          · rename_i e1 e2 e3
            cases hv
            refine ⟨cutK sz p off (lo.getD 0) hh m, ?_, ?_⟩
            · show bindS (bound (some (.int k (Int.ofNat m))) c 0) (fun m => bindS (bound (some (.int k' (Int.ofNat hh))) m 0) fun hh => bindS (bound alo hh 0) fun l => some (cutK sz p off l hh m)) = _
              rw [bound_cl (n := some m) (.inr ⟨m, k, rfl, rfl⟩) (ble_iff.1 e1)]
              show bindS (bound (some (.int k' (Int.ofNat hh))) m 0) (fun hh => bindS (bound alo hh 0) fun l => some (cutK sz p off l hh m)) = _
              rw [bound_cl (n := some hh) (.inr ⟨hh, k', rfl, rfl⟩) (ble_iff.1 e2)]
              show bindS (bound alo hh 0) (fun l => some (cutK sz p off l hh m)) = _
              rw [bound_cl h1 (ble_iff.1 e3)]; rfl
            · rw [cutK_eq]; simp only [sden, hx]; all_goals rfl
          · cases hv
      · cases hv
  · rcases h3 with ⟨_, rfl⟩ | ⟨m', k, h3, _⟩
    · split at hv
      · rename_i e1 e2
        cases hv
        refine ⟨cutK sz p off (lo.getD 0) (hi.getD len) c, ?_, ?_⟩
        · show bindS (bound ahi c len) (fun hh => bindS (bound alo hh 0) fun l => some (cutK sz p off l hh c)) = _
          rw [bound_cl h2 (ble_iff.1 e1)]
          show bindS (bound alo (hi.getD len) 0) (fun l => some (cutK sz p off l (hi.getD len) c)) = _
          rw [bound_cl h1 (ble_iff.1 e2)]; rfl
        · rw [cutK_eq]; simp only [sden, hx]; all_goals rfl
      · cases hv
    · cases h3
theorem sliceO_eq {sz off len skip least a b : Nat} {p : Pos} {alo ahi : Option AV} (k1 : skip + len ≤ least) (hb : bound ahi (least - skip) len = some b) (ha : bound alo b 0 = some a) :
    sliceO sz p off len skip least alo ahi none = pick (Nat.blt (skip + a) least) (some (.slice p (off + a * sz) (b - a) (.opn (skip + a)))) (whenS (Nat.beq b a) (some (.etail p off skip a sz))) := by
  show whenS (Nat.ble (skip + len) least) (bindS (bound ahi (least - skip) len) fun hh => bindS (bound alo hh 0) fun l => pick (Nat.blt (skip + l) least) (force (Nat.sub hh l) fun n => force (Nat.add off (Nat.mul l sz)) fun off' => force (Nat.add skip l) fun skip' => some (AV.slice p off' n (.opn skip'))) (whenS (Nat.beq hh l) (force l fun l => some (AV.etail p off skip l sz)))) = _
  rw [ble_iff.2 k1, hb]
  show bindS (bound alo b 0) _ = _
  rw [ha]
  show pick (Nat.blt (skip + a) least) (force (Nat.sub b a) fun n => force (Nat.add off (Nat.mul a sz)) fun off' => force (Nat.add skip a) fun skip' => some (AV.slice p off' n (.opn skip'))) (whenS (Nat.beq b a) (force a fun l => some (AV.etail p off skip l sz))) = _
  rw [force_eq, force_eq, force_eq, force_eq]; rfl
theorem many_rel {o : SO} {L : Nat} {ao : AObj} (h : o.many = some L) (hr : ORel κ o ao) : ∃ ty cells n, ao = .row ty cells n (some L) := by
  cases o <;> try (cases h; done)
  · cases h; exact ⟨_, _, _, hr⟩
  · cases h; exact ⟨_, _, _, hr⟩
theorem sSlice_ok {sz : Nat} {x v : SV} {lo hi mx : Option SV} {ax : AV} {alo ahi amx : Option AV} (hv : (sSlice sz sh x lo hi mx).val = some v) (s : St κ sh h) (hx : sden κ x = some ax)
    (h1 : OptRel κ lo alo) (h2 : OptRel κ hi ahi) (h3 : OptRel κ mx amx) : ∃ av, aSlice sz h ax alo ahi amx = some av ∧ sden κ v = some av := by
  unfold sSlice at hv
  split at hv
  · rename_i k
    split at hv
    · rename_i lo' hi' mx' e1 e2 e3 e4
      split at hv
      · rename_i f1 f2
        rw [← leaf_some hv]
        rw [sden_nil hx]
        refine ⟨.nil k, ?_, rfl⟩
        rcases clOpt_den e4 h3 with ⟨_, rfl⟩ | ⟨_, _, h, _⟩
        · show whenS (Nat.beq k.no 1) (bindS (bound ahi 0 0) fun hh => bindS (bound alo hh 0) fun l => some (AV.nil k)) = _
          rw [e1]
          have g2 := bound_cl (m := 0) (d := 0) (clOpt_den e3 h2) (by have := beq_iff.1 f2; omega)
          show bindS (bound ahi 0 0) _ = _
          rw [g2, beq_iff.1 f2]
          have g1 := bound_cl (m := 0) (d := 0) (clOpt_den e2 h1) (by have := beq_iff.1 f1; omega)
          show bindS (bound alo 0 0) _ = _
          rw [g1]; rfl
        · cases h
      · cases hv
    · cases hv
  · rename_i x off len cap
    obtain ⟨p, d1, rfl⟩ := sden_sl hx
    split at hv
    · rename_i lo' hi' mx' e1 e2 e3
      split at hv
      · rename_i c
        obtain ⟨av, g1, g2⟩ := sSliceK_ok (ofOpt_some hv) d1 (clOpt_den e1 h1) (clOpt_den e2 h2) (clOpt_den e3 h3)
        exact ⟨av, g1, g2⟩
      · rename_i skip
        split at hv
        · rename_i ty cells least hg
          obtain ⟨p', ao, d2, d3, cs, d4, rfl⟩ := s.rel x _ hg
          rw [d1] at d2; cases d2
          have hv := ofOpt_some hv
          rcases clOpt_den e3 h3 with ⟨_, rfl⟩ | ⟨_, _, h, _⟩
          · unfold sSliceO at hv
            split at hv
            · rename_i f1 f2 f3
              have hs := sliceO_eq (sz := sz) (off := off) (p := p) (ble_iff.1 f1) (bound_cl (clOpt_den e2 h2) (ble_iff.1 f2)) (bound_cl (clOpt_den e1 h1) (ble_iff.1 f3))
              have hrow : aSlice sz h (.slice p off len (.opn skip)) alo ahi none = sliceO sz p off len skip least alo ahi none := by
                show h.row p none (fun _ _ _ o => bindS o fun least => sliceO sz p off len skip least alo ahi none) = _
                rw [row_eq d3]; rfl
              rw [hrow, hs]
              split at hv
              · rename_i f4
                cases hv
                rw [f4]
                exact ⟨_, rfl, by simp only [sden, d1]⟩
              · rename_i f4
                split at hv
                · rename_i f5
                  cases hv
                  rw [f4, f5]
                  exact ⟨_, rfl, by simp only [sden, d1]⟩
                · cases hv
            · cases hv
          · cases h
        · cases hv
    · cases hv
  · rename_i x sz' lo0 len
    obtain ⟨p, d1, rfl⟩ := sden_tsl hx
    split at hv
    · rename_i L e1 hL
      cases beq_iff.1 e1
      cases hg : sh.get x with
      | none => rw [hg] at hL; cases hL
      | some o =>
        rw [hg] at hL
        obtain ⟨p', ao, d2, d3, d4⟩ := s.rel x _ hg
        rw [d1] at d2; cases d2
        obtain ⟨ty, cells, n, rfl⟩ := many_rel (show o.many = some L from hL) d4
        obtain ⟨o1, b, g1, hb⟩ := optNat_some hv h2
        obtain ⟨o2, a, g2, ha⟩ := optNat_some g1 h1
        obtain ⟨g3, g4⟩ := need_some g2
        have g3 := of_decide_eq_true g3
        rcases h3 with ⟨_, rfl⟩ | ⟨_, _, h, _⟩
        · have hs := sliceO_eq (sz := sz) (off := lo0 * sz) (p := p) (least := L) (skip := lo0) (len := len) (by omega) (bound_ok hb (by omega)) (bound_ok ha g3.2.1)
          have hrow : aSlice sz h (.slice p (lo0 * sz) len (.opn lo0)) alo ahi none = sliceO sz p (lo0 * sz) len lo0 L alo ahi none := by
            show h.row p none (fun _ _ _ o => bindS o fun least => sliceO sz p (lo0 * sz) len lo0 least alo ahi none) = _
            rw [row_eq d3]; rfl
          rw [hrow, hs]
          rcases node_some g4 with ⟨f1, f2⟩ | ⟨f1, f2⟩
          · rw [blt_iff.2 (of_decide_eq_true f1), ← leaf_some f2]
            refine ⟨_, rfl, ?_⟩
            simp only [sden, d1]
            rw [Nat.add_mul]
          · have f1 := of_decide_eq_false f1
            rw [blt_false.2 (by omega), ← leaf_some f2]
            have : Nat.beq b a = true := beq_iff.2 (by omega)
            rw [this]
            exact ⟨_, rfl, by simp only [sden, d1]⟩
        · cases h
    · cases hv
  · cases hv
/-! ### Texts out of bytes -/
noncomputable def aToStr (h : H) (a : AV) : Option AV := bindS (slen a) fun n => bindS (hcells h 1 n a) fun cs => bindS (cellsBytes cs) fun l => some (.str l)
theorem cellsBytes_cons (k : IntKind) (n : Int) (l : List AV) : cellsBytes (.int k n :: l) = whenS (ikeq k .u8) (bindS (cellsBytes l) fun r => nat1 n none fun n => some (force n fun n => UInt8.ofNat n :: r)) := rfl
theorem svBytes_ok : ∀ {vs : List SV} {as : List AV} {c : Bool} {l : List UInt8}, svBytes vs = some (c, l) → c = true → sdenL κ vs = some as → cellsBytes as = some l ∧ as = bytesCells l
  | [], as, c, l, h, hc, hd => by cases h; rw [sdenL_nil.1 hd]; exact ⟨rfl, rfl⟩
  | v :: vs, as, c, l, h, hc, hd => by
    obtain ⟨a, s, h1, h2, rfl⟩ := sdenL_cons.1 hd
    unfold svBytes at h
    split at h
    · rename_i o k n c' l' e1
      split at h
      · rename_i hk
        cases ikeq_iff.1 hk
        cases h
        rw [Bool.and_eq_true] at hc
        obtain ⟨i1, i2⟩ := svBytes_ok e1 hc.2 h2
        obtain ⟨m1, m2⟩ := inB_nat hc.1
        have m3 : (UInt8.ofNat n.toNat).toNat = n.toNat := by
          have m6 : n.toNat < 256 := m2
          simpa using Nat.mod_eq_of_lt m6
        rw [sden_i h1, cellsBytes_cons, i1]
        constructor
        · conv => lhs; rw [m1]
          show some (force n.toNat fun m => UInt8.ofNat m :: l') = _
          rw [force_eq]
        · rw [bytesCells_map, List.map_cons, ← bytesCells_map, ← i2, m3, ← m1]
      · cases h
    · cases h
theorem cellsBytes_bytes : ∀ l : List UInt8, cellsBytes (bytesCells l) = some l
  | [] => rfl
  | b :: l => by
    rw [bytesCells_map, List.map_cons, ← bytesCells_map, cellsBytes_cons, cellsBytes_bytes l]
    show some (force b.toNat fun m => UInt8.ofNat m :: l) = _
    rw [force_eq]
    simp
theorem bytesCells_take (l : List UInt8) (n : Nat) : (bytesCells l).take n = bytesCells (l.take n) := by simp [bytesCells_map, List.map_take]
theorem bytesCells_drop (l : List UInt8) (n : Nat) : (bytesCells l).drop n = bytesCells (l.drop n) := by simp [bytesCells_map, List.map_drop]
theorem bytesCells_length (l : List UInt8) : (bytesCells l).length = l.length := by simp [bytesCells_map]
theorem bytesCells_append (l m : List UInt8) : bytesCells (l ++ m) = bytesCells l ++ bytesCells m := by simp [bytesCells_map]
/-- the cells of a slice's elements -/
theorem hcells_eq {p : Pos} {off len sz n : Nat} {c : ACap} {ty : TypeId} {cs : List AV} {o : Option Nat} (hg : h.objs.get p = some (.row ty cs n o)) (hle : off + len * sz ≤ cs.length) : hcells h sz len (.slice p off len c) = some ((cs.drop off).take (len * sz)) := by
  cases len with
  | zero => show some [] = _; simp
  | succ len =>
    show h.row p none (fun _ cells _ _ => ltake (Nat.mul (len + 1) sz) (ldrop off cells)) = _
    rw [row_eq hg, ldrop_eq, ltake_of (by rw [List.length_drop]; show (len + 1) * sz ≤ _; omega)]; rfl
theorem sToStr_ok {x v : SV} {ax : AV} (hv : (sToStr sh x).val = some v) (s : St κ sh h) (hx : sden κ x = some ax) : ∃ av, aToStr h ax = some av ∧ sden κ v = some av := by
  unfold sToStr at hv
  split at hv
  · rename_i k
    split at hv
    · rename_i e1
      rw [← leaf_some hv, sden_nil hx]
      refine ⟨.str [], ?_, rfl⟩
      show bindS (whenS (Nat.beq k.no 1) (some 0)) (fun n => bindS (hcells h 1 n (.nil k)) fun cs => bindS (cellsBytes cs) fun l => some (AV.str l)) = _
      rw [e1]
      show bindS (whenS (Nat.beq k.no 1) (some [])) _ = _
      rw [e1]; rfl
    · cases hv
  · obtain ⟨p, _, rfl⟩ := sden_etl hx
    rw [← leaf_some hv]
    exact ⟨.str [], rfl, rfl⟩
  · rename_i x off len cap
    obtain ⟨p, d1, rfl⟩ := sden_sl hx
    split at hv
    · rw [← leaf_some hv]
      exact ⟨.str [], rfl, rfl⟩
    · rename_i len
      split at hv
      · rename_i ty cells opn hg
        obtain ⟨p', ao, d2, d3, cs, d4, rfl⟩ := s.rel x _ hg
        rw [d1] at d2; cases d2
        split at hv
        · rename_i cs' hcs
          obtain ⟨f1, rfl⟩ := ltake_some hcs
          rw [ldrop_eq] at f1 hv
          split at hv
          · rename_i c l hb
            obtain ⟨g1, g2⟩ := need_some hv
            rw [← leaf_some g2]
            have hd := sdenL_take (len + 1) (sdenL_drop off d4)
            obtain ⟨i1, _⟩ := svBytes_ok hb g1 hd
            refine ⟨.str l, ?_, rfl⟩
            have hl := sdenL_length d4
            show bindS (hcells h 1 (len + 1) (.slice p off (len + 1) cap)) (fun cs => bindS (cellsBytes cs) fun l => some (AV.str l)) = _
            rw [hcells_eq d3 (by rw [List.length_drop] at f1; omega), Nat.mul_one]
            show bindS (cellsBytes _) _ = _
            rw [i1]; rfl
          · cases hv
        · cases hv
      · cases hv
  · rename_i x sz lo len
    obtain ⟨p, d1, rfl⟩ := sden_tsl hx
    split at hv
    · rename_i ty l e1 hg
      cases beq_iff.1 e1
      obtain ⟨p', ao, d2, d3, rfl⟩ := s.rel x _ hg
      rw [d1] at d2; cases d2
      obtain ⟨g1, g2⟩ := need_some hv
      have g1 := of_decide_eq_true g1
      rw [← leaf_some g2]
      refine ⟨.str ((l.drop lo).take len), ?_, rfl⟩
      show bindS (hcells h 1 len (.slice p (lo * 1) len (.opn lo))) (fun cs => bindS (cellsBytes cs) fun l => some (AV.str l)) = _
      rw [hcells_eq d3 (by rw [bytesCells_length]; omega), Nat.mul_one, Nat.mul_one, bytesCells_drop, bytesCells_take]
      show bindS (cellsBytes _) _ = _
      rw [cellsBytes_bytes]; rfl
    · cases hv
  · cases hv
/-! ### Appending -/
def Post (κ : Kp) (sh : SH) (h : H) (v : SV) (sh' : SH) (r : VR) : Prop := ∃ κ', sden κ' v = some r.v ∧ St κ' sh' r.h ∧ Fr κ sh h κ' sh' r.h
def Good (κ : Kp) (sh : SH) (h : H) (v : SV) (sh' : SH) (rs : List VR) : Prop := rs ≠ [] ∧ ∀ r ∈ rs, Post κ sh h v sh' r
theorem Good.one {v : SV} {r : VR} (hp : Post κ sh h v sh' r) : Good κ sh h v sh' [r] := ⟨by simp, fun r' hr => by rw [List.mem_singleton.1 hr]; exact hp⟩
/-- a new row, told by its slice -/
theorem newRow_good {ty : TypeId} {cells : List AV} {n least : Nat} {o : SO} {v : SV} (s : St κ sh h) (hr : ORel κ o (.row ty cells n (some least))) (hv : ∀ κ' : Kp, κ' sh.nm = some h.next → sden κ' v = some (.slice h.next 0 least (.opn 0))) : Good κ sh h v (sh.add o) (newRowOpen h ty cells n least) := by
  obtain ⟨s1, f1⟩ := s.alloc hr
  exact Good.one ⟨_, hv _ (Kp.upd_same _ _ _), s1, f1⟩
theorem newRow_del_good {ty : TypeId} {cells : List AV} {n least : Nat} {o o0 : SO} {v : SV} {x : Nat} {p : Pos} (s : St κ sh h) (hx : κ x = some p) (hg : sh.get x = some o0) (hr : ORel κ o (.row ty cells n (some least))) (hv : ∀ κ' : Kp, κ' sh.nm = some h.next → sden κ' v = some (.slice h.next 0 least (.opn 0))) : Good κ sh h v ((sh.del x).add o) (newRowOpen (h.del p) ty cells n least) := by
  obtain ⟨s1, f1⟩ := s.del hx hg
  obtain ⟨s2, f2⟩ := s1.alloc hr
  exact Good.one ⟨_, hv _ (Kp.upd_same _ _ _), s2, f1.trans f2⟩
theorem Good.same {v : SV} {a : AV} (s : St κ sh h) (hd : sden κ v = some a) : Good κ sh h v sh [⟨a, h⟩] := Good.one ⟨κ, hd, s, Fr.refl s⟩
theorem aApp_slice {ty sz off len k : Nat} {p : Pos} {cap : ACap} {xs cs : List AV} {ty' n : Nat} {o : Option Nat} (hone : allOne xs = true) (hg : h.objs.get p = some (.row ty' cs n o)) :
    aAppend ty sz h (.slice p off len cap) xs (k + 1) = cap.on (fun c => appK ty sz h p off len c xs (k + 1) cs) (fun skip => liftO o fun least => whenL (Nat.beq off (Nat.mul skip sz)) (whenL (Nat.beq ty ty') (appO ty sz h p off len skip least xs (k + 1) ty' cs n))) := by
  show whenL (allOne xs) (h.row p [] fun ty' cells n o => cap.on (fun c => appK ty sz h p off len c xs (k + 1) cells) (fun skip => liftO o fun least => whenL (Nat.beq off (Nat.mul skip sz)) (whenL (Nat.beq ty ty') (appO ty sz h p off len skip least xs (k + 1) ty' cells n)))) = _
  rw [hone, row_eq hg]; rfl
theorem appO_new {ty sz off len skip least k : Nat} {p : Pos} {xs cs : List AV} {ty' n : Nat} (h1 : least < skip + (len + k)) (h2 : skip + len ≤ least) (h3 : off + len * sz ≤ n) (h4 : off + len * sz ≤ cs.length) :
    appO ty sz h p off len skip least xs k ty' cs n = newRowOpen (h.del p) ty ((cs.drop off).take (len * sz) ++ xs) ((len + k) * sz) (len + k) := by
  unfold appO
  have e1 : Nat.ble (Nat.add skip (Nat.add len k)) least = false := ble_false.2 h1
  have e2 : Nat.ble (Nat.add skip len) least = true := ble_iff.2 h2
  have e3 : Nat.ble (Nat.add off (Nat.mul len sz)) n = true := ble_iff.2 h3
  rw [e1, e2, e3]
  show liftO (ltake (Nat.mul len sz) (ldrop off cs)) _ = _
  rw [ldrop_eq, ltake_of (by rw [List.length_drop]; show len * sz ≤ _; omega)]
  show newRowOpen (h.del p) ty (lapp _ xs) (Nat.mul (Nat.add len k) sz) (Nat.add len k) = _
  rw [lapp_eq]; rfl
theorem app0_good {s v : SV} {as : AV} {sh2 : SH} {ty sz : Nat} {xs : List SV} {axs : List AV} (hv : (appRaw ty sz sh s xs 0).val = some (v, sh2)) (st : St κ sh h) (hs : sden κ s = some as) : Good κ sh h v sh2 (aAppend ty sz h as axs 0) := by
  show Good κ sh h v sh2 (app0 h as)
  unfold appRaw at hv
  simp only at hv
  split at hv
  · rename_i k
    split at hv
    · rename_i e1
      cases leaf_some hv
      rw [sden_nil hs]
      show Good _ _ _ _ _ (pick (Nat.beq k.no 1) [⟨.nil k, h⟩] [])
      rw [e1]; exact Good.same st rfl
    · cases hv
  · rename_i x off len cap
    obtain ⟨p, d1, rfl⟩ := sden_sl hs
    split at hv
    · rename_i c
      split at hv
      · rename_i e1
        cases leaf_some hv
        show Good _ _ _ _ _ (pick (Nat.ble len c) [⟨.slice p off len (.known c), h⟩] [])
        rw [e1]; exact Good.same st hs
      · cases hv
    · rename_i skip
      split at hv
      · rename_i ty' cells least hg
        obtain ⟨p', ao, d2, d3, cs, d4, rfl⟩ := st.rel x _ hg
        rw [d1] at d2; cases d2
        split at hv
        · rename_i e1
          cases leaf_some hv
          show Good _ _ _ _ _ (h.row p [] fun _ _ _ o => liftO o fun least => pick (Nat.ble (Nat.add skip len) least) [⟨.slice p off len (.opn skip), h⟩] [])
          rw [row_eq d3]
          show Good _ _ _ _ _ (pick (Nat.ble (Nat.add skip len) least) [⟨.slice p off len (.opn skip), h⟩] [])
          have : Nat.ble (Nat.add skip len) least = true := e1
          rw [this]; exact Good.same st hs
        · cases hv
      · cases hv
  · obtain ⟨p, d1, rfl⟩ := sden_etl hs
    cases leaf_some hv
    exact Good.same st hs
  · rename_i x z lo len
    obtain ⟨p, d1, rfl⟩ := sden_tsl hs
    split at hv
    · rename_i L hL
      obtain ⟨g1, g2⟩ := need_some hv
      have g1 := of_decide_eq_true g1
      cases leaf_some g2
      cases hg : sh.get x with
      | none => rw [hg] at hL; cases hL
      | some o =>
        rw [hg] at hL
        obtain ⟨p', ao, d2, d3, d4⟩ := st.rel x _ hg
        rw [d1] at d2; cases d2
        obtain ⟨ty', cells, n, rfl⟩ := many_rel (show o.many = some L from hL) d4
        show Good _ _ _ _ _ (h.row p [] fun _ _ _ o => liftO o fun least => pick (Nat.ble (Nat.add lo len) least) [⟨.slice p (lo * z) len (.opn lo), h⟩] [])
        rw [row_eq d3]
        show Good _ _ _ _ _ (pick (Nat.ble (Nat.add lo len) L) [⟨.slice p (lo * z) len (.opn lo), h⟩] [])
        have : Nat.ble (Nat.add lo len) L = true := ble_iff.2 g1
        rw [this]; exact Good.same st hs
    · cases hv
  · cases hv
theorem appRaw_good {s v : SV} {as : AV} {sh2 : SH} {ty sz k : Nat} {xs : List SV} {axs : List AV} (hv : (appRaw ty sz sh s xs k).val = some (v, sh2)) (st : St κ sh h) (hs : sden κ s = some as) (hx : sdenL κ xs = some axs) : Good κ sh h v sh2 (aAppend ty sz h as axs k) := by
  cases k with
  | zero => exact app0_good hv st hs
  | succ k =>
    unfold appRaw at hv
    simp only at hv
    split at hv
    · rename_i q h1
      have hone := allOne3_den h1 hx
      split at hv
      · rename_i e1 e2
        cases leaf_some hv
        rw [sden_nil hs]
        show Good _ _ _ _ _ (whenL (allOne axs) (whenL (Nat.beq q.no 1) (newRowOpen h ty axs (Nat.mul (k + 1) sz) (k + 1))))
        rw [hone, e1]
        have hl := sdenL_length hx
        have e2 := beq_iff.1 e2
        rw [llen_eq] at e2
        exact newRow_good st ⟨axs, hx, by rw [hl, e2]; rfl⟩ fun κ' hk => by simp only [sden, hk]
      · cases hv
    · rename_i x off len cap h1
      have hone := allOne3_den h1 hx
      obtain ⟨p, d1, rfl⟩ := sden_sl hs
      split at hv
      · rename_i ty' cells o hg
        obtain ⟨p', ao, d2, d3, cs, d4, rfl⟩ := st.rel x _ hg
        rw [d1] at d2; cases d2
        have hlc := sdenL_length d4
        have hlx := sdenL_length hx
        rw [aApp_slice hone d3]
        split at hv
        · rename_i c
          show Good _ _ _ _ _ (pick (Nat.ble (Nat.add len (k + 1)) c) (liftO (hput h p (Nat.add off (Nat.mul len sz)) axs) fun h => [⟨.slice p off (Nat.add len (k + 1)) (.known c), h⟩]) (liftO (ltake (Nat.mul len sz) (ldrop off cs)) fun old => newRowOpen h ty (lapp old axs) (Nat.mul (Nat.add len (k + 1)) sz) (Nat.add len (k + 1))))
          split at hv
          · rename_i e1
            have e1' : Nat.ble (Nat.add len (k + 1)) c = true := e1
            rw [e1']
            split at hv
            · rename_i cells' hc
              cases leaf_some hv
              obtain ⟨k1, rfl⟩ := lput_some hc
              have hput' := hput_eq d3 (lput_of (vs := axs) (k := off + len * sz) (by omega))
              have hnew := sdenL_append (sdenL_append (sdenL_take (off + len * sz) d4) hx) (sdenL_drop (off + len * sz + xs.length) d4)
              show Good _ _ _ _ _ (liftO (hput h p (off + len * sz) axs) fun h => [⟨.slice p off (len + (k + 1)) (.known c), h⟩])
              rw [hput']
              obtain ⟨s1, f1⟩ := st.put (ao := .row ty' (cs.take (off + len * sz) ++ axs ++ cs.drop (off + len * sz + axs.length)) cs.length o) (o := .row ty' (cells.take (off + len * sz) ++ xs ++ cells.drop (off + len * sz + xs.length)) o) d1 hg ⟨_, hnew, by rw [hlx]; congr 1; simp; omega⟩
              exact Good.one ⟨κ, by simp only [sden, d1], s1, f1⟩
            · cases hv
          · rename_i e1
            have e1' : Nat.ble (Nat.add len (k + 1)) c = false := e1
            rw [e1']
            split at hv
            · rename_i old ho e2
              cases leaf_some hv
              obtain ⟨k1, rfl⟩ := ltake_some ho
              rw [ldrop_eq] at k1 ⊢
              rw [List.length_drop] at k1
              show Good _ _ _ _ _ (liftO (ltake (len * sz) (ldrop off cs)) fun old => newRowOpen h ty (lapp old axs) ((len + (k + 1)) * sz) (len + (k + 1)))
              rw [ldrop_eq, ltake_of (by rw [List.length_drop]; omega)]
              show Good _ _ _ _ _ (newRowOpen h ty (lapp _ axs) ((len + (k + 1)) * sz) (len + (k + 1)))
              rw [lapp_eq, lapp_eq]
              have e2 := beq_iff.1 e2
              rw [llen_eq] at e2
              refine newRow_good st ⟨_, sdenL_append (sdenL_take (len * sz) (sdenL_drop off d4)) hx, ?_⟩ fun κ' hk => by simp only [sden, hk]
              congr 1
              rw [List.length_append, List.length_take, List.length_drop, hlx, e2, Nat.add_mul, Nat.min_eq_left (by omega)]
            · cases hv
        · rename_i skip
          split at hv
          · rename_i least
            split at hv
            · rename_i f1 f2 f3
              split at hv
              · rename_i old f4 ho f5
                cases leaf_some hv
                rw [Bool.and_eq_true] at f4
                obtain ⟨k1, rfl⟩ := ltake_some ho
                rw [ldrop_eq] at k1 ⊢
                rw [List.length_drop] at k1
                have f42 := ble_iff.1 f4.2
                rw [llen_eq] at f42
                have f5 := beq_iff.1 f5
                rw [llen_eq] at f5
                show Good _ _ _ _ _ (whenL (Nat.beq off (skip * sz)) (whenL (Nat.beq ty ty') (appO ty sz h p off len skip least axs (k + 1) ty' cs cs.length)))
                rw [f1, f2]
                show Good _ _ _ _ _ (appO ty sz h p off len skip least axs (k + 1) ty' cs cs.length)
                rw [appO_new (ble_false.1 f3) (ble_iff.1 f4.1) (by omega) (by omega), lapp_eq]
                refine newRow_del_good st d1 hg ⟨_, sdenL_append (sdenL_take (len * sz) (sdenL_drop off d4)) hx, ?_⟩ fun κ' hk => by simp only [sden]; rw [hk]
                congr 1
                rw [List.length_append, List.length_take, List.length_drop, hlx, f5, Nat.add_mul, Nat.min_eq_left (by omega)]
              · cases hv
            · cases hv
          · cases hv
      · cases hv
    · cases hv
theorem allOne_encR (S : List FK) (r : Rc) : ∀ a ∈ encR S r, a.one = true := by
  induction S generalizing r with
  | nil => intro a ha; cases ha
  | cons k S ih =>
    intro a ha
    rcases List.mem_cons.1 ha with rfl | ha
    · cases k <;> rfl
    · exact ih _ a ha
theorem allOne_encL (S : List FK) (l : List Rc) : allOne (encL S l) = true := by
  rw [allOne_iff]
  intro a ha
  unfold encL at ha
  obtain ⟨r, _, hr⟩ := List.mem_flatMap.1 ha
  exact allOne_encR S r a hr
theorem allOne_bytes (l : List UInt8) : allOne (bytesCells l) = true := by
  rw [allOne_iff, bytesCells_map]
  intro a ha
  obtain ⟨b, _, rfl⟩ := List.mem_map.1 ha
  rfl
/-- nothing is appended -/
theorem app0_nil {q : NK} (st : St κ sh h) (e : Nat.beq q.no 1 = true) : Good κ sh h (.nil q) sh (app0 h (.nil q)) := by
  show Good _ _ _ _ _ (pick (Nat.beq q.no 1) [⟨.nil q, h⟩] [])
  rw [e]; exact Good.same st rfl
theorem FK.same_eq {a b : FK} (h : a.same b = true) : a = b := by
  cases a <;> cases b <;> try (cases h; done)
  · rfl
  · rename_i k k'; have h' : ikeq k k' = true := h; rw [ikeq_iff.1 h']
  · rfl
theorem sameFK_eq : ∀ {S S' : List FK}, sameFK S S' = true → S = S'
  | [], [], _ => rfl
  | a :: l, b :: m, h => by
    have h' : (a.same b && sameFK l m) = true := h
    rw [Bool.and_eq_true] at h'
    rw [FK.same_eq h'.1, sameFK_eq h'.2]
  | [], _ :: _, h => by cases h
  | _ :: _, [], h => by cases h
theorem appRecs_good {s v : SV} {as : AV} {sh2 : SH} {ty : Nat} {S : List FK} {l : List Rc} {ne : Bool} (hne : ne = true → l ≠ []) (hv : (appRecs ne ty S sh s l).val = some (v, sh2)) (st : St κ sh h) (hs : sden κ s = some as) : Good κ sh h v sh2 (aAppend ty S.length h as (encL S l) l.length) := by
  have hone := allOne_encL S l
  have fin : ∀ {κ' : Kp} {L : List Rc} {nm : Nat} {p : Pos}, κ' nm = some p → sden κ' (.tsl nm (llen S) 0 L.length) = some (.slice p 0 L.length (.opn 0)) := fun hk => by
    simp only [sden, hk, Nat.zero_mul]
  unfold appRecs at hv
  split at hv
  · rename_i q
    split at hv
    · rename_i e1
      rw [sden_nil hs]
      rcases nodeNE_some (fun e => decide_eq_false (hne e)) hv with ⟨f1, f2⟩ | ⟨f1, f2⟩
      · cases leaf_some f2
        rw [of_decide_eq_true f1]
        exact app0_nil st e1
      · cases leaf_some f2
        cases l with
        | nil => simp at f1
        | cons r l =>
          show Good _ _ _ _ _ (whenL (allOne (encL S (r :: l))) (whenL (Nat.beq q.no 1) (newRowOpen h ty (encL S (r :: l)) (Nat.mul (l.length + 1) S.length) (l.length + 1))))
          rw [hone, e1]
          exact newRow_good st rfl fun κ' hk => fin (L := r :: l) hk
    · cases hv
  · rename_i x off len cap
    obtain ⟨p, d1, rfl⟩ := sden_sl hs
    split at hv
    · split at hv
      · rename_i ty' cells o hg
        obtain ⟨p', ao, d2, d3, cs, d4, rfl⟩ := st.rel x _ hg
        rw [d1] at d2; cases d2
        rcases nodeNE_some (fun e => decide_eq_false (hne e)) hv with ⟨f1, f2⟩ | ⟨f1, f2⟩
        · cases leaf_some f2
          rw [of_decide_eq_true f1]
          exact Good.same st hs
        · cases leaf_some f2
          cases l with
          | nil => simp at f1
          | cons r l =>
            have e0 : (r :: l).length = l.length + 1 := rfl
            rw [e0, aApp_slice hone d3]
            show Good _ _ _ _ _ (pick (Nat.ble (Nat.add 0 (l.length + 1)) 0) (liftO (hput h p (Nat.add off (Nat.mul 0 S.length)) (encL S (r :: l))) fun h => [⟨.slice p off (Nat.add 0 (l.length + 1)) (.known 0), h⟩]) (liftO (ltake (Nat.mul 0 S.length) (ldrop off cs)) fun old => newRowOpen h ty (lapp old (encL S (r :: l))) (Nat.mul (Nat.add 0 (l.length + 1)) S.length) (Nat.add 0 (l.length + 1))))
            have e1 : Nat.ble (Nat.add 0 (l.length + 1)) 0 = false := ble_false.2 (by show 0 < 0 + (l.length + 1); omega)
            have e2 : Nat.mul 0 S.length = 0 := Nat.zero_mul _
            have e3 : Nat.add 0 (l.length + 1) = l.length + 1 := Nat.zero_add _
            rw [e1, e2, e3]
            show Good _ _ _ _ _ (newRowOpen h ty (encL S (r :: l)) ((l.length + 1) * S.length) (l.length + 1))
            exact newRow_good st rfl fun κ' hk => fin (L := r :: l) hk
      · cases hv
    · cases hv
  · rename_i x sz lo len
    obtain ⟨p, d1, rfl⟩ := sden_tsl hs
    split at hv
    · rename_i ty' S' l' hg
      obtain ⟨p', ao, d2, d3, rfl⟩ := st.rel x _ hg
      rw [d1] at d2; cases d2
      split at hv
      · rename_i e1 e2 e3
        cases beq_iff.1 e1
        have e2 := beq_iff.1 e2
        rw [llen_eq] at e2
        cases e2
        cases sameFK_eq e3
        obtain ⟨g1, g2⟩ := need_some hv
        obtain ⟨rfl, rfl⟩ := of_decide_eq_true g1
        rcases nodeNE_some (fun e => decide_eq_false (hne e)) g2 with ⟨f1, f2⟩ | ⟨f1, f2⟩
        · cases leaf_some f2
          rw [of_decide_eq_true f1]
          show Good _ _ _ _ _ (h.row p [] fun _ _ _ o => liftO o fun least => pick (Nat.ble (Nat.add 0 l'.length) least) [⟨.slice p (0 * S.length) l'.length (.opn 0), h⟩] [])
          rw [row_eq d3]
          show Good _ _ _ _ _ (pick (Nat.ble (Nat.add 0 l'.length) l'.length) [⟨.slice p (0 * S.length) l'.length (.opn 0), h⟩] [])
          have : Nat.ble (Nat.add 0 l'.length) l'.length = true := ble_iff.2 (by show 0 + _ ≤ _; omega)
          rw [this]; exact Good.same st hs
        · cases leaf_some f2
          cases l with
          | nil => simp at f1
          | cons r l =>
            have e0 : (r :: l).length = l.length + 1 := rfl
            rw [e0, aApp_slice hone d3]
            show Good _ _ _ _ _ (whenL (Nat.beq (0 * S.length) (Nat.mul 0 S.length)) (whenL (Nat.beq ty ty) (appO ty S.length h p (0 * S.length) l'.length 0 l'.length (encL S (r :: l)) (l.length + 1) ty (encL S l') (l'.length * S.length))))
            have z1 : Nat.beq (0 * S.length) (Nat.mul 0 S.length) = true := beq_iff.2 rfl
            rw [z1, Nat.beq_refl]
            show Good _ _ _ _ _ (appO ty S.length h p (0 * S.length) l'.length 0 l'.length (encL S (r :: l)) (l.length + 1) ty (encL S l') (l'.length * S.length))
            have hl := encL_length S l'
            rw [appO_new (by omega) (by omega) (by omega) (by omega), Nat.zero_mul, List.drop_zero, List.take_of_length_le (by omega), ← encL_append]
            refine newRow_del_good st d1 hg ?_ fun κ' hk => ?_
            · show _ = _
              simp
            · have := fin (κ' := κ') (L := l' ++ r :: l) hk
              rw [show (sh.del x).nm = sh.nm from rfl, this]; simp
      · cases hv
    · cases hv
  · cases hv
theorem appBytes_good {s v : SV} {as : AV} {sh2 : SH} {ty : Nat} {l : List UInt8} {ne : Bool} (hne : ne = true → l ≠ []) (hv : (appBytes ne ty sh s l).val = some (v, sh2)) (st : St κ sh h) (hs : sden κ s = some as) : Good κ sh h v sh2 (aAppend ty 1 h as (bytesCells l) l.length) := by
  have hone := allOne_bytes l
  have fin : ∀ {κ' : Kp} {L : List UInt8} {nm : Nat} {p : Pos}, κ' nm = some p → sden κ' (.tsl nm 1 0 L.length) = some (.slice p 0 L.length (.opn 0)) := fun hk => by
    simp only [sden, hk, Nat.zero_mul]
  unfold appBytes at hv
  split at hv
  · rename_i q
    split at hv
    · rename_i e1
      rw [sden_nil hs]
      rcases nodeNE_some (fun e => decide_eq_false (hne e)) hv with ⟨f1, f2⟩ | ⟨f1, f2⟩
      · cases leaf_some f2
        rw [of_decide_eq_true f1]
        exact app0_nil st e1
      · cases leaf_some f2
        cases l with
        | nil => simp at f1
        | cons r l =>
          show Good _ _ _ _ _ (whenL (allOne (bytesCells (r :: l))) (whenL (Nat.beq q.no 1) (newRowOpen h ty (bytesCells (r :: l)) (Nat.mul (l.length + 1) 1) (l.length + 1))))
          rw [hone, e1]
          have e4 : Nat.mul (l.length + 1) 1 = l.length + 1 := Nat.mul_one _
          rw [e4]
          exact newRow_good st rfl fun κ' hk => fin (L := r :: l) hk
    · cases hv
  · rename_i x sz lo len
    obtain ⟨p, d1, rfl⟩ := sden_tsl hs
    split at hv
    · rename_i ty' l' hg
      obtain ⟨p', ao, d2, d3, rfl⟩ := st.rel x _ hg
      rw [d1] at d2; cases d2
      split at hv
      · rename_i e1 e2
        cases beq_iff.1 e1
        cases beq_iff.1 e2
        obtain ⟨g1, g2⟩ := need_some hv
        obtain ⟨rfl, rfl⟩ := of_decide_eq_true g1
        rcases nodeNE_some (fun e => decide_eq_false (hne e)) g2 with ⟨f1, f2⟩ | ⟨f1, f2⟩
        · cases leaf_some f2
          rw [of_decide_eq_true f1]
          show Good _ _ _ _ _ (h.row p [] fun _ _ _ o => liftO o fun least => pick (Nat.ble (Nat.add 0 l'.length) least) [⟨.slice p (0 * 1) l'.length (.opn 0), h⟩] [])
          rw [row_eq d3]
          show Good _ _ _ _ _ (pick (Nat.ble (Nat.add 0 l'.length) l'.length) [⟨.slice p (0 * 1) l'.length (.opn 0), h⟩] [])
          have : Nat.ble (Nat.add 0 l'.length) l'.length = true := ble_iff.2 (by show 0 + _ ≤ _; omega)
          rw [this]; exact Good.same st hs
        · cases leaf_some f2
          cases l with
          | nil => simp at f1
          | cons r l =>
            have e0 : (r :: l).length = l.length + 1 := rfl
            rw [e0, aApp_slice hone d3]
            show Good _ _ _ _ _ (whenL (Nat.beq (0 * 1) (Nat.mul 0 1)) (whenL (Nat.beq ty ty) (appO ty 1 h p (0 * 1) l'.length 0 l'.length (bytesCells (r :: l)) (l.length + 1) ty (bytesCells l') l'.length)))
            have z1 : Nat.beq (0 * 1) (Nat.mul 0 1) = true := rfl
            rw [z1, Nat.beq_refl]
            show Good _ _ _ _ _ (appO ty 1 h p (0 * 1) l'.length 0 l'.length (bytesCells (r :: l)) (l.length + 1) ty (bytesCells l') l'.length)
            have hl := bytesCells_length l'
            rw [appO_new (by omega) (by omega) (by omega) (by omega), Nat.zero_mul, List.drop_zero, List.take_of_length_le (by omega), ← bytesCells_append]
            refine newRow_del_good st d1 hg ?_ fun κ' hk => ?_
            · show _ = _
              simp
            · have := fin (κ' := κ') (L := l' ++ r :: l) hk
              rw [show (sh.del x).nm = sh.nm from rfl, this]; simp
      · cases hv
    · cases hv
  · cases hv
end
end Go.Proofs.YtgemonlknehegaaGreatDoor.AI
