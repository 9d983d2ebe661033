/- The chain of TopRefuses, part 30. -/
import Derived.Test.YtgemonlknehegaaGreatDoorK29
namespace Go.Proofs.YtgemonlknehegaaGreatDoor.AI
open Go
set_option linter.unusedVariables false
set_option linter.unusedSimpArgs false
noncomputable section
/-! ### New names -/
mutual
def SV.renO (g : Nat → Option Nat) : SV → Option SV
  | .b o x => some (.b o x)
  | .i o k n => some (.i o k n)
  | .s o l => some (.s o l)
  | .nil k => some (.nil k)
  | .ptr x off => match g x with | some y => some (.ptr y off) | none => none
  | .sl x off len cap => match g x with | some y => some (.sl y off len cap) | none => none
  | .map x => match g x with | some y => some (.map y) | none => none
  | .func f a c => match renOL g a, renOL g c with | some a, some c => some (.func f a c) | _, _ => none
  | .yield x => match g x with | some y => some (.yield y) | none => none
  | .agg l => match renOL g l with | some l => some (.agg l) | none => none
  | .tuple l => match renOL g l with | some l => some (.tuple l) | none => none
  | .tsl x sz lo len => match g x with | some y => some (.tsl y sz lo len) | none => none
  | .etl x off skip l sz => match g x with | some y => some (.etl y off skip l sz) | none => none
  | .eptr x sz i fo => match g x with | some y => some (.eptr y sz i fo) | none => none
  | .o a => some (.o a)
def renOL (g : Nat → Option Nat) : List SV → Option (List SV)
  | [] => some []
  | v :: l => match v.renO g, renOL g l with | some w, some r => some (w :: r) | _, _ => none
end
def renOM (g : Nat → Option Nat) : List (SV × SV × Nat) → Option (List (SV × SV × Nat))
  | [] => some []
  | e :: l => match e.1.renO g, e.2.1.renO g, renOM g l with | some k, some v, some r => some ((k, v, e.2.2) :: r) | _, _, _ => none
def SO.renO (g : Nat → Option Nat) (o : SO) : Option SO :=
  match o with
  | .row ty cells opn => (match renOL g cells with | some cells => some (.row ty cells opn) | none => none)
  | .lrow ty S l => some (.lrow ty S l)
  | .bytes ty l => some (.bytes ty l)
  | .map es clock => (match renOM g es with | some es => some (.map es clock) | none => none)
  | .smap l => some (.smap l)
  | .loop f ix ts ps a c => (match renOL g ts with | some ts => some (.loop f ix ts ps a c) | none => none)
/-- the place of a name in a list of names -/
def idx : List Nat → Nat → Option Nat
  | [], _ => none
  | y :: l, x => match Nat.beq y x with | true => some 0 | false => (match idx l x with | some i => some (Nat.succ i) | none => none)
/-- the objects of names, those that are known -/
def pullO (g : Nat → Option Nat) (sh : SH) : List Nat → Nat → Option (List (Nat × SO))
  | [], _ => some []
  | x :: l, i => match sh.get x, pullO g sh l (Nat.succ i) with
    | some o, some r => (match o.renO g with | some o => some ((i, o) :: r) | none => none)
    | none, some r => some r
    | _, none => none
/-- a memory by the names of a list alone -/
def pullH (th : List Nat) (sh : SH) : Option SH := match pullO (idx th) sh th 0 with | some l => some ⟨l, llen th⟩ | none => none
def pull (th : List Nat) (r : SV × SH) : Option (SV × SH) := match r.1.renO (idx th), pullH th r.2 with | some v, some h => some (v, h) | _, _ => none
def noDup : List Nat → Bool
  | [] => true
  | x :: l => (match idx l x with | none => true | some _ => false) && noDup l
/-- the first k names are as they were, the others new ones -/
def stays (k : Nat) : List Nat → Nat → Bool
  | [], i => Nat.ble k i
  | x :: l, i => (match Nat.blt i k with | true => Nat.beq x i | false => Nat.ble k x) && stays k l (Nat.succ i)
section
variable {κ κ1 : Kp} {g : Nat → Option Nat} {sh sh' : SH} {h h' : H}
mutual
theorem renO_den (hg : ∀ x y, g x = some y → κ1 y = κ x) : ∀ {v w : SV} {a : AV}, v.renO g = some w → sden κ v = some a → sden κ1 w = some a
  | .b .., _, _, h, hd | .i .., _, _, h, hd | .s .., _, _, h, hd | .nil .., _, _, h, hd | .o .., _, _, h, hd => by cases h; simpa [sden] using hd
  | .ptr x _, _, _, h, hd | .sl x _ _ _, _, _, h, hd | .map x, _, _, h, hd | .yield x, _, _, h, hd | .tsl x _ _ _, _, _, h, hd | .etl x _ _ _ _, _, _, h, hd | .eptr x _ _ _, _, _, h, hd => by
    cases hx : g x with
    | none => simp [SV.renO, hx] at h
    | some y =>
      simp only [SV.renO, hx] at h
      cases h
      have := hg x y hx
      simp only [sden, this] at hd ⊢
      exact hd
  | .func f a c, _, _, h, hd => by
    cases ha : renOL g a with
    | none => simp [SV.renO, ha] at h
    | some a' => cases hc : renOL g c with
      | none => simp [SV.renO, ha, hc] at h
      | some c' =>
        simp only [SV.renO, ha, hc] at h
        cases h
        obtain ⟨r, s, d1, d2, rfl⟩ := sden_func hd
        simp only [sden, renOL_den hg ha d1, renOL_den hg hc d2]
  | .agg l, _, _, h, hd => by
    cases ha : renOL g l with
    | none => simp [SV.renO, ha] at h
    | some a' =>
      simp only [SV.renO, ha] at h
      cases h
      obtain ⟨r, d1, rfl⟩ := sden_agg hd
      simp only [sden, renOL_den hg ha d1]
  | .tuple l, _, _, h, hd => by
    cases ha : renOL g l with
    | none => simp [SV.renO, ha] at h
    | some a' =>
      simp only [SV.renO, ha] at h
      cases h
      obtain ⟨r, d1, rfl⟩ := sden_tuple hd
      simp only [sden, renOL_den hg ha d1]
theorem renOL_den (hg : ∀ x y, g x = some y → κ1 y = κ x) : ∀ {l m : List SV} {as : List AV}, renOL g l = some m → sdenL κ l = some as → sdenL κ1 m = some as
  | [], m, as, h, hd => by cases h; simpa [sdenL] using hd
  | v :: l, m, as, h, hd => by
    obtain ⟨a, s, h1, h2, rfl⟩ := sdenL_cons.1 hd
    cases hv : v.renO g with
    | none => simp [renOL, hv] at h
    | some w => cases hl : renOL g l with
      | none => simp [renOL, hv, hl] at h
      | some r =>
        simp only [renOL, hv, hl] at h
        cases h
        exact sdenL_cons.2 ⟨a, s, renO_den hg hv h1, renOL_den hg hl h2, rfl⟩
end
theorem renOM_den (hg : ∀ x y, g x = some y → κ1 y = κ x) : ∀ {l m : List (SV × SV × Nat)} {as : List ME}, renOM g l = some m → mden κ l = some as → mden κ1 m = some as
  | [], m, as, h, hd => by cases h; exact hd
  | e :: l, m, as, h, hd => by
    obtain ⟨k, v, s, h1, h2, h3, rfl⟩ := mden_cons.1 hd
    unfold renOM at h
    split at h
    · rename_i k' v' r e1 e2 e3
      cases h
      exact mden_cons.2 ⟨k, v, s, renO_den hg e1 h1, renO_den hg e2 h2, renOM_den hg e3 h3, rfl⟩
    · cases h
theorem SO.renO_rel (hg : ∀ x y, g x = some y → κ1 y = κ x) {o o' : SO} {ao : AObj} (h : o.renO g = some o') (hr : ORel κ o ao) : ORel κ1 o' ao := by
  cases o with
  | row ty cells opn =>
    unfold SO.renO at h
    simp only at h
    split at h
    · rename_i cs hc
      cases h
      obtain ⟨as, h1, h2⟩ := hr
      exact ⟨as, renOL_den hg hc h1, h2⟩
    · cases h
  | lrow ty S l => cases h; exact hr
  | bytes ty l => cases h; exact hr
  | map es clock =>
    unfold SO.renO at h
    simp only at h
    split at h
    · rename_i cs hc
      cases h
      obtain ⟨as, h1, h2⟩ := hr
      exact ⟨as, renOM_den hg hc h1, h2⟩
    · cases h
  | smap l => cases h; exact hr
  | loop f ix ts ps a c =>
    unfold SO.renO at h
    simp only at h
    split at h
    · rename_i cs hc
      cases h
      obtain ⟨tm, d, as, h1, h2, h3⟩ := hr
      exact ⟨tm, d, as, h1, h2, renOL_den hg hc h3⟩
    · cases h
theorem idx_get : ∀ {l : List Nat} {x i : Nat}, idx l x = some i → l[i]? = some x
  | [], x, i, h => by cases h
  | y :: l, x, i, h => by
    unfold idx at h
    split at h
    · rename_i hb; cases h; rw [beq_iff.1 hb]; rfl
    · split at h
      · rename_i j hj; cases h; have := idx_get hj; simpa using this
      · cases h
theorem idx_none : ∀ {l : List Nat} {x : Nat}, idx l x = none → x ∉ l
  | [], x, _ => by simp
  | y :: l, x, h => by
    unfold idx at h
    split at h
    · cases h
    · rename_i hb
      split at h
      · cases h
      · rename_i hj
        intro hm
        rcases List.mem_cons.1 hm with rfl | hm
        · exact absurd rfl (beq_false.1 hb)
        · exact idx_none hj hm
theorem noDup_inj : ∀ {l : List Nat}, noDup l = true → ∀ i j x : Nat, l[i]? = some x → l[j]? = some x → i = j
  | [], _, i, j, x, h, _ => by simp at h
  | y :: l, hd, i, j, x, hi, hj => by
    have hd' : ((match idx l y with | none => true | some _ => false) && noDup l) = true := hd
    rw [Bool.and_eq_true] at hd'
    obtain ⟨h1, h2⟩ := hd'
    have hn : y ∉ l := by
      cases he : idx l y with
      | none => exact idx_none he
      | some z => rw [he] at h1; cases h1
    cases i with
    | zero =>
      cases j with
      | zero => rfl
      | succ j =>
        simp at hi hj
        subst hi
        exact absurd (List.mem_of_getElem? hj) hn
    | succ i =>
      cases j with
      | zero =>
        simp at hi hj
        subst hj
        exact absurd (List.mem_of_getElem? hi) hn
      | succ j =>
        have := noDup_inj h2 i j x (by simpa using hi) (by simpa using hj)
        omega
theorem stays_get : ∀ {k : Nat} {l : List Nat} {b : Nat}, stays k l b = true → (∀ i x, l[i]? = some x → (b + i < k → x = b + i) ∧ (k ≤ b + i → k ≤ x)) ∧ k ≤ b + l.length
  | k, [], b, h => ⟨fun i x hx => by simp at hx, by have := ble_iff.1 (show Nat.ble k b = true from h); simpa using this⟩
  | k, y :: l, b, h => by
    have h' : ((match Nat.blt b k with | true => Nat.beq y b | false => Nat.ble k y) && stays k l (Nat.succ b)) = true := h
    rw [Bool.and_eq_true] at h'
    obtain ⟨h1, h2⟩ := h'
    obtain ⟨i1, i2⟩ := stays_get h2
    refine ⟨fun i x hx => ?_, by simp; omega⟩
    cases i with
    | zero =>
      simp at hx; subst hx
      refine ⟨fun hlt => ?_, fun hge => ?_⟩
      · rw [blt_iff.2 (show b < k by omega)] at h1; exact beq_iff.1 h1
      · rw [blt_false.2 (show k ≤ b by omega)] at h1; exact ble_iff.1 h1
    | succ i =>
      have := i1 i x (by simpa using hx)
      refine ⟨fun hlt => ?_, fun hge => ?_⟩
      · have := this.1 (by omega); omega
      · exact this.2 (by omega)
theorem pullO_get : ∀ {l : List Nat} {b : Nat} {r : List (Nat × SO)}, pullO g sh l b = some r → ∀ j o, oget r j = some o → ∃ i x o0, j = b + i ∧ l[i]? = some x ∧ sh.get x = some o0 ∧ o0.renO g = some o
  | [], b, r, h, j, o, ho => by cases h; cases ho
  | x :: l, b, r, h, j, o, ho => by
    unfold pullO at h
    split at h
    · rename_i o1 r1 h1 h2
      split at h
      · rename_i o2 h3
        cases h
        have ho' : (match Nat.beq b j with | true => some o2 | false => oget r1 j) = some o := ho
        split at ho'
        · rename_i hb
          cases ho'
          exact ⟨0, x, o1, by rw [← beq_iff.1 hb]; rfl, rfl, h1, h3⟩
        · obtain ⟨i, y, o0, e1, e2, e3, e4⟩ := pullO_get h2 j o ho'
          exact ⟨i + 1, y, o0, by omega, by simpa using e2, e3, e4⟩
      · cases h
    · rename_i r1 h1 h2
      cases h
      obtain ⟨i, y, o0, e1, e2, e3, e4⟩ := pullO_get h2 j o ho
      exact ⟨i + 1, y, o0, by omega, by simpa using e2, e3, e4⟩
    · cases h
/-- names by a list: those beyond it have none -/
def byList (κ : Kp) (th : List Nat) : Kp := fun j => match th[j]? with | some x => κ x | none => none
theorem byList_idx {th : List Nat} {x j : Nat} (h : idx th x = some j) : byList κ th j = κ x := by
  unfold byList; rw [idx_get h]
theorem pullH_st {th : List Nat} {sh1 : SH} (hp : pullH th sh = some sh1) (hd : noDup th = true) (s : St κ sh h) : St (byList κ th) sh1 h := by
  unfold pullH at hp
  split at hp
  · rename_i l hl
    cases hp
    refine ⟨fun j o ho => ?_, fun i j p hi hj => ?_, fun j hj => ?_, fun j p hj => ?_, fun j o ho => ?_⟩
    · obtain ⟨i, x, o0, e1, e2, e3, e4⟩ := pullO_get hl j o ho
      have e1 : j = i := by omega
      subst e1
      obtain ⟨p, ao, f1, f2, f3⟩ := s.rel x o0 e3
      refine ⟨p, ao, by unfold byList; rw [e2]; exact f1, f2, SO.renO_rel (fun y z hz => byList_idx hz) e4 f3⟩
    · unfold byList at hi hj
      cases h1 : th[i]? with
      | none => rw [h1] at hi; cases hi
      | some x => cases h2 : th[j]? with
        | none => rw [h2] at hj; cases hj
        | some y =>
          rw [h1] at hi; rw [h2] at hj
          have := s.inj x y p hi hj
          subst this
          exact noDup_inj hd i j x h1 h2
    · have hj' : th.length ≤ j := by have : llen th ≤ j := hj; rwa [llen_eq] at this
      unfold byList
      rw [List.getElem?_eq_none hj']
    · unfold byList at hj
      split at hj
      · exact s.low _ _ hj
      · cases hj
    · obtain ⟨i, x, o0, e1, e2, e3, e4⟩ := pullO_get hl j o ho
      show j < llen th
      rw [llen_eq]
      have := (List.getElem?_eq_some_iff.1 e2).1
      omega
  · cases hp
theorem pullH_nm {th : List Nat} {sh1 : SH} (hp : pullH th sh = some sh1) : sh1.nm = th.length := by
  unfold pullH at hp
  split at hp
  · cases hp; exact llen_eq th
  · cases hp
theorem pullH_sub {th : List Nat} {sh1 : SH} (hp : pullH th sh = some sh1) {j : Nat} {o : SO} (ho : sh1.get j = some o) : ∃ x o0, th[j]? = some x ∧ sh.get x = some o0 := by
  unfold pullH at hp
  split at hp
  · rename_i l hl
    cases hp
    obtain ⟨i, x, o0, e1, e2, e3, e4⟩ := pullO_get hl j o ho
    exact ⟨x, o0, by rw [show j = i by omega]; exact e2, e3⟩
  · cases hp
/-- AN OUTCOME BY OTHER NAMES, some of it forgotten -/
theorem fr_pull {κ' : Kp} {th : List Nat} {sh1 : SH} (hp : pullH th sh' = some sh1) (hd : noDup th = true) (hs : stays sh.nm th 0 = true) (s : St κ sh h) (s' : St κ' sh' h') (f : Fr κ sh h κ' sh' h') : Fr κ sh h (byList κ' th) sh1 h' := by
  obtain ⟨g1, g2⟩ := stays_get hs
  have hn := pullH_nm hp
  have low : ∀ j, j < sh.nm → byList κ' th j = κ' j := fun j hj => by
    have hlt : j < th.length := by omega
    have e1 := (g1 j th[j] (List.getElem?_eq_getElem hlt)).1 (by omega)
    unfold byList
    rw [List.getElem?_eq_getElem hlt]
    simp only
    rw [e1, Nat.zero_add]
  refine ⟨fun x p hx => ?_, by omega, f.next, f.kept, fun x hx => ?_, fun j o ho hj => ?_, fun j p hj hq => ?_⟩
  · have hlt : x < sh.nm := by
      apply Classical.byContradiction
      intro hn; rw [s.fresh x (by omega)] at hx; cases hx
    rw [low x hlt]; exact f.le x p hx
  · rw [low x hx]; exact f.old x hx
  · obtain ⟨x, o0, e1, e2⟩ := pullH_sub hp ho
    have e3 := (g1 j x e1).1 (by omega)
    have e4 : x = j := by omega
    subst e4
    exact f.sub x o0 e2 (by omega)
  · unfold byList at hq
    split at hq
    · rename_i x hx
      exact f.new x p ((g1 j x hx).2 (by omega)) hq
    · cases hq
theorem good_pull {th : List Nat} {v v1 : SV} {sh1 : SH} {rs : List VR} (s : St κ sh h) (hp : pull th (v, sh') = some (v1, sh1)) (hd : noDup th = true) (hs : stays sh.nm th 0 = true) (hg : Good κ sh h v sh' rs) : Good κ sh h v1 sh1 rs := by
  unfold pull at hp
  split at hp
  · rename_i w hh h1 h2
    cases hp
    refine ⟨hg.1, fun r hr => ?_⟩
    obtain ⟨κ', a, b, c⟩ := hg.2 r hr
    exact ⟨byList κ' th, renO_den (fun y z hz => byList_idx hz) h1 a, pullH_st h2 hd b, fr_pull h2 hd hs s b c⟩
  · cases hp
/-! ### In any memory -/
/-- the names that values and objects bear -/
def namesV : SV → List Nat
  | .ptr x _ => [x] | .sl x _ _ _ => [x] | .map x => [x] | .yield x => [x] | .tsl x _ _ _ => [x] | .etl x _ _ _ _ => [x] | .eptr x _ _ _ => [x]
  | .func _ a c => namesL a ++ namesL c
  | .agg l => namesL l
  | .tuple l => namesL l
  | _ => []
  where namesL : List SV → List Nat
  | [] => []
  | v :: l => namesV v ++ namesL l
def namesO (o : SO) : List Nat := match o with
  | .row _ cells _ => namesV (.agg cells)
  | .map es _ => es.flatMap fun e => namesV e.1 ++ namesV e.2.1
  | .loop _ _ ts _ _ _ => namesV (.agg ts)
  | _ => []
def addN (l : List Nat) (x : Nat) : List Nat := match idx l x with | some _ => l | none => l ++ [x]
def addAll (l : List Nat) : List Nat → List Nat
  | [] => l
  | x :: m => addAll (addN l x) m
/-- all names that are reached, in turn -/
def reach (sh : SH) : Nat → Nat → List Nat → List Nat
  | 0, _, l => l
  | f + 1, i, l => match l[i]? with
    | none => l
    | some x => reach sh f (Nat.succ i) (match sh.get x with | some o => addAll l (namesO o) | none => l)
def reachV (sh : SH) (vs : List SV) : List Nat := reach sh 64 0 (addAll [] (namesV (.agg vs)))
/-- names back: the first ones by the list, the others new -/
def back (th : List Nat) (k : Nat) (j : Nat) : Option Nat := match th[j]? with | some x => some x | none => some (k + (j - llen th))
def backO (g : Nat → Option Nat) : List (Nat × SO) → Option (List (Nat × SO))
  | [] => some []
  | p :: l => match g p.1, p.2.renO g, backO g l with | some x, some o, some r => some ((x, o) :: r) | _, _, _ => none
/-- without the names of a list -/
def dropN (th : List Nat) : List (Nat × SO) → List (Nat × SO)
  | [] => []
  | p :: l => match idx th p.1 with | some _ => dropN th l | none => p :: dropN th l
def backR (th : List Nat) (sh : SH) (r : SV × SH) : Option (SV × SH) :=
  match r.1.renO (back th sh.nm), backO (back th sh.nm) r.2.objs with
  | some v, some l => some (v, ⟨l ++ dropN th sh.objs, sh.nm + (r.2.nm - llen th)⟩)
  | _, _ => none
def lall2 (f : Nat → Bool) : List Nat → Bool
  | [] => true
  | x :: l => f x && lall2 f l
/-- a contract over what is reached alone, in any memory -/
def lift (s0 : Spec) : Spec := fun args sh =>
  match renOL (idx (reachV sh args)) args, pullH (reachV sh args) sh, noDup (reachV sh args) && lall2 (fun x => Nat.blt x sh.nm) (reachV sh args) with
  | some args0, some sh0, true => (s0 args0 sh0).bind fun r => ofOpt (backR (reachV sh args) sh r)
  | _, _, _ => .fail
theorem oget_append : ∀ (l m : List (Nat × SO)) (x : Nat), oget (l ++ m) x = match oget l x with | some o => some o | none => oget m x
  | [], m, x => rfl
  | p :: l, m, x => by
    show (match Nat.beq p.1 x with | true => some p.2 | false => oget (l ++ m) x) = _
    rw [oget_append l m x]
    show _ = match (match Nat.beq p.1 x with | true => some p.2 | false => oget l x) with | some o => some o | none => oget m x
    cases Nat.beq p.1 x <;> rfl
theorem oget_dropN (th : List Nat) : ∀ (l : List (Nat × SO)) (x : Nat), oget (dropN th l) x = match idx th x with | some _ => none | none => oget l x
  | [], x => by unfold dropN; cases idx th x <;> rfl
  | p :: l, x => by
    unfold dropN
    have ih := oget_dropN th l x
    split
    · rename_i i hi
      rw [ih]
      show _ = match idx th x with | some _ => none | none => (match Nat.beq p.1 x with | true => some p.2 | false => oget l x)
      cases hb : Nat.beq p.1 x with
      | true => rw [← beq_iff.1 hb, hi]
      | false => rfl
    · rename_i hi
      show (match Nat.beq p.1 x with | true => some p.2 | false => oget (dropN th l) x) = match idx th x with | some _ => none | none => (match Nat.beq p.1 x with | true => some p.2 | false => oget l x)
      rw [ih]
      cases hb : Nat.beq p.1 x with
      | true => rw [← beq_iff.1 hb, hi]
      | false => rfl
theorem backO_get : ∀ {l r : List (Nat × SO)}, backO g l = some r → ∀ x o, oget r x = some o → ∃ j o0, g j = some x ∧ oget l j = some o0 ∧ o0.renO g = some o
  | [], r, h, x, o, ho => by cases h; cases ho
  | p :: l, r, h, x, o, ho => by
    unfold backO at h
    split at h
    · rename_i y o1 r1 h1 h2 h3
      cases h
      have ho' : (match Nat.beq y x with | true => some o1 | false => oget r1 x) = some o := ho
      split at ho'
      · rename_i hb
        cases ho'
        refine ⟨p.1, p.2, by rw [h1, beq_iff.1 hb], ?_, h2⟩
        show (match Nat.beq p.1 p.1 with | true => some p.2 | false => oget l p.1) = _
        rw [Nat.beq_refl]
      · rename_i hb
        obtain ⟨j, o0, e1, e2, e3⟩ := backO_get h3 x o ho'
        refine ⟨j, o0, e1, ?_, e3⟩
        show (match Nat.beq p.1 j with | true => some p.2 | false => oget l j) = _
        cases hb2 : Nat.beq p.1 j with
        | true =>
          rw [beq_iff.1 hb2, e1] at h1
          cases h1
          rw [Nat.beq_refl] at hb; cases hb
        | false => exact e2
    · cases h
theorem lall2_mem {f : Nat → Bool} : ∀ {l : List Nat}, lall2 f l = true → ∀ x ∈ l, f x = true
  | [], _, x, hx => by cases hx
  | y :: l, h, x, hx => by
    have h' : (f y && lall2 f l) = true := h
    rw [Bool.and_eq_true] at h'
    rcases List.mem_cons.1 hx with rfl | hx
    · exact h'.1
    · exact lall2_mem h'.2 x hx
theorem back_post {th : List Nat} {sh0 sh0' sh1 : SH} {v0 v1 : SV} {r : VR} (s : St κ sh h) (hd : noDup th = true) (hb : lall2 (fun x => Nat.blt x sh.nm) th = true) (hp : pullH th sh = some sh0) (hr : backR th sh (v0, sh0') = some (v1, sh1)) (hpost : Post (byList κ th) sh0 h v0 sh0' r) : Post κ sh h v1 sh1 r := by
  obtain ⟨κ0, dv, st0, fr⟩ := hpost
  have hn0 := pullH_nm hp
  have hnm0 := fr.nm
  unfold backR at hr
  split at hr
  · rename_i w l hw hl
    cases hr
    let κ' : Kp := fun y => if y < sh.nm then κ y else κ0 (th.length + (y - sh.nm))
    have klow : ∀ y, y < sh.nm → κ' y = κ y := fun y hy => if_pos hy
    have khigh : ∀ y, sh.nm ≤ y → κ' y = κ0 (th.length + (y - sh.nm)) := fun y hy => if_neg (by omega)
    have hg : ∀ j x, back th sh.nm j = some x → κ' x = κ0 j := fun j x hx => by
      unfold back at hx
      split at hx
      · rename_i y hy
        cases hx
        have hlt : x < sh.nm := blt_iff.1 (lall2_mem hb x (List.mem_of_getElem? hy))
        rw [klow x hlt]
        have hj : j < th.length := (List.getElem?_eq_some_iff.1 hy).1
        rw [fr.old j (by omega)]
        unfold byList; rw [hy]
      · rename_i hy
        cases hx
        have hj : th.length ≤ j := by simpa using hy
        rw [llen_eq, khigh _ (by omega)]
        congr 1; omega
    have hlen : llen th = th.length := llen_eq th
    refine ⟨κ', renO_den hg hw dv, ⟨fun x o ho => ?_, fun x y p hx hy => ?_, fun x hx => ?_, fun x p hx => ?_, fun x o ho => ?_⟩, ⟨fun x p hx => ?_, ?_, fr.next, fun p hp' hk => ?_, klow, fun x o ho hx => ?_, fun x p hx hq => ?_⟩⟩
    · have ho' : oget (l ++ dropN th sh.objs) x = some o := ho
      rw [oget_append] at ho'
      split at ho'
      · rename_i o1 h1
        cases ho'
        obtain ⟨j, o0, e1, e2, e3⟩ := backO_get hl x o h1
        obtain ⟨p, ao, f1, f2, f3⟩ := st0.rel j o0 e2
        exact ⟨p, ao, by rw [hg j x e1]; exact f1, f2, SO.renO_rel hg e3 f3⟩
      · rw [oget_dropN] at ho'
        split at ho'
        · cases ho'
        · rename_i hi
          obtain ⟨p, ao, f1, f2, f3⟩ := s.rel x o ho'
          have hlt := s.bnd x o ho'
          refine ⟨p, ao, by rw [klow x hlt]; exact f1, ?_, ?_⟩
          · rw [fr.kept p (s.low x p f1) (fun j o0 h0 he => ?_)]
            · exact f2
            · obtain ⟨y, oy, e1, e2⟩ := pullH_sub hp h0
              unfold byList at he
              rw [e1] at he
              have := s.inj y x p he f1
              subst this
              exact idx_none hi (List.mem_of_getElem? e1)
          · have hle : κ.le κ' := fun y q hy => by
              have : y < sh.nm := by
                apply Classical.byContradiction
                intro hn; rw [s.fresh y (by omega)] at hy; cases hy
              rw [klow y this]; exact hy
            exact f3.mono hle
    · by_cases h1 : x < sh.nm <;> by_cases h2 : y < sh.nm
      · rw [klow x h1] at hx; rw [klow y h2] at hy; exact s.inj x y p hx hy
      · rw [klow x h1] at hx; rw [khigh y (by omega)] at hy
        have a := s.low x p hx
        have b := fr.new _ p (by omega) hy
        omega
      · rw [khigh x (by omega)] at hx; rw [klow y h2] at hy
        have a := s.low y p hy
        have b := fr.new _ p (by omega) hx
        omega
      · rw [khigh x (by omega)] at hx; rw [khigh y (by omega)] at hy
        have := st0.inj _ _ p hx hy
        omega
    · have hx' : sh.nm + (sh0'.nm - llen th) ≤ x := hx
      rw [khigh x (by omega)]
      exact st0.fresh _ (by omega)
    · by_cases h1 : x < sh.nm
      · rw [klow x h1] at hx
        have := s.low x p hx
        have := fr.next
        omega
      · rw [khigh x (by omega)] at hx; exact st0.low _ p hx
    · show x < sh.nm + (sh0'.nm - llen th)
      have ho' : oget (l ++ dropN th sh.objs) x = some o := ho
      rw [oget_append] at ho'
      split at ho'
      · rename_i o1 h1
        obtain ⟨j, o0, e1, e2, e3⟩ := backO_get hl x o1 h1
        have hj := st0.bnd j o0 e2
        unfold back at e1
        split at e1
        · rename_i y hy
          cases e1
          have := blt_iff.1 (lall2_mem hb x (List.mem_of_getElem? hy))
          omega
        · rename_i hy
          cases e1
          have hj : th.length ≤ j := by simpa using hy
          omega
      · rw [oget_dropN] at ho'
        split at ho'
        · cases ho'
        · have := s.bnd x o ho'; omega
    · have hlt : x < sh.nm := by
        apply Classical.byContradiction
        intro hn; rw [s.fresh x (by omega)] at hx; cases hx
      rw [klow x hlt]; exact hx
    · show sh.nm ≤ sh.nm + _; omega
    · refine fr.kept p hp' fun j o0 h0 he => ?_
      obtain ⟨y, oy, e1, e2⟩ := pullH_sub hp h0
      unfold byList at he
      rw [e1] at he
      exact hk y oy e2 he
    · have ho' : oget (l ++ dropN th sh.objs) x = some o := ho
      rw [oget_append] at ho'
      split at ho'
      · rename_i o1 h1
        obtain ⟨j, o0, e1, e2, e3⟩ := backO_get hl x o1 h1
        unfold back at e1
        split at e1
        · rename_i y hy
          cases e1
          have hj : j < th.length := (List.getElem?_eq_some_iff.1 hy).1
          obtain ⟨o2, h2⟩ := fr.sub j o0 e2 (by omega)
          obtain ⟨y, oy, e4, e5⟩ := pullH_sub hp h2
          rw [hy] at e4; cases e4
          exact ⟨oy, e5⟩
        · cases e1; omega
      · rw [oget_dropN] at ho'
        split at ho'
        · cases ho'
        · exact ⟨o, ho'⟩
    · rw [khigh x hx] at hq
      exact fr.new _ p (by omega) hq
  · cases hr
variable {P : Program} {f : FuncId} {d : Nat}
theorem lift_ok {s0 : Spec} (hs : SpecOk P f d s0) : SpecOk P f d (lift s0) := by
  intro n hn args sh v sh' hv κ h as st ha
  unfold lift at hv
  split at hv
  · rename_i args0 sh0 h1 h2 h3
    rw [Bool.and_eq_true] at h3
    obtain ⟨r, h4, h5⟩ := bind_some hv
    have h5 := ofOpt_some h5
    have st0 := pullH_st h2 h3.1 st
    have ha0 := renOL_den (κ1 := byList κ (reachV sh args)) (fun y z hz => byList_idx hz) h1 ha
    obtain ⟨g1, g2⟩ := hs n hn args0 sh0 r.1 r.2 h4 _ h as st0 ha0
    exact ⟨g1, fun x hx => back_post st h3.1 h3.2 h2 h5 (g2 x hx)⟩
  · cases hv
/-! ### A contract out of a body -/
mutual
def SV.opened : SV → SV
  | .b _ x => .b true x
  | .i _ k n => .i true k n
  | .s _ l => .s true l
  | .agg l => .agg (openL l)
  | .tuple l => .tuple (openL l)
  | v => v
def openL : List SV → List SV
  | [] => []
  | v :: l => v.opened :: openL l
end
mutual
theorem opened_den : ∀ v : SV, sden κ v.opened = sden κ v
  | .b .. | .i .. | .s .. | .nil .. | .ptr .. | .sl .. | .map .. | .func .. | .yield .. | .tsl .. | .etl .. | .eptr .. | .o .. => rfl
  | .agg l => by simp only [SV.opened, sden, openL_den l]
  | .tuple l => by simp only [SV.opened, sden, openL_den l]
theorem openL_den : ∀ l : List SV, sdenL κ (openL l) = sdenL κ l
  | [] => rfl
  | v :: l => by simp only [openL, sdenL, opened_den v, openL_den l]
end
def SO.opened (o : SO) : SO := match o with | .row ty cells opn => .row ty (openL cells) opn | .loop f ix ts ps a c => .loop f ix (openL ts) ps a c | o => o
def openO : List (Nat × SO) → List (Nat × SO)
  | [] => []
  | p :: l => (p.1, p.2.opened) :: openO l
def SH.opened (sh : SH) : SH := ⟨openO sh.objs, sh.nm⟩
theorem oget_open : ∀ (l : List (Nat × SO)) (x : Nat), oget (openO l) x = (oget l x).map SO.opened
  | [], x => rfl
  | p :: l, x => by
    show (match Nat.beq p.1 x with | true => some p.2.opened | false => oget (openO l) x) = Option.map SO.opened (match Nat.beq p.1 x with | true => some p.2 | false => oget l x)
    rw [oget_open l x]
    cases Nat.beq p.1 x <;> rfl
theorem opened_rel {o : SO} {ao : AObj} : ORel κ o.opened ao ↔ ORel κ o ao := by
  cases o with
  | row ty cells opn => show (∃ cs, sdenL κ (openL cells) = some cs ∧ _) ↔ _; rw [openL_den]; rfl
  | loop f ix ts ps a c => show (∃ tm d as, ao = AObj.loop .ready none f tm ps a c d ∧ getTm tm ix = some as ∧ sdenL κ (openL ts) = some as) ↔ _; rw [openL_den]; rfl
  | _ => exact Iff.rfl
theorem opened_st (s : St κ sh h) : St κ sh.opened h := by
  have hget : ∀ x o, sh.opened.get x = some o → ∃ o0, sh.get x = some o0 ∧ o = o0.opened := fun x o ho => by
    have h' : oget (openO sh.objs) x = some o := ho
    rw [oget_open] at h'
    cases hx : oget sh.objs x with
    | none => rw [hx] at h'; cases h'
    | some o0 => rw [hx] at h'; cases h'; exact ⟨o0, hx, rfl⟩
  refine ⟨fun x o ho => ?_, s.inj, s.fresh, s.low, fun x o ho => ?_⟩
  · obtain ⟨o0, h1, rfl⟩ := hget x o ho
    obtain ⟨p, ao, f1, f2, f3⟩ := s.rel x o0 h1
    exact ⟨p, ao, f1, f2, opened_rel.2 f3⟩
  · obtain ⟨o0, h1, _⟩ := hget x o ho
    exact s.bnd x o0 h1
theorem opened_get {x : Nat} {o : SO} (ho : sh.opened.get x = some o) : ∃ o0, sh.get x = some o0 := by
  have h' : oget (openO sh.objs) x = some o := ho
  rw [oget_open] at h'
  cases hx : oget sh.objs x with
  | none => rw [hx] at h'; cases h'
  | some o0 => exact ⟨o0, hx⟩
theorem get_opened {x : Nat} {o : SO} (ho : sh.get x = some o) : ∃ o0, sh.opened.get x = some o0 := by
  refine ⟨o.opened, ?_⟩
  show oget (openO sh.objs) x = _
  rw [oget_open, show oget sh.objs x = some o from ho]; rfl
theorem opened_fr {κ' : Kp} {sh' : SH} (f : Fr κ sh.opened h κ' sh' h') : Fr κ sh h κ' sh' h' :=
  ⟨f.le, f.nm, f.next, fun p hp hk => f.kept p hp fun x o ho he => by
    obtain ⟨o0, h0⟩ := opened_get ho
    exact hk x o0 h0 he, f.old, fun x o ho hx => by
    obtain ⟨o0, h0⟩ := f.sub x o ho hx
    exact opened_get h0, f.new⟩
theorem opened_good {v : SV} {sh' : SH} {rs : List VR} (hg : Good κ sh.opened h v sh' rs) : Good κ sh h v sh' rs :=
  ⟨hg.1, fun r hr => by obtain ⟨κ', a, b, c⟩ := hg.2 r hr; exact ⟨κ', a, b, opened_fr c⟩⟩
theorem st_opened : St κ sh.opened h → St κ sh h := fun s => by
  refine ⟨fun x o ho => ?_, s.inj, s.fresh, s.low, fun x o ho => ?_⟩
  · have h1 : sh.opened.get x = some o.opened := by
      show oget (openO sh.objs) x = _
      rw [oget_open, show oget sh.objs x = some o from ho]; rfl
    obtain ⟨p, ao, f1, f2, f3⟩ := s.rel x _ h1
    exact ⟨p, ao, f1, f2, opened_rel.1 f3⟩
  · obtain ⟨o0, h1⟩ := get_opened ho
    exact s.bnd x o0 h1
/-- the same, whatever is marked as open -/
def Opn (a b : SV × SH) : Prop := a.1.opened = b.1.opened ∧ a.2.opened = b.2.opened
theorem nm_opened {sh1 sh2 : SH} (e : sh1.opened = sh2.opened) : sh1.nm = sh2.nm := by
  show sh1.opened.nm = sh2.opened.nm
  rw [e]
theorem post_opn {v w : SV} {sw : SH} {r : VR} (e : Opn (v, sh') (w, sw)) (hp : Post κ sh h v sh' r) : Post κ sh h w sw r := by
  obtain ⟨κ', a, b, c⟩ := hp
  obtain ⟨e1, e2⟩ := e
  refine ⟨κ', ?_, st_opened ((show sh'.opened = sw.opened from e2) ▸ opened_st b), ⟨c.le, by rw [← nm_opened (show sh'.opened = sw.opened from e2)]; exact c.nm, c.next, c.kept, c.old, fun x o ho hx => ?_, c.new⟩⟩
  · rw [← opened_den w, ← (show v.opened = w.opened from e1), opened_den]; exact a
  · obtain ⟨o1, h1⟩ := get_opened ho
    rw [← (show sh'.opened = sw.opened from e2)] at h1
    obtain ⟨o2, h2⟩ := opened_get h1
    exact c.sub x o2 h2 hx
/-- the same, but less is known of the memory -/
def Wk (a b : SV × SH) : Prop := a.1.opened = b.1.opened ∧ a.2.nm ≤ b.2.nm ∧ ∀ x o, b.2.opened.get x = some o → a.2.opened.get x = some o
theorem Opn.wk {a b : SV × SH} (h : Opn a b) : Wk a b := ⟨h.1, Nat.le_of_eq (nm_opened h.2), fun x o ho => by rw [h.2]; exact ho⟩
theorem post_wk {v w : SV} {sw : SH} {r : VR} (e : Wk (v, sh') (w, sw)) (hp : Post κ sh h v sh' r) : Post κ sh h w sw r := by
  obtain ⟨κ', a, b, c⟩ := hp
  obtain ⟨e1, e2, e3⟩ := e
  have e2 : sh'.nm ≤ sw.nm := e2
  have bo := opened_st b
  refine ⟨κ', ?_, st_opened ⟨fun x o ho => bo.rel x o (e3 x o ho), b.inj, fun x hx => b.fresh x (Nat.le_trans e2 hx), b.low, fun x o ho => Nat.lt_of_lt_of_le (bo.bnd x o (e3 x o ho)) e2⟩, ⟨c.le, Nat.le_trans c.nm e2, c.next, c.kept, c.old, fun x o ho hx => ?_, c.new⟩⟩
  · rw [← opened_den w, ← (show v.opened = w.opened from e1), opened_den]; exact a
  · obtain ⟨o1, h1⟩ := get_opened ho
    obtain ⟨o2, h2⟩ := opened_get (e3 x o1 h1)
    exact c.sub x o2 h2 hx
theorem good_opn {v w : SV} {sw : SH} {rs : List VR} (e : Opn (v, sh') (w, sw)) (hg : Good κ sh h v sh' rs) : Good κ sh h w sw rs := ⟨hg.1, fun r hr => post_opn e (hg.2 r hr)⟩
/-- a contract out of the body: what the body tells, by other names -/
theorem spec0_ok {C : Cfg} (hC : CfgOk P C) {s0 : Spec} (hs : ∀ n args sh r, d ≤ n → (s0 args sh).val = some r → ∃ r0 th r1, (seFn P (C.lp n) (se P C n) f (openL args) sh.opened).val = some r0 ∧ pull th r0 = some r1 ∧ (noDup th && stays sh.nm th 0) = true ∧ Opn r1 r) : SpecOk P f (d + 1) s0 := by
  intro n hn args sh v sh' hv κ h as st ha
  cases n with
  | zero => omega
  | succ n =>
    obtain ⟨⟨v0, sh0⟩, th, ⟨v1, sh1⟩, h1, h2, h3, h4⟩ := hs n args sh (v, sh') (by omega) hv
    rw [Bool.and_eq_true] at h3
    have hg := seFn_ok (f := f) (se_ok hC n) (fun fn c hf hb => lp_ok hC hf hb) h1 (opened_st st) (by rw [openL_den]; exact ha)
    rw [run_call]
    exact good_opn h4 (opened_good (good_pull (opened_st st) h2 h3.1 h3.2 hg))
end
end
end Go.Proofs.YtgemonlknehegaaGreatDoor.AI
