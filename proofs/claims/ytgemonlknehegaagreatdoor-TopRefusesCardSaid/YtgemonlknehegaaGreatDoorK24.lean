/- The chain of TopRefuses, part 24. -/
import Derived.Test.YtgemonlknehegaaGreatDoorK23
import Derived.Test.YtgemonlknehegaaGreatDoorK03
namespace Go.Proofs.YtgemonlknehegaaGreatDoor.AI
open Go
set_option linter.unusedVariables false
set_option linter.unusedSimpArgs false
/-! ### Trees -/
section
variable {α β : Type}
theorem val_leaf (a : α) : (DT.leaf a).val = some a := rfl
theorem val_fail : (DT.fail : DT α).val = none := rfl
theorem val_node (c : Bool) (x y : DT α) : (DT.node c x y).val = bif c then x.val else y.val := rfl
theorem val_bind (d : DT α) (k : α → DT β) : (d.bind k).val = d.val.bind fun a => (k a).val := by
  induction d with
  | leaf a => rfl
  | node c x y ihx ihy => show (bif c then (x.bind k).val else (y.bind k).val) = _; rw [ihx, ihy, val_node]; cases c <;> rfl
  | fail => rfl
theorem bind_some {d : DT α} {k : α → DT β} {b : β} (h : (d.bind k).val = some b) : ∃ a, d.val = some a ∧ (k a).val = some b := by
  rw [val_bind] at h
  cases hd : d.val with
  | none => rw [hd] at h; cases h
  | some a => rw [hd] at h; exact ⟨a, rfl, h⟩
theorem need_some {c : Bool} {d : DT α} {a : α} (h : (DT.need c d).val = some a) : c = true ∧ d.val = some a := by
  cases c with
  | true => exact ⟨rfl, h⟩
  | false => cases h
theorem leaf_some {a b : α} (h : (DT.leaf a).val = some b) : a = b := by cases h; rfl
theorem node_some {c : Bool} {x y : DT α} {a : α} (h : (DT.node c x y).val = some a) : (c = true ∧ x.val = some a) ∨ (c = false ∧ y.val = some a) := by
  cases c with
  | true => exact .inl ⟨rfl, h⟩
  | false => exact .inr ⟨rfl, h⟩
theorem nodeNE_some {ne c : Bool} {x y : DT α} {a : α} (hn : ne = true → c = false) (h : (nodeNE ne c x y).val = some a) : (c = true ∧ x.val = some a) ∨ (c = false ∧ y.val = some a) := by
  cases ne with
  | true => exact .inr ⟨hn rfl, h⟩
  | false => exact node_some h
theorem ofOpt_some {o : Option α} {a : α} (h : (ofOpt o).val = some a) : o = some a := by
  cases o with
  | none => cases h
  | some b => cases h; rfl
theorem val_map (f : α → β) (d : DT α) : (d.map f).val = d.val.map f := by
  unfold DT.map; rw [val_bind]; cases d.val <;> rfl
end
/-! ### Values -/
abbrev Kp := Nat → Option Pos
mutual
def sden (κ : Kp) : SV → Option AV
  | .b _ x => some (.bool x)
  | .i _ k n => some (.int k n)
  | .s _ l => some (.str l)
  | .nil k => some (.nil k)
  | .ptr x off => match κ x with | some p => some (.ptr p off) | none => none
  | .sl x off len cap => match κ x with | some p => some (.slice p off len cap) | none => none
  | .map x => match κ x with | some p => some (.map p) | none => none
  | .func f a c => match sdenL κ a, sdenL κ c with | some a, some c => some (.func f a c) | _, _ => none
  | .yield x => match κ x with | some p => some (.yield p) | none => none
  | .agg l => match sdenL κ l with | some l => some (.agg l) | none => none
  | .tuple l => match sdenL κ l with | some l => some (.tuple l) | none => none
  | .tsl x sz lo len => match κ x with | some p => some (.slice p (lo * sz) len (.opn lo)) | none => none
  | .etl x off skip l sz => match κ x with | some p => some (.etail p off skip l sz) | none => none
  | .eptr x sz i fo => match κ x with | some p => some (.ptr p (i * sz + fo)) | none => none
  | .o a => some a
def sdenL (κ : Kp) : List SV → Option (List AV)
  | [] => some []
  | v :: l => match sden κ v, sdenL κ l with | some a, some r => some (a :: r) | _, _ => none
end
def Kp.le (κ κ' : Kp) : Prop := ∀ x p, κ x = some p → κ' x = some p
theorem Kp.le_refl (κ : Kp) : κ.le κ := fun _ _ h => h
theorem Kp.le_trans {a b c : Kp} (h : a.le b) (h' : b.le c) : a.le c := fun x p e => h' x p (h x p e)
section
variable {κ κ' : Kp}
theorem sdenL_cons {v : SV} {l : List SV} {r : List AV} : sdenL κ (v :: l) = some r ↔ ∃ a s, sden κ v = some a ∧ sdenL κ l = some s ∧ r = a :: s := by
  cases h1 : sden κ v <;> cases h2 : sdenL κ l <;> simp [sdenL, h1, h2, eq_comm]
theorem sdenL_nil {r : List AV} : sdenL κ [] = some r ↔ r = [] := by simp [sdenL, eq_comm]
mutual
theorem sden_mono (hl : κ.le κ') : ∀ {v : SV} {a : AV}, sden κ v = some a → sden κ' v = some a
  | .b .., _, h | .i .., _, h | .s .., _, h | .nil .., _, h | .o .., _, h => by simpa [sden] using h
  | .ptr x _, _, h | .sl x _ _ _, _, h | .map x, _, h | .yield x, _, h | .tsl x _ _ _, _, h | .etl x _ _ _ _, _, h | .eptr x _ _ _, _, h => by
    cases hx : κ x with
    | none => simp [sden, hx] at h
    | some p => simpa [sden, hx, hl x p hx] using h
  | .func f a c, _, h => by
    cases ha : sdenL κ a with
    | none => simp [sden, ha] at h
    | some a' => cases hc : sdenL κ c with
      | none => simp [sden, ha, hc] at h
      | some c' => simpa [sden, ha, hc, sdenL_mono hl ha, sdenL_mono hl hc] using h
  | .agg l, _, h => by
    cases ha : sdenL κ l with
    | none => simp [sden, ha] at h
    | some a' => simpa [sden, ha, sdenL_mono hl ha] using h
  | .tuple l, _, h => by
    cases ha : sdenL κ l with
    | none => simp [sden, ha] at h
    | some a' => simpa [sden, ha, sdenL_mono hl ha] using h
theorem sdenL_mono (hl : κ.le κ') : ∀ {l : List SV} {r : List AV}, sdenL κ l = some r → sdenL κ' l = some r
  | [], _, h => by simpa [sdenL] using h
  | v :: l, _, h => by
    obtain ⟨a, s, h1, h2, rfl⟩ := sdenL_cons.1 h
    exact sdenL_cons.2 ⟨a, s, sden_mono hl h1, sdenL_mono hl h2, rfl⟩
end
theorem sdenL_length : ∀ {l : List SV} {r : List AV}, sdenL κ l = some r → r.length = l.length
  | [], _, h => by rw [sdenL_nil.1 h]; rfl
  | v :: l, _, h => by obtain ⟨a, s, _, h2, rfl⟩ := sdenL_cons.1 h; simp [sdenL_length h2]
theorem sdenL_get : ∀ {l : List SV} {r : List AV}, sdenL κ l = some r → ∀ {k : Nat} {v : SV}, l[k]? = some v → ∃ a, sden κ v = some a ∧ r[k]? = some a
  | [], _, h, k, v, hk => by simp at hk
  | w :: l, _, h, k, v, hk => by
    obtain ⟨a, s, h1, h2, rfl⟩ := sdenL_cons.1 h
    cases k with
    | zero => simp at hk; subst hk; exact ⟨a, h1, rfl⟩
    | succ k => exact sdenL_get h2 (by simpa using hk)
theorem sdenL_append : ∀ {l m : List SV} {r s : List AV}, sdenL κ l = some r → sdenL κ m = some s → sdenL κ (l ++ m) = some (r ++ s)
  | [], m, _, s, h, h' => by rw [sdenL_nil.1 h]; exact h'
  | v :: l, m, _, s, h, h' => by
    obtain ⟨a, t, h1, h2, rfl⟩ := sdenL_cons.1 h
    exact sdenL_cons.2 ⟨a, t ++ s, h1, sdenL_append h2 h', rfl⟩
theorem sdenL_take : ∀ {l : List SV} {r : List AV} (n : Nat), sdenL κ l = some r → sdenL κ (l.take n) = some (r.take n)
  | [], _, n, h => by rw [sdenL_nil.1 h]; simp [sdenL]
  | v :: l, _, n, h => by
    obtain ⟨a, s, h1, h2, rfl⟩ := sdenL_cons.1 h
    cases n with
    | zero => simp [sdenL]
    | succ n => exact sdenL_cons.2 ⟨a, _, h1, sdenL_take n h2, rfl⟩
theorem sdenL_drop : ∀ {l : List SV} {r : List AV} (n : Nat), sdenL κ l = some r → sdenL κ (l.drop n) = some (r.drop n)
  | [], _, n, h => by rw [sdenL_nil.1 h]; simp [sdenL]
  | v :: l, _, n, h => by
    obtain ⟨a, s, h1, h2, rfl⟩ := sdenL_cons.1 h
    cases n with
    | zero => exact h
    | succ n => exact sdenL_drop n h2
theorem sden_ofAV1 (a : AV) : sden κ (ofAV1 a) = some a := by
  cases a <;> try rfl
  rename_i f a c
  cases a <;> cases c <;> rfl
theorem sdenL_ofAV1 : ∀ l : List AV, sdenL κ (l.map ofAV1) = some l
  | [] => rfl
  | a :: l => sdenL_cons.2 ⟨a, l, sden_ofAV1 a, sdenL_ofAV1 l, rfl⟩
theorem sden_ofAV (a : AV) : sden κ (ofAV a) = some a := by
  cases a with
  | agg l => show sden κ (.agg (l.map ofAV1)) = _; simp [sden, sdenL_ofAV1]
  | tuple l => cases l <;> rfl
  | bool b => exact sden_ofAV1 (.bool b)
  | int k n => exact sden_ofAV1 (.int k n)
  | str l => exact sden_ofAV1 (.str l)
  | nil k => exact sden_ofAV1 (.nil k)
  | func f u w => exact sden_ofAV1 (.func f u w)
  | bad => rfl
  | ptr b o => rfl
  | slice b o l c => rfl
  | etail b o k l z => rfl
  | map b => rfl
  | yield b => rfl
theorem cl1_den {v : SV} {a : AV} (h : cl1 v = some a) : sden κ v = some a := by
  cases v <;> try (cases h; done)
  · rename_i o x; cases o <;> cases h; rfl
  · rename_i o k n; cases o <;> cases h; rfl
  · rename_i o l; cases o <;> cases h; rfl
  · cases h; rfl
theorem sden_b {o x : Bool} {a : AV} (h : sden κ (.b o x) = some a) : a = .bool x := by simpa [sden, eq_comm] using h
theorem sden_i {o : Bool} {k : IntKind} {n : Int} {a : AV} (h : sden κ (.i o k n) = some a) : a = .int k n := by simpa [sden, eq_comm] using h
theorem sden_s {o : Bool} {l : List UInt8} {a : AV} (h : sden κ (.s o l) = some a) : a = .str l := by simpa [sden, eq_comm] using h
theorem sden_nil {k : NK} {a : AV} (h : sden κ (.nil k) = some a) : a = .nil k := by simpa [sden, eq_comm] using h
theorem sden_ptr {x off : Nat} {a : AV} (h : sden κ (.ptr x off) = some a) : ∃ p, κ x = some p ∧ a = .ptr p off := by
  cases hx : κ x <;> simp [sden, hx] at h; exact ⟨_, rfl, h.symm⟩
theorem sden_sl {x off len : Nat} {c : ACap} {a : AV} (h : sden κ (.sl x off len c) = some a) : ∃ p, κ x = some p ∧ a = .slice p off len c := by
  cases hx : κ x <;> simp [sden, hx] at h; exact ⟨_, rfl, h.symm⟩
theorem sden_map {x : Nat} {a : AV} (h : sden κ (.map x) = some a) : ∃ p, κ x = some p ∧ a = .map p := by
  cases hx : κ x <;> simp [sden, hx] at h; exact ⟨_, rfl, h.symm⟩
theorem sden_tsl {x sz lo len : Nat} {a : AV} (h : sden κ (.tsl x sz lo len) = some a) : ∃ p, κ x = some p ∧ a = .slice p (lo * sz) len (.opn lo) := by
  cases hx : κ x <;> simp [sden, hx] at h; exact ⟨_, rfl, h.symm⟩
theorem sden_etl {x off skip l sz : Nat} {a : AV} (h : sden κ (.etl x off skip l sz) = some a) : ∃ p, κ x = some p ∧ a = .etail p off skip l sz := by
  cases hx : κ x <;> simp [sden, hx] at h; exact ⟨_, rfl, h.symm⟩
theorem sden_eptr {x sz i fo : Nat} {a : AV} (h : sden κ (.eptr x sz i fo) = some a) : ∃ p, κ x = some p ∧ a = .ptr p (i * sz + fo) := by
  cases hx : κ x <;> simp [sden, hx] at h; exact ⟨_, rfl, h.symm⟩
theorem sden_agg {l : List SV} {a : AV} (h : sden κ (.agg l) = some a) : ∃ r, sdenL κ l = some r ∧ a = .agg r := by
  cases hx : sdenL κ l <;> simp [sden, hx] at h; exact ⟨_, rfl, h.symm⟩
theorem sden_tuple {l : List SV} {a : AV} (h : sden κ (.tuple l) = some a) : ∃ r, sdenL κ l = some r ∧ a = .tuple r := by
  cases hx : sdenL κ l <;> simp [sden, hx] at h; exact ⟨_, rfl, h.symm⟩
theorem sden_func {f : FuncId} {u w : List SV} {a : AV} (h : sden κ (.func f u w) = some a) : ∃ r s, sdenL κ u = some r ∧ sdenL κ w = some s ∧ a = .func f r s := by
  cases hu : sdenL κ u <;> cases hw : sdenL κ w <;> simp [sden, hu, hw] at h; exact ⟨_, _, rfl, rfl, h.symm⟩
theorem sden_yield {x : Nat} {a : AV} (h : sden κ (.yield x) = some a) : ∃ p, κ x = some p ∧ a = .yield p := by
  cases hx : κ x <;> simp [sden, hx] at h; exact ⟨_, rfl, h.symm⟩

/-! ### Numbers -/
theorem aAdd_int (k : IntKind) (a b : Int) : aAdd (.int k a) (.int k b) = some (.int k (k.wrap (a + b))) := by
  show whenS (ikeq k k) (nat2 a b (some (.int k (k.wrap (a + b)))) fun a b => some (mkNat k (Nat.add a b))) = _
  rw [ikeq_iff.2 rfl]
  cases a <;> cases b <;> try rfl
  show some (mkNat k _) = _
  rw [mkNat_eq]; rfl
theorem int2_int {β : Type} (k : IntKind) (a b : Int) (d : β) (f : IntKind → Int → Int → β) : int2 (.int k a) (.int k b) d f = f k a b := by
  show pick (ikeq k k) (f k a b) d = _
  rw [ikeq_iff.2 rfl]; rfl
theorem aSub_int (k : IntKind) (a b : Int) : aSub (.int k a) (.int k b) = some (.int k (k.wrap (a - b))) := by
  unfold aSub; rw [int2_int]
  cases a <;> cases b <;> try rfl
  rename_i m n
  show pick (Nat.ble n m) (some (mkNat k (Nat.sub m n))) (some (.int k (k.wrap (Int.ofNat m - Int.ofNat n)))) = _
  cases hb : Nat.ble n m with
  | false => rfl
  | true =>
    show some (mkNat k _) = _
    rw [mkNat_eq]
    have := ble_iff.1 hb
    have e : Int.ofNat (Nat.sub m n) = Int.ofNat m - Int.ofNat n := by show ((m - n : Nat) : Int) = (m : Int) - n; omega
    rw [e]
theorem nn_nat {a : Int} (h : nn a = true) : a = Int.ofNat a.toNat := by
  have : 0 ≤ a := by simpa [nn] using h
  exact (Int.toNat_of_nonneg this).symm
theorem inB_nat {k : IntKind} {a : Int} (h : inB k a = true) : a = Int.ofNat a.toNat ∧ a.toNat < bnd k := by
  have : 0 ≤ a ∧ a < (bnd k : Int) := by simpa [inB] using h
  refine ⟨(Int.toNat_of_nonneg this.1).symm, by omega⟩
theorem aBits_int (f : Nat → Nat → Nat) (k : IntKind) {a b : Int} (ha : inB k a = true) (hb : inB k b = true) : aBits f (.int k a) (.int k b) = some (.int k (nat2S f a b)) := by
  obtain ⟨e1, h1⟩ := inB_nat ha
  obtain ⟨e2, h2⟩ := inB_nat hb
  unfold aBits nat2S; rw [int2_int]
  generalize a.toNat = m at *
  generalize b.toNat = n at *
  subst e1; subst e2
  show whenS (Nat.blt m (bnd k)) (whenS (Nat.blt n (bnd k)) (some (force (f m n) fun r => AV.int k (Int.ofNat r)))) = _
  rw [blt_iff.2 h1, blt_iff.2 h2]
  show some (force (f m n) fun r => AV.int k (Int.ofNat r)) = _
  generalize f m n = r
  cases r <;> rfl
theorem aShl_int (k k' : IntKind) {a b : Int} (ha : nn a = true) (hb : nn b = true) : aShl (.int k a) (.int k' b) = some (.int k (k.wrap (Int.ofNat (a.toNat * 2 ^ min b.toNat (bitsOf k))))) := by
  have e1 := nn_nat ha; have e2 := nn_nat hb
  generalize a.toNat = m at *
  generalize b.toNat = n at *
  subst e1; subst e2
  show some (mkNat k (Nat.mul m (Nat.pow 2 (nmin n (bitsOf k))))) = _
  rw [mkNat_eq]
  have : nmin n (bitsOf k) = min n (bitsOf k) := by
    unfold nmin
    cases hb : Nat.ble n (bitsOf k) with
    | true => have := ble_iff.1 hb; show n = _; omega
    | false => have := ble_false.1 hb; show bitsOf k = _; omega
  rw [this]; rfl
theorem aShr_int (k k' : IntKind) {a b : Int} (ha : nn a = true) (hb : nn b = true) : aShr (.int k a) (.int k' b) = some (.int k (Int.ofNat (a.toNat / 2 ^ min b.toNat (bitsOf k)))) := by
  have e1 := nn_nat ha; have e2 := nn_nat hb
  generalize a.toNat = m at *
  generalize b.toNat = n at *
  subst e1; subst e2
  show some (force (Nat.div m (Nat.pow 2 (nmin n (bitsOf k)))) fun r => AV.int k (Int.ofNat r)) = _
  rw [force_eq]
  have : nmin n (bitsOf k) = min n (bitsOf k) := by
    unfold nmin
    cases hb : Nat.ble n (bitsOf k) with
    | true => have := ble_iff.1 hb; show n = _; omega
    | false => have := ble_false.1 hb; show bitsOf k = _; omega
  rw [this]; rfl
theorem aMul_int (k : IntKind) {a b : Int} (ha : nn a = true) (hb : nn b = true) : aMul (.int k a) (.int k b) = some (.int k (k.wrap (a * b))) := by
  have e1 := nn_nat ha; have e2 := nn_nat hb
  unfold aMul; rw [int2_int]
  generalize a.toNat = m at *
  generalize b.toNat = n at *
  subst e1; subst e2
  show some (mkNat k (Nat.mul m n)) = _
  rw [mkNat_eq]; rfl
theorem aQuo_int (k : IntKind) {a b : Int} (ha : nn a = true) (hb : 0 < b) : aQuo (.int k a) (.int k b) = some (.int k (k.wrap (a / b))) := by
  have e1 := nn_nat ha; have e2 : b = Int.ofNat b.toNat := (Int.toNat_of_nonneg (by omega)).symm
  unfold aQuo; rw [int2_int]
  generalize a.toNat = m at *
  generalize b.toNat = n at *
  subst e1; subst e2
  have hn : Nat.beq n 0 = false := beq_false.2 (by simpa using Int.ofNat_lt.1 hb |> Nat.pos_iff_ne_zero.1)
  show pick (Nat.beq n 0) none (some (mkNat k (Nat.div m n))) = _
  rw [hn]
  show some (mkNat k _) = _
  rw [mkNat_eq]; rfl
theorem aRem_int (k : IntKind) {a b : Int} (ha : nn a = true) (hb : 0 < b) : aRem (.int k a) (.int k b) = some (.int k (a % b)) := by
  have e1 := nn_nat ha; have e2 : b = Int.ofNat b.toNat := (Int.toNat_of_nonneg (by omega)).symm
  unfold aRem; rw [int2_int]
  generalize a.toNat = m at *
  generalize b.toNat = n at *
  subst e1; subst e2
  have hn : Nat.beq n 0 = false := beq_false.2 (by simpa using Int.ofNat_lt.1 hb |> Nat.pos_iff_ne_zero.1)
  show pick (Nat.beq n 0) none (some (force (Nat.mod m n) fun r => AV.int k (Int.ofNat r))) = _
  rw [hn, force_eq]; rfl
theorem aCmp_int {fn : Nat → Nat → Bool} {fi : Int → Int → Bool} (hf : ∀ m n : Nat, fn m n = fi m n) (k : IntKind) (a b : Int) : aCmp fn fi (.int k a) (.int k b) = some (.bool (fi a b)) := by
  unfold aCmp; rw [int2_int]
  cases a <;> cases b <;> try rfl
  rename_i m n
  show some (AV.bool (fn m n)) = _
  rw [hf]; rfl
theorem ar2_some {x y v : SV} {f : IntKind → Int → Int → DT SV} (h : (ar2 x y f).val = some v) : ∃ o o' k a b, x = .i o k a ∧ y = .i o' k b ∧ (f k a b).val = some v := by
  unfold ar2 at h
  split at h
  · rename_i o k a o' k' b
    split at h
    · rename_i hk; cases ikeq_iff.1 hk; exact ⟨o, o', k, a, b, rfl, rfl, h⟩
    · cases h
  · cases h
theorem lss_nat (m n : Nat) : Nat.blt m n = decide ((m : Int) < n) := by
  cases hb : Nat.blt m n with
  | true => have := blt_iff.1 hb; symm; simpa using this
  | false => have := blt_false.1 hb; symm; simpa using this
theorem leq_nat (m n : Nat) : Nat.ble m n = decide ((m : Int) ≤ n) := by
  cases hb : Nat.ble m n with
  | true => have := ble_iff.1 hb; symm; simpa using this
  | false => have := ble_false.1 hb; symm; simpa using this
theorem sBinO_ok {op : BinOp} {x y v : SV} {ax ay : AV} (h : (sBinO op x y).val = some v) (hx : sden κ x = some ax) (hy : sden κ y = some ay) : ∃ av, aBin op ax ay = some av ∧ sden κ v = some av := by
  have ari : ∀ {f : IntKind → Int → Int → DT SV}, (ar2 x y f).val = some v → ∃ k a b, ax = .int k a ∧ ay = .int k b ∧ (f k a b).val = some v := fun hf => by
    obtain ⟨o, o', k, a, b, rfl, rfl, h'⟩ := ar2_some hf
    exact ⟨k, a, b, sden_i hx, sden_i hy, h'⟩
  cases op with
  | add =>
    unfold sBinO at h
    simp only at h
    split at h
    · rename_i o a o' b
      obtain ⟨hc, h'⟩ := need_some h
      rw [sden_s hx, sden_s hy, ← leaf_some h']
      refine ⟨.str (a ++ b), ?_, rfl⟩
      have : Nat.blt (Nat.add (llen a) (llen b)) 9223372036854775808 = true := blt_iff.2 (by rw [llen_eq, llen_eq]; exact of_decide_eq_true hc)
      show whenS (Nat.blt (Nat.add (llen a) (llen b)) 9223372036854775808) (some (AV.str (lapp a b))) = _
      rw [this, lapp_eq]; rfl
    · obtain ⟨k, a, b, rfl, rfl, h'⟩ := ari h
      rw [← leaf_some h']; exact ⟨_, aAdd_int k a b, rfl⟩
  | sub => obtain ⟨k, a, b, rfl, rfl, h'⟩ := ari h; rw [← leaf_some h']; exact ⟨_, aSub_int k a b, rfl⟩
  | mul =>
    obtain ⟨k, a, b, rfl, rfl, h'⟩ := ari h
    obtain ⟨hc, h''⟩ := need_some h'
    rw [Bool.and_eq_true] at hc
    rw [← leaf_some h'']; exact ⟨_, aMul_int k hc.1 hc.2, rfl⟩
  | quo =>
    obtain ⟨k, a, b, rfl, rfl, h'⟩ := ari h
    obtain ⟨hc, h''⟩ := need_some h'
    rw [Bool.and_eq_true] at hc
    rw [← leaf_some h'']; exact ⟨_, aQuo_int k hc.1 (of_decide_eq_true hc.2), rfl⟩
  | rem =>
    obtain ⟨k, a, b, rfl, rfl, h'⟩ := ari h
    obtain ⟨hc, h''⟩ := need_some h'
    rw [Bool.and_eq_true] at hc
    rw [← leaf_some h'']; exact ⟨_, aRem_int k hc.1 (of_decide_eq_true hc.2), rfl⟩
  | and | or | xor | andNot =>
    obtain ⟨k, a, b, rfl, rfl, h'⟩ := ari h
    obtain ⟨hc, h''⟩ := need_some h'
    rw [Bool.and_eq_true] at hc
    rw [← leaf_some h'']; exact ⟨_, aBits_int _ k hc.1 hc.2, rfl⟩
  | shl =>
    unfold sBinO at h
    simp only at h
    split at h
    · rename_i o k a o' k' b
      obtain ⟨hc, h''⟩ := need_some h
      rw [Bool.and_eq_true] at hc
      rw [sden_i hx, sden_i hy, ← leaf_some h'']; exact ⟨_, aShl_int k k' hc.1 hc.2, rfl⟩
    · cases h
  | shr =>
    unfold sBinO at h
    simp only at h
    split at h
    · rename_i o k a o' k' b
      obtain ⟨hc, h''⟩ := need_some h
      rw [Bool.and_eq_true] at hc
      rw [sden_i hx, sden_i hy, ← leaf_some h'']; exact ⟨_, aShr_int k k' hc.1 hc.2, rfl⟩
    · cases h
  | lss => obtain ⟨k, a, b, rfl, rfl, h'⟩ := ari h; rw [← leaf_some h']; exact ⟨_, aCmp_int (fi := fun a b => decide (a < b)) lss_nat k a b, rfl⟩
  | leq => obtain ⟨k, a, b, rfl, rfl, h'⟩ := ari h; rw [← leaf_some h']; exact ⟨_, aCmp_int (fi := fun a b => decide (a ≤ b)) leq_nat k a b, rfl⟩
  | gtr => obtain ⟨k, a, b, rfl, rfl, h'⟩ := ari h; rw [← leaf_some h']; exact ⟨_, aCmp_int (fi := fun a b => decide (b < a)) (fun m n => lss_nat n m) k a b, rfl⟩
  | geq => obtain ⟨k, a, b, rfl, rfl, h'⟩ := ari h; rw [← leaf_some h']; exact ⟨_, aCmp_int (fi := fun a b => decide (b ≤ a)) (fun m n => leq_nat n m) k a b, rfl⟩
  | _ => cases h
theorem sBin_ok {op : BinOp} {x y v : SV} {ax ay : AV} (h : (sBin op x y).val = some v) (hx : sden κ x = some ax) (hy : sden κ y = some ay) : ∃ av, aBin op ax ay = some av ∧ sden κ v = some av := by
  unfold sBin at h
  split at h
  · rename_i a b h1 h2
    split at h
    · rename_i r hr
      have e1 := cl1_den (κ := κ) h1; rw [hx] at e1; cases e1
      have e2 := cl1_den (κ := κ) h2; rw [hy] at e2; cases e2
      rw [← leaf_some h]
      exact ⟨r, hr, sden_ofAV r⟩
    · cases h
  · exact sBinO_ok h hx hy
end
end Go.Proofs.YtgemonlknehegaaGreatDoor.AI
namespace Go.Proofs.YtgemonlknehegaaGreatDoor.AI
open Go
set_option linter.unusedVariables false
set_option linter.unusedSimpArgs false
section
variable {κ : Kp}
theorem Pos.beq_self : ∀ p : Pos, p.beq p = true := by
  intro p
  induction p with
  | h => rfl
  | o p ih => exact ih
  | i p ih => exact ih
theorem TB.and_c (x y : TB) : (x.and y).c = (x.c && y.c) := by
  obtain ⟨o, c⟩ := x
  obtain ⟨o', c'⟩ := y
  cases o <;> cases c <;> cases o' <;> cases c' <;> rfl
theorem part3_ok {cs : List SV} {as : List AV} (hc : sdenL κ cs = some as) {off : Nat} {sz : Option Nat} {v : SV} (h : part3 cs off sz = some v) : ∃ a, part as off sz = some a ∧ sden κ v = some a := by
  cases sz with
  | none =>
    have h' : lget cs off = some v := h
    rw [lget_eq] at h'
    obtain ⟨a, h1, h2⟩ := sdenL_get hc h'
    exact ⟨a, by show lget as off = _; rw [lget_eq]; exact h2, h1⟩
  | some n =>
    unfold part3 at h
    simp only at h
    split at h
    · rename_i l hl
      cases h
      obtain ⟨h1, rfl⟩ := ltake_some hl
      rw [ldrop_eq] at h1 ⊢
      have hd := sdenL_take n (sdenL_drop off hc)
      refine ⟨.agg ((as.drop off).take n), ?_, by simp [sden, hd]⟩
      show bindS (ltake n (ldrop off as)) _ = _
      rw [ldrop_eq, ltake_eq, if_pos (by have := sdenL_length (sdenL_drop off hc); omega)]
      rfl
    · cases h
theorem isNilK_some {v : SV} {n : Nat} {b : Bool} (h : v.isNilK n = some b) : ∃ k, v = .nil k ∧ Nat.beq k.no n = true := by
  cases v <;> try (cases h; done)
  rename_i k
  unfold SV.isNilK at h
  simp only at h
  split at h
  · exact ⟨k, rfl, by assumption⟩
  · cases h
theorem isNilK_none {k : NK} {n : Nat} (h : (SV.nil k).isNilK n = none) : Nat.beq k.no n = false := by
  unfold SV.isNilK at h
  simp only at h
  split at h
  · cases h
  · assumption
theorem isRef_den {v : SV} {a : AV} (h : isRef v = true) (hd : sden κ v = some a) : ∃ p o, a = .ptr p o := by
  cases v <;> try (cases h; done)
  · obtain ⟨p, _, rfl⟩ := sden_ptr hd; exact ⟨_, _, rfl⟩
  · obtain ⟨p, _, rfl⟩ := sden_eptr hd; exact ⟨_, _, rfl⟩
theorem isSlV_den {v : SV} {a : AV} (h : isSlV v = true) (hd : sden κ v = some a) : (∃ p o l c, a = .slice p o l c) ∨ ∃ p o k l z, a = .etail p o k l z := by
  cases v <;> try (cases h; done)
  · obtain ⟨p, _, rfl⟩ := sden_sl hd; exact .inl ⟨_, _, _, _, rfl⟩
  · obtain ⟨p, _, rfl⟩ := sden_tsl hd; exact .inl ⟨_, _, _, _, rfl⟩
  · obtain ⟨p, _, rfl⟩ := sden_etl hd; exact .inr ⟨_, _, _, _, _, rfl⟩
theorem isMapV_den {v : SV} {a : AV} (h : isMapV v = true) (hd : sden κ v = some a) : ∃ p, a = .map p := by
  cases v <;> try (cases h; done)
  obtain ⟨p, _, rfl⟩ := sden_map hd; exact ⟨_, rfl⟩
theorem isFuncV_den {v : SV} {a : AV} (h : isFuncV v = true) (hd : sden κ v = some a) : ∃ f u w, a = .func f u w := by
  cases v <;> try (cases h; done)
  obtain ⟨p, _, _, _, rfl⟩ := sden_func hd; exact ⟨_, _, _, rfl⟩
theorem nilEq_cases {is : SV → Bool} {n : Nat} {x y : SV} {r : TB} (h : nilEq is n x y = some r) :
    (∃ k k', x = .nil k ∧ y = .nil k' ∧ Nat.beq k.no n = true ∧ Nat.beq k'.no n = true ∧ r.c = true) ∨ (∃ k, x = .nil k ∧ Nat.beq k.no n = true ∧ is y = true ∧ r.c = false) ∨ (∃ k, y = .nil k ∧ Nat.beq k.no n = true ∧ is x = true ∧ r.c = false) := by
  unfold nilEq at h
  split at h
  · rename_i h1 h2
    obtain ⟨k, rfl, e1⟩ := isNilK_some h1
    obtain ⟨k', rfl, e2⟩ := isNilK_some h2
    cases h
    exact .inl ⟨k, k', rfl, rfl, e1, e2, rfl⟩
  · rename_i h1 h2
    obtain ⟨k, rfl, e1⟩ := isNilK_some h1
    split at h
    · cases h; exact .inr (.inl ⟨k, rfl, e1, by assumption, rfl⟩)
    · cases h
  · rename_i h1 h2
    obtain ⟨k, rfl, e1⟩ := isNilK_some h2
    split at h
    · cases h; exact .inr (.inr ⟨k, rfl, e1, by assumption, rfl⟩)
    · cases h
  · cases h
theorem seqL_ok {d : Nat} {q : EqK → SV → SV → Option TB} (hq : ∀ k x y r ax ay, q k x y = some r → sden κ x = some ax → sden κ y = some ay → aeq d k ax ay = some r.c) :
    ∀ (fs : List (Nat × Option Nat × EqK)) {xs ys : List SV} {as bs : List AV} {r : TB}, seqL q fs xs ys = some r → sdenL κ xs = some as → sdenL κ ys = some bs → eqL (aeq d) fs as bs = some r.c
  | [], _, _, _, _, r, h, _, _ => by cases h; rfl
  | f :: l, xs, ys, as, bs, r, h, hx, hy => by
    unfold seqL at h
    split at h
    · rename_i a b h1 h2
      split at h
      · rename_i r1 r2 h3 h4
        cases h
        obtain ⟨av, e1, d1⟩ := part3_ok hx h1
        obtain ⟨bv, e2, d2⟩ := part3_ok hy h2
        have e3 := hq _ _ _ _ _ _ h3 d1 d2
        have e4 := seqL_ok hq l h4 hx hy
        show bindS (part as f.1 f.2.1) (fun a => bindS (part bs f.1 f.2.1) fun b => bindS (aeq d f.2.2 a b) fun r => pick r (eqL (aeq d) l as bs) (some false)) = _
        rw [e1]
        show bindS (part bs f.1 f.2.1) _ = _
        rw [e2]
        show bindS (aeq d f.2.2 av bv) _ = _
        rw [e3, TB.and_c]
        show pick r1.c (eqL (aeq d) l as bs) (some false) = _
        rw [e4]
        cases r1.c <;> rfl
      · cases h
    · cases h
theorem seq3_ok : ∀ (d : Nat) (q : EqK) (x y : SV) (r : TB) (ax ay : AV), seq3 d q x y = some r → sden κ x = some ax → sden κ y = some ay → aeq d q ax ay = some r.c
  | 0, _, _, _, _, _, _, h, _, _ => by cases h
  | d + 1, q, x, y, r, ax, ay, h, hx, hy => by
    cases q with
    | bool =>
      unfold seq3 at h
      simp only at h
      split at h
      · rename_i o a o' b
        cases h
        rw [sden_b hx, sden_b hy]
        show some (beqv a b) = some (a == b)
        rw [beqv_iff]
      · cases h
    | int =>
      unfold seq3 at h
      simp only at h
      split at h
      · rename_i o k a o' k' b
        split at h
        · rename_i hk
          cases ikeq_iff.1 hk
          cases h
          rw [sden_i hx, sden_i hy]
          show eqInt (.int k a) (.int k b) = _
          unfold eqInt
          rw [int2_int]
          have : ∀ m n : Nat, Nat.beq m n = decide ((Int.ofNat m) = Int.ofNat n) := fun m n => by
            cases hb : Nat.beq m n with
            | true => have := beq_iff.1 hb; symm; simp [this]
            | false => have := beq_false.1 hb; symm; exact decide_eq_false (fun e => this (Int.ofNat.inj e))
          cases a <;> cases b
          · show some (Nat.beq _ _) = _; rw [this]
          · rfl
          · rfl
          · show some (_ == _) = _; congr 1
        · cases h
      · cases h
    | str =>
      unfold seq3 at h
      simp only at h
      split at h
      · rename_i o a o' b
        cases h
        rw [sden_s hx, sden_s hy]
        show some (beqB a b) = _
        rw [beqB_eq]
        show some (a == b) = some (decide (a = b))
        congr 1
        cases hd : decide (a = b) with
        | true => exact beq_iff_eq.2 (of_decide_eq_true hd)
        | false => exact beq_eq_false_iff_ne.2 (of_decide_eq_false hd)
      · cases h
    | ptr =>
      unfold seq3 at h
      simp only at h
      split at h
      · rename_i a i b j
        split at h
        · rename_i hb
          cases beq_iff.1 hb
          cases h
          obtain ⟨p, e1, rfl⟩ := sden_ptr hx
          obtain ⟨p', e2, rfl⟩ := sden_ptr hy
          rw [e1] at e2; cases e2
          show whenS (p.beq p) (some (Nat.beq i j)) = _
          rw [Pos.beq_self]; rfl
        · cases h
      · show eqPtr ax ay = _
        rcases nilEq_cases h with ⟨k, k', rfl, rfl, e1, e2, e3⟩ | ⟨k, rfl, e1, e2, e3⟩ | ⟨k, rfl, e1, e2, e3⟩
        · rw [sden_nil hx, sden_nil hy, e3]
          show whenS (Nat.beq k.no 0) (whenS (Nat.beq k'.no 0) (some true)) = _
          rw [e1, e2]; rfl
        · obtain ⟨p, o, rfl⟩ := isRef_den e2 hy
          rw [sden_nil hx, e3]
          show whenS (Nat.beq k.no 0) (some false) = _
          rw [e1]; rfl
        · obtain ⟨p, o, rfl⟩ := isRef_den e2 hx
          rw [sden_nil hy, e3]
          show whenS (Nat.beq k.no 0) (some false) = _
          rw [e1]; rfl
    | slice =>
      unfold seq3 at h
      simp only at h
      split at h
      · cases h
      · show eqSlice ax ay = _
        rcases nilEq_cases h with ⟨k, k', rfl, rfl, e1, e2, e3⟩ | ⟨k, rfl, e1, e2, e3⟩ | ⟨k, rfl, e1, e2, e3⟩
        · rw [sden_nil hx, sden_nil hy, e3]
          show whenS (Nat.beq k.no 1) (whenS (Nat.beq k'.no 1) (some true)) = _
          rw [e1, e2]; rfl
        · rw [sden_nil hx, e3]
          rcases isSlV_den e2 hy with ⟨p, o, l, c, rfl⟩ | ⟨p, o, kk, l, z, rfl⟩ <;>
          · show whenS (Nat.beq k.no 1) (some false) = _
            rw [e1]; rfl
        · rw [sden_nil hy, e3]
          rcases isSlV_den e2 hx with ⟨p, o, l, c, rfl⟩ | ⟨p, o, kk, l, z, rfl⟩ <;>
          · show whenS (Nat.beq k.no 1) (some false) = _
            rw [e1]; rfl
    | map =>
      unfold seq3 at h
      simp only at h
      split at h
      · cases h
      · show eqMap ax ay = _
        rcases nilEq_cases h with ⟨k, k', rfl, rfl, e1, e2, e3⟩ | ⟨k, rfl, e1, e2, e3⟩ | ⟨k, rfl, e1, e2, e3⟩
        · rw [sden_nil hx, sden_nil hy, e3]
          show whenS (Nat.beq k.no 2) (whenS (Nat.beq k'.no 2) (some true)) = _
          rw [e1, e2]; rfl
        · obtain ⟨p, rfl⟩ := isMapV_den e2 hy
          rw [sden_nil hx, e3]
          show whenS (Nat.beq k.no 2) (some false) = _
          rw [e1]; rfl
        · obtain ⟨p, rfl⟩ := isMapV_den e2 hx
          rw [sden_nil hy, e3]
          show whenS (Nat.beq k.no 2) (some false) = _
          rw [e1]; rfl
    | func =>
      unfold seq3 at h
      simp only at h
      split at h
      · cases h
      · show eqFunc ax ay = _
        rcases nilEq_cases h with ⟨k, k', rfl, rfl, e1, e2, e3⟩ | ⟨k, rfl, e1, e2, e3⟩ | ⟨k, rfl, e1, e2, e3⟩
        · rw [sden_nil hx, sden_nil hy, e3]
          show whenS (Nat.beq k.no 3) (whenS (Nat.beq k'.no 3) (some true)) = _
          rw [e1, e2]; rfl
        · obtain ⟨f, u, w, rfl⟩ := isFuncV_den e2 hy
          rw [sden_nil hx, e3]
          show whenS (Nat.beq k.no 3) (some false) = _
          rw [e1]; rfl
        · obtain ⟨f, u, w, rfl⟩ := isFuncV_den e2 hx
          rw [sden_nil hy, e3]
          show whenS (Nat.beq k.no 3) (some false) = _
          rw [e1]; rfl
    | struct fs =>
      unfold seq3 at h
      simp only at h
      split at h
      · rename_i xs ys
        obtain ⟨as, d1, rfl⟩ := sden_agg hx
        obtain ⟨bs, d2, rfl⟩ := sden_agg hy
        show eqL (aeq d) fs as bs = _
        exact seqL_ok (fun k x y r ax ay => seq3_ok d k x y r ax ay) fs h d1 d2
      · cases h
/-! ### Places -/
theorem nat3_some {v : SV} {k : Bool → Nat → DT SV} {r : SV} (h : (nat3 v k).val = some r) : ∃ o q o' n, v = .i o q (Int.ofNat n) ∧ (k o' n).val = some r := by
  unfold nat3 at h
  split at h
  · rename_i o q n
    split at h
    · split at h
      · rename_i n; exact ⟨_, q, _, n, rfl, h⟩
      · cases h
    · obtain ⟨h1, h2⟩ := need_some h
      exact ⟨_, q, _, n.toNat, by rw [← nn_nat h1], h2⟩
  · cases h
theorem closedIx_some {i : Nat} {k : Nat → DT SV} {r : SV} : ∀ {n : Nat}, (closedIx i k n).val = some r → i < n ∧ (k i).val = some r
  | 0, h => by cases h
  | n + 1, h => by
    rcases node_some (show (DT.node (decide (i = n)) (k n) (closedIx i k n)).val = some r from h) with ⟨h1, h2⟩ | ⟨_, h2⟩
    · have := of_decide_eq_true h1; subst this; exact ⟨by omega, h2⟩
    · obtain ⟨h3, h4⟩ := closedIx_some h2; exact ⟨by omega, h4⟩
theorem natOf_int (k : IntKind) (n : Nat) : natOf (.int k (Int.ofNat n)) = some n := rfl
/-- the address of an element -/
noncomputable def aIx (sz : Nat) (x i : AV) : Option AV := x.onSlice none fun b off len _ => bindS (natOf i) fun k => whenS (Nat.blt k len) (some (force (Nat.add off (Nat.mul k sz)) fun o => .ptr b o))
theorem aIx_eq {sz : Nat} {p : Pos} {off len : Nat} {c : ACap} {q : IntKind} {k : Nat} (h : k < len) : aIx sz (.slice p off len c) (.int q (Int.ofNat k)) = some (.ptr p (off + k * sz)) := by
  show whenS (Nat.blt k len) (some (force (Nat.add off (Nat.mul k sz)) fun o => AV.ptr p o)) = _
  rw [blt_iff.2 h, force_eq]; rfl
theorem sIndexAddr_ok {sz : Nat} {x i v : SV} {ax ai : AV} (h : (sIndexAddr sz x i).val = some v) (hx : sden κ x = some ax) (hi : sden κ i = some ai) : ∃ av, aIx sz ax ai = some av ∧ sden κ v = some av := by
  unfold sIndexAddr at h
  split at h
  · rename_i x off len c
    obtain ⟨p, e1, rfl⟩ := sden_sl hx
    obtain ⟨o, q, o', n, rfl, h'⟩ := nat3_some h
    rw [sden_i hi]
    have : n < len ∧ (DT.leaf (SV.ptr x (off + n * sz))).val = some v := by
      split at h'
      · split at h'
        · rename_i hb; exact ⟨blt_iff.1 hb, h'⟩
        · cases h'
      · exact closedIx_some h'
    rw [← leaf_some this.2]
    exact ⟨_, aIx_eq this.1, by simp [sden, e1]⟩
  · rename_i x sz' lo len
    split at h
    · rename_i hb
      cases beq_iff.1 hb
      obtain ⟨p, e1, rfl⟩ := sden_tsl hx
      obtain ⟨o, q, o', n, rfl, h'⟩ := nat3_some h
      obtain ⟨h1, h2⟩ := need_some h'
      rw [sden_i hi, ← leaf_some h2]
      refine ⟨_, aIx_eq (of_decide_eq_true h1), ?_⟩
      simp only [sden, e1]
      rw [Nat.add_mul, Nat.add_zero]
    · cases h
  · cases h
noncomputable def aIxS (x i : AV) : Option AV := x.onStr none fun s => bindS (natOf i) fun k => bindS (lget s k) fun b => some (force b.toNat fun n => .int .u8 (Int.ofNat n))
theorem sIndexStr_ok {x i v : SV} {ax ai : AV} (h : (sIndexStr x i).val = some v) (hx : sden κ x = some ax) (hi : sden κ i = some ai) : ∃ av, aIxS ax ai = some av ∧ sden κ v = some av := by
  unfold sIndexStr at h
  split at h
  · rename_i o l
    obtain ⟨o1, q, o', n, rfl, h'⟩ := nat3_some h
    rw [sden_i hi, sden_s hx]
    have key : ∃ b, lget l n = some b ∧ sden κ v = some (.int .u8 (Int.ofNat b.toNat)) := by
      split at h'
      · split at h'
        · rename_i b hb
          rw [← leaf_some h']
          exact ⟨b, hb, rfl⟩
        · cases h'
      · obtain ⟨h1, h2⟩ := need_some h'
        have h1 := of_decide_eq_true h1
        rw [← leaf_some h2]
        refine ⟨l[n], by rw [lget_eq]; simp [h1], ?_⟩
        simp [sden, List.getD_eq_getElem?_getD, h1]
    obtain ⟨b, e1, e2⟩ := key
    refine ⟨_, ?_, e2⟩
    show bindS (lget l n) _ = _
    rw [e1]
    show some (force b.toNat fun n => AV.int .u8 (Int.ofNat n)) = _
    rw [force_eq]
  · cases h
theorem optNat_some {v : Option SV} {d : Bool × Nat} {k : Bool → Nat → DT SV} {r : SV} (h : (optNat v d k).val = some r) {av : Option AV} (hv : (v = none ∧ av = none) ∨ (∃ w a, v = some w ∧ av = some a ∧ sden κ w = some a)) :
    ∃ o n, (k o n).val = some r ∧ ((av = none ∧ n = d.2) ∨ (∃ q, av = some (.int q (Int.ofNat n)))) := by
  rcases hv with ⟨rfl, rfl⟩ | ⟨w, a, rfl, rfl, hd⟩
  · exact ⟨_, _, h, .inl ⟨rfl, rfl⟩⟩
  · obtain ⟨o, q, o', n, rfl, h'⟩ := nat3_some h
    exact ⟨_, _, h', .inr ⟨q, by rw [sden_i hd]⟩⟩
theorem bound_ok {av : Option AV} {n m d : Nat} (hv : (av = none ∧ n = d) ∨ (∃ q, av = some (.int q (Int.ofNat n)))) (hle : n ≤ m) : bound av m d = some n := by
  rcases hv with ⟨rfl, rfl⟩ | ⟨q, rfl⟩
  · rfl
  · show whenS (Nat.ble n m) (some n) = _
    rw [ble_iff.2 hle]; rfl
theorem sSliceStr_ok {x v : SV} {ax : AV} {lo hi : Option SV} {alo ahi : Option AV} (h : (sSliceStr x lo hi).val = some v) (hx : sden κ x = some ax)
    (hlo : (lo = none ∧ alo = none) ∨ (∃ w a, lo = some w ∧ alo = some a ∧ sden κ w = some a)) (hhi : (hi = none ∧ ahi = none) ∨ (∃ w a, hi = some w ∧ ahi = some a ∧ sden κ w = some a)) :
    ∃ av, (ax.onStr none fun s => aSliceStr s alo ahi) = some av ∧ sden κ v = some av := by
  unfold sSliceStr at h
  split at h
  · rename_i o l
    obtain ⟨o1, b, h1, hb⟩ := optNat_some h hhi
    obtain ⟨o2, a, h2, ha⟩ := optNat_some h1 hlo
    rw [sden_s hx]
    have key : a ≤ b ∧ b ≤ l.length ∧ sden κ v = some (.str ((l.drop a).take (b - a))) := by
      split at h2
      · split at h2
        · rename_i e1 e2
          split at h2
          · rename_i r hr
            obtain ⟨e3, rfl⟩ := ltake_some hr
            rw [← leaf_some h2, ldrop_eq]
            exact ⟨ble_iff.1 e2, by have := ble_iff.1 e1; rwa [llen_eq] at this, rfl⟩
          · cases h2
        · cases h2
      · obtain ⟨e1, e2⟩ := need_some h2
        have e1 := of_decide_eq_true e1
        rw [← leaf_some e2]
        exact ⟨e1.1, e1.2, rfl⟩
    obtain ⟨k1, k2, k3⟩ := key
    refine ⟨_, ?_, k3⟩
    show aSliceStr l alo ahi = _
    unfold aSliceStr
    rw [force_eq, llen_eq, bound_ok hb k2]
    show bindS (bound alo b 0) _ = _
    rw [bound_ok ha k1]
    show bindS (ltake (Nat.sub b a) (ldrop a l)) _ = _
    rw [ldrop_eq, ltake_eq, if_pos (by rw [List.length_drop]; show b - a ≤ _; omega)]
    rfl
  · cases h
theorem sMin_ok {mx : Bool} {x y v : SV} {ax ay : AV} (h : (sMin mx x y).val = some v) (hx : sden κ x = some ax) (hy : sden κ y = some ay) : ∃ av, aMin mx ax ay = some av ∧ sden κ v = some av := by
  unfold sMin at h
  split at h
  · rename_i o k a o' k' b
    split at h
    · rename_i hk
      cases ikeq_iff.1 hk
      rw [sden_i hx, sden_i hy]
      split at h
      · split at h
        · rename_i r hr; rw [← leaf_some h]; exact ⟨r, hr, sden_ofAV r⟩
        · cases h
      · rw [← leaf_some h]
        refine ⟨_, ?_, rfl⟩
        show nat2 a b (some (AV.int k (pick mx (if b > a then b else a) (if b < a then b else a)))) (fun a b => some (.int k (Int.ofNat (pick (pick mx (Nat.blt a b) (Nat.blt b a)) b a)))) = _
        have e0 : pick mx (if b > a then b else a) (if b < a then b else a) = if mx = true then max a b else min a b := by
          cases mx
          · show (if b < a then b else a) = min a b; split <;> omega
          · show (if b > a then b else a) = max a b; split <;> omega
        cases a with
        | negSucc a => rw [← e0]; cases b <;> rfl
        | ofNat a =>
          cases b with
          | negSucc b => rw [← e0]; rfl
          | ofNat b =>
            show some (AV.int k (Int.ofNat (pick (pick mx (Nat.blt a b) (Nat.blt b a)) b a))) = _
            cases mx
            · show some (AV.int k (Int.ofNat (pick (Nat.blt b a) b a))) = some (AV.int k (min (Int.ofNat a) (Int.ofNat b)))
              cases hb : Nat.blt b a with
              | true => have := blt_iff.1 hb; show some (AV.int k (Int.ofNat b)) = _; congr 2; show (b : Int) = min (a : Int) b; omega
              | false => have := blt_false.1 hb; show some (AV.int k (Int.ofNat a)) = _; congr 2; show (a : Int) = min (a : Int) b; omega
            · show some (AV.int k (Int.ofNat (pick (Nat.blt a b) b a))) = some (AV.int k (max (Int.ofNat a) (Int.ofNat b)))
              cases hb : Nat.blt a b with
              | true => have := blt_iff.1 hb; show some (AV.int k (Int.ofNat b)) = _; congr 2; show (b : Int) = max (a : Int) b; omega
              | false => have := blt_false.1 hb; show some (AV.int k (Int.ofNat a)) = _; congr 2; show (a : Int) = max (a : Int) b; omega
    · cases h
  · cases h
theorem sFoldMin_ok {mx : Bool} : ∀ {l : List SV} {x v : SV} {ax : AV} {al : List AV}, (sFoldMin mx x l).val = some v → sden κ x = some ax → sdenL κ l = some al → ∃ av, foldMin mx ax al = some av ∧ sden κ v = some av
  | [], x, v, ax, al, h, hx, hl => by rw [sdenL_nil.1 hl, ← leaf_some h]; exact ⟨ax, rfl, hx⟩
  | y :: l, x, v, ax, al, h, hx, hl => by
    obtain ⟨ay, s, h1, h2, rfl⟩ := sdenL_cons.1 hl
    obtain ⟨w, h3, h4⟩ := bind_some (show ((sMin mx x y).bind fun c => sFoldMin mx c l).val = some v from h)
    obtain ⟨aw, e1, e2⟩ := sMin_ok h3 hx h1
    obtain ⟨av, e3, e4⟩ := sFoldMin_ok h4 e2 h2
    refine ⟨av, ?_, e4⟩
    show bindS (aMin mx ax ay) _ = _
    rw [e1]; exact e3
theorem sConvInt_ok {k : IntKind} {x v : SV} {ax : AV} (h : (sConvInt k x).val = some v) (hx : sden κ x = some ax) : ∃ av, (ax.onInt none fun _ n => nat1 n (some (.int k (k.wrap n))) fun n => some (mkNat k n)) = some av ∧ sden κ v = some av := by
  unfold sConvInt at h
  split at h
  · rename_i o q n
    rw [sden_i hx]
    have key : ∀ n : Int, ((AV.int q n).onInt none fun _ n => nat1 n (some (.int k (k.wrap n))) fun n => some (mkNat k n)) = some (.int k (k.wrap n)) := fun n => by
      cases n with
      | ofNat n => show some (mkNat k n) = _; rw [mkNat_eq]
      | negSucc n => rfl
    rw [key]
    refine ⟨_, rfl, ?_⟩
    split at h
    · split at h
      · rw [← leaf_some h, sden_ofAV, mkNat_eq]
      · rw [← leaf_some h]; rfl
    · rw [← leaf_some h]; rfl
  · cases h
end
end Go.Proofs.YtgemonlknehegaaGreatDoor.AI
