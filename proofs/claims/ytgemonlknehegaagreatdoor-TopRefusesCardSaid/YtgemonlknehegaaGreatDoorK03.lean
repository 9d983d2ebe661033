/- The chain of TopRefuses, part 3. -/
import Derived.Test.YtgemonlknehegaaGreatDoorK02
import Derived.Laws.Sem
import Derived.Laws.StructEq
namespace Go.Proofs.YtgemonlknehegaaGreatDoor.AI
open Go
set_option linter.unusedVariables false
set_option linter.unusedSimpArgs false

/-! ### Operands -/
theorem den_ofCell {σ : Sig} {v u : Value} (h : den σ (ofCell v) = some u) : u = v := by
  unfold ofCell at h
  split at h
  · simpa [den, eq_comm] using h
  · simpa [den, eq_comm] using h
  · rename_i s; cases s; simpa [den, eq_comm] using h
  · split at h
    · simpa [den, nilOf, eq_comm] using h
    · simp [den] at h
  · rename_i a l c
    split at h
    · split at h
      · rename_i h1 h2
        have e1 := beq_iff.1 h1; have e2 := beq_iff.1 h2; subst e1; subst e2
        simpa [den, nilOf, eq_comm] using h
      · simp [den] at h
    · simp [den] at h
  · split at h
    · simpa [den, nilOf, eq_comm] using h
    · simp [den] at h
  · simpa [den, nilOf, eq_comm] using h
  · simpa [den, nilOf, eq_comm] using h
  · simp [den] at h
theorem denL_ofCell {σ : Sig} : ∀ {l : List Value} {vs : List Value}, denL σ (l.map ofCell) = some vs → vs = l
  | [], vs, h => by simpa [denL, eq_comm] using h
  | a :: l, vs, h => by
    obtain ⟨v, r, hv, hr, rfl⟩ := denL_cons.1 h
    rw [den_ofCell hv, denL_ofCell hr]
theorem den_ofValue {σ : Sig} {v u : Value} (h : den σ (ofValue v) = some u) : u = v := by
  unfold ofValue at h
  split at h
  · rename_i cs
    cases hl : denL σ (cs.toList.map ofCell) with
    | none => simp [den, hl] at h
    | some vs => have := denL_ofCell hl; subst this; simpa [den, hl, eq_comm] using h
  · rename_i cs
    split at h
    · rename_i hc; cases cs; simp at hc; subst hc; simpa [den, denL, eq_comm] using h
    · simp [den] at h
  · exact den_ofCell h
theorem ofCell_cases (σ : Sig) (v : Value) : ofCell v = .bad ∨ ∃ u, den σ (ofCell v) = some u := by
  unfold ofCell
  split
  · exact .inr ⟨_, rfl⟩
  · exact .inr ⟨_, rfl⟩
  · exact .inr ⟨_, rfl⟩
  · split
    · exact .inr ⟨_, rfl⟩
    · exact .inl rfl
  · split
    · split
      · exact .inr ⟨_, rfl⟩
      · exact .inl rfl
    · exact .inl rfl
  · split
    · exact .inr ⟨_, rfl⟩
    · exact .inl rfl
  · exact .inr ⟨_, rfl⟩
  · exact .inr ⟨_, rfl⟩
  · exact .inl rfl
theorem denL_okCells (σ : Sig) : ∀ l : List Value, (l.map ofCell).all (fun c => c.onNot1 true (fun _ => false) (fun _ => false) false) = true → ∃ vs, denL σ (l.map ofCell) = some vs
  | [], _ => ⟨[], denL_nil⟩
  | a :: l, h => by
    simp only [List.map_cons, List.all_cons, Bool.and_eq_true] at h
    obtain ⟨vs, hv⟩ := denL_okCells σ l h.2
    rcases ofCell_cases σ a with e | ⟨u, hu⟩
    · rw [e] at h; exact absurd h.1 (by simp [AV.onNot1])
    · exact ⟨u :: vs, denL_cons.2 ⟨u, vs, hu, hv, rfl⟩⟩
theorem den_okValue (σ : Sig) (v : Value) (h : okAV (ofValue v) = true) : ∃ u, den σ (ofValue v) = some u := by
  unfold ofValue at h ⊢
  split at h
  · rename_i cs
    have h' : lall (fun c => c.onNot1 true (fun _ => false) (fun _ => false) false) (cs.toList.map ofCell) = true := h
    rw [lall_eq] at h'
    obtain ⟨vs, hv⟩ := denL_okCells σ cs.toList h'
    exact ⟨.agg vs.toArray, by simp only [den, hv]⟩
  · rename_i cs
    split
    · exact ⟨_, rfl⟩
    · rename_i a l hc; rw [hc] at h; cases h
  · rcases ofCell_cases σ v with e | hu
    · rw [e] at h; cases h
    · exact hu
theorem opd_eval {σ : Sig} {t : Tm} {a : Act} (ht : TR σ t a.tmps) {x : Operand} {v : Value} (h : den σ (opd x t) = some v) : a.eval x = v := by
  cases x with
  | tmp i => have := ht i; rw [show opd (.tmp i) t = tget t i from rfl, this] at h; cases h; rfl
  | const c => exact (den_ofValue (σ := σ) h).symm
  | global g => simp [opd, den] at h
  | func f => simp [opd, den, denL] at h; exact h
theorem opd_ok {σ : Sig} {t : Tm} {a : Act} (ht : TR σ t a.tmps) {x : Operand} (hx : okOpd x = true) : den σ (opd x t) = some (a.eval x) := by
  cases x with
  | tmp i => exact ht i
  | const c => obtain ⟨u, hu⟩ := den_okValue σ c hx; have hu' : den σ (opd (.const c) t) = some u := hu; rw [hu', opd_eval ht hu']
  | global g => cases hx
  | func f => simp [opd, den, denL]; rfl
theorem opds_ok {σ : Sig} {t : Tm} {a : Act} (ht : TR σ t a.tmps) : ∀ {xs : List Operand}, (∀ x ∈ xs, okOpd x = true) → denL σ (opds xs t) = some (xs.map a.eval)
  | [], _ => denL_nil
  | x :: xs, h => denL_cons.2 ⟨_, _, opd_ok ht (h x (by simp)), opds_ok ht (fun y hy => h y (by simp [hy])), rfl⟩
/-! ### Numbers -/
theorem bnd_pos (k : IntKind) : 0 < bnd k := by cases k <;> decide
theorem wrap_small {k : IntKind} {r : Nat} (h : r < bnd k) : k.wrap (r : Int) = r := by
  cases k <;> simp only [bnd] at h <;> simp [IntKind.wrap, IntKind.bits, IntKind.signed] <;> omega
theorem wrap_uns {k : IntKind} (hu : uns k = true) (r : Nat) : k.wrap (r : Int) = ((r % bnd k : Nat) : Int) := by
  cases k <;> first | (exact absurd hu (by decide)) | (simp [IntKind.wrap, IntKind.bits, IntKind.signed, bnd])
theorem mkNat_eq (k : IntKind) (r : Nat) : mkNat k r = .int k (k.wrap (Int.ofNat r)) := by
  unfold mkNat
  rw [force_eq]
  cases h : Nat.blt r (bnd k) with
  | true => rw [pick_true]; congr 1; exact (wrap_small (blt_iff.1 h)).symm
  | false =>
    rw [pick_false]
    cases hu : uns k with
    | true => rw [pick_true, force_eq]; congr 1; exact (wrap_uns hu r).symm
    | false => rfl
@[simp] theorem onInt_int {β : Type} (k : IntKind) (n : Int) (d : β) (f : IntKind → Int → β) : (AV.int k n).onInt d f = f k n := rfl
theorem onInt_some {β : Type} {x : AV} {f : IntKind → Int → Option β} {r : β} (h : x.onInt none f = some r) : ∃ k n, x = .int k n ∧ f k n = some r := by
  cases x <;> first | exact ⟨_, _, rfl, h⟩ | cases h
theorem onStr_some {β : Type} {x : AV} {f : List UInt8 → Option β} {r : β} (h : x.onStr none f = some r) : ∃ s, x = .str s ∧ f s = some r := by
  cases x <;> first | exact ⟨_, rfl, h⟩ | cases h
theorem onBool_some {β : Type} {x : AV} {f : Bool → Option β} {r : β} (h : x.onBool none f = some r) : ∃ s, x = .bool s ∧ f s = some r := by
  cases x <;> first | exact ⟨_, rfl, h⟩ | cases h
theorem onPtr_some {β : Type} {x : AV} {f : Pos → Nat → Option β} {r : β} (h : x.onPtr none f = some r) : ∃ b o, x = .ptr b o ∧ f b o = some r := by
  cases x <;> first | exact ⟨_, _, rfl, h⟩ | cases h
theorem onSlice_some {β : Type} {x : AV} {f : Pos → Nat → Nat → ACap → Option β} {r : β} (h : x.onSlice none f = some r) : ∃ b o l c, x = .slice b o l c ∧ f b o l c = some r := by
  cases x <;> first | exact ⟨_, _, _, _, rfl, h⟩ | cases h
theorem onAgg_some {β : Type} {x : AV} {f : List AV → Option β} {r : β} (h : x.onAgg none f = some r) : ∃ l, x = .agg l ∧ f l = some r := by
  cases x <;> first | exact ⟨_, rfl, h⟩ | cases h
theorem onTuple_some {β : Type} {x : AV} {f : List AV → Option β} {r : β} (h : x.onTuple none f = some r) : ∃ l, x = .tuple l ∧ f l = some r := by
  cases x <;> first | exact ⟨_, rfl, h⟩ | cases h
theorem onNil_some {β : Type} {x : AV} {f : NK → Option β} {r : β} (h : x.onNil none f = some r) : ∃ l, x = .nil l ∧ f l = some r := by
  cases x <;> first | exact ⟨_, rfl, h⟩ | cases h
theorem onFunc_some {β : Type} {x : AV} {f : FuncId → List AV → List AV → Option β} {r : β} (h : x.onFunc none f = some r) : ∃ g a c, x = .func g a c ∧ f g a c = some r := by
  cases x <;> first | exact ⟨_, _, _, rfl, h⟩ | cases h
theorem int2_some {β : Type} {x y : AV} {f : IntKind → Int → Int → Option β} {r : β} (h : int2 x y none f = some r) : ∃ k a b, x = .int k a ∧ y = .int k b ∧ f k a b = some r := by
  obtain ⟨k, a, rfl, h1⟩ := onInt_some (x := x) h
  have h2 : y.onInt none (fun k' b => pick (ikeq k k') (f k a b) none) = some r := h1
  obtain ⟨k', b, rfl, h3⟩ := onInt_some h2
  cases hk : ikeq k k' with
  | false => rw [hk] at h3; cases h3
  | true => rw [hk] at h3; have := ikeq_iff.1 hk; subst this; exact ⟨k, a, b, rfl, rfl, h3⟩
theorem nat2_some {β : Type} {a b : Int} {d : Option β} {f : Nat → Nat → Option β} {r : β} (h : nat2 a b d f = some r) :
    (∃ m n, a = Int.ofNat m ∧ b = Int.ofNat n ∧ f m n = some r) ∨ d = some r := by
  cases a <;> cases b <;> first | exact .inl ⟨_, _, rfl, rfl, h⟩ | exact .inr h
/-! ### Sums and their like -/
section
variable {P : Program} {σ : Sig} {t : TypeId} {x y v : AV} {vx vy : Value}
def Gives (P : Program) (s : Sem Value) (u : Value) : Prop := ∀ w, s.run P w = .ok u w
theorem den_int {k : IntKind} {n : Int} {u : Value} (h : den σ (.int k n) = some u) : u = .int k n := by simpa [den, eq_comm] using h
theorem den_str {s : List UInt8} {u : Value} (h : den σ (.str s) = some u) : u = .string ⟨s.toArray⟩ := by simpa [den, eq_comm] using h
theorem den_bool {s : Bool} {u : Value} (h : den σ (.bool s) = some u) : u = .bool s := by simpa [den, eq_comm] using h
theorem den_mkNat (k : IntKind) (r : Nat) : den σ (mkNat k r) = some (.int k (k.wrap (r : Int))) := by rw [mkNat_eq]; rfl
theorem aAdd_ok (h : aAdd x y = some v) (hx : den σ x = some vx) (hy : den σ y = some vy) : ∃ u, den σ v = some u ∧ Gives P (binOp .add t vx vy) u := by
  cases x with
  | int k a =>
    have h1 : y.onInt none (fun k' b => whenS (ikeq k k') (nat2 a b (some (.int k (k.wrap (a + b)))) fun a b => some (mkNat k (Nat.add a b)))) = some v := h
    obtain ⟨k', b, rfl, h2⟩ := onInt_some h1
    obtain ⟨hk, h3⟩ := whenS_some h2
    have := ikeq_iff.1 hk; subst this
    rw [den_int hx, den_int hy]
    refine ⟨.int k (k.wrap (a + b)), ?_, fun w => by simp [binOp, Op.intArith]⟩
    rcases nat2_some h3 with ⟨m, n, rfl, rfl, h4⟩ | h4
    · cases h4; rw [den_mkNat]; rfl
    · cases h4; rfl
  | str a =>
    have h1 : y.onStr none (fun b => whenS (Nat.blt (Nat.add (llen a) (llen b)) 9223372036854775808) (some (.str (lapp a b)))) = some v := h
    obtain ⟨b, rfl, h2⟩ := onStr_some h1
    obtain ⟨hk, h3⟩ := whenS_some h2
    cases h3
    have hlt := blt_iff.1 hk
    rw [llen_eq, llen_eq] at hlt
    rw [den_str hx, den_str hy]
    refine ⟨.string (⟨a.toArray⟩ ++ ⟨b.toArray⟩), ?_, fun w => ?_⟩
    · rw [lapp_eq]; simp [den]
      apply ByteArray.ext; simp
    · have hh : ¬ (((⟨a.toArray⟩ : ByteArray).size + (⟨b.toArray⟩ : ByteArray).size : Nat) : Int) > IntKind.i64.max := by
        have e1 : (⟨a.toArray⟩ : ByteArray).size = a.length := by simp [ByteArray.size]
        have e2 : (⟨b.toArray⟩ : ByteArray).size = b.length := by simp [ByteArray.size]
        rw [e1, e2]
        simp [IntKind.max, IntKind.signed, IntKind.bits]
        have : a.length + b.length < 9223372036854775808 := hlt
        omega
      simp only [binOp, Op.stringOp]
      rw [if_neg hh]; rfl
  | _ => exact nomatch (show (none : Option AV) = some v from h)
theorem aSub_ok (h : aSub x y = some v) (hx : den σ x = some vx) (hy : den σ y = some vy) : ∃ u, den σ v = some u ∧ Gives P (binOp .sub t vx vy) u := by
  obtain ⟨k, a, b, rfl, rfl, h1⟩ := int2_some h
  rw [den_int hx, den_int hy]
  refine ⟨.int k (k.wrap (a - b)), ?_, fun w => by simp [binOp, Op.intArith]⟩
  rcases nat2_some h1 with ⟨m, n, rfl, rfl, h2⟩ | h2
  · cases hb : Nat.ble n m with
    | true =>
      rw [hb] at h2; cases h2; rw [den_mkNat]
      have hle := ble_iff.1 hb
      have e : (Int.ofNat m - Int.ofNat n) = ((Nat.sub m n : Nat) : Int) := by show (m : Int) - n = ((m - n : Nat) : Int); omega
      rw [e]
    | false => rw [hb] at h2; cases h2; rfl
  · cases h2; rfl
theorem aMul_ok (h : aMul x y = some v) (hx : den σ x = some vx) (hy : den σ y = some vy) : ∃ u, den σ v = some u ∧ Gives P (binOp .mul t vx vy) u := by
  obtain ⟨k, a, b, rfl, rfl, h1⟩ := int2_some h
  rw [den_int hx, den_int hy]
  refine ⟨.int k (k.wrap (a * b)), ?_, fun w => by simp [binOp, Op.intArith]⟩
  rcases nat2_some h1 with ⟨m, n, rfl, rfl, h2⟩ | h2
  · cases h2; rw [den_mkNat]; rfl
  · cases h2
theorem aQuo_ok (h : aQuo x y = some v) (hx : den σ x = some vx) (hy : den σ y = some vy) : ∃ u, den σ v = some u ∧ Gives P (binOp .quo t vx vy) u := by
  obtain ⟨k, a, b, rfl, rfl, h1⟩ := int2_some h
  rw [den_int hx, den_int hy]
  rcases nat2_some h1 with ⟨m, n, rfl, rfl, h2⟩ | h2
  · cases hb : Nat.beq n 0 with
    | true => rw [hb] at h2; cases h2
    | false =>
      rw [hb] at h2; cases h2
      have hn := beq_false.1 hb
      refine ⟨.int k (k.wrap ((m / n : Nat) : Int)), den_mkNat _ _, fun w => ?_⟩
      have hn' : ¬ (Int.ofNat n = 0) := by simpa using hn
      simp only [binOp, Op.intDiv]
      simp [hn]
  · cases h2
theorem aRem_ok (h : aRem x y = some v) (hx : den σ x = some vx) (hy : den σ y = some vy) : ∃ u, den σ v = some u ∧ Gives P (binOp .rem t vx vy) u := by
  obtain ⟨k, a, b, rfl, rfl, h1⟩ := int2_some h
  rw [den_int hx, den_int hy]
  rcases nat2_some h1 with ⟨m, n, rfl, rfl, h2⟩ | h2
  · cases hb : Nat.beq n 0 with
    | true => rw [hb] at h2; cases h2
    | false =>
      rw [hb] at h2
      have h3 : some (force (Nat.mod m n) fun r => AV.int k (Int.ofNat r)) = some v := h2
      rw [force_eq] at h3; cases h3
      have hn := beq_false.1 hb
      refine ⟨.int k (Int.ofNat (m % n)), rfl, fun w => ?_⟩
      simp only [binOp, Op.intDiv]
      simp [hn, Int.tmod_eq_emod_of_nonneg]
  · cases h2
theorem aCmp_ok {op : BinOp} {fn : Nat → Nat → Bool} {fi : Int → Int → Bool} (hfn : ∀ m n : Nat, fn m n = fi m n)
    (hop : ∀ (k : IntKind) (a b : Int), Gives P (binOp op t (.int k a) (.int k b)) (.bool (fi a b)))
    (h : aCmp fn fi x y = some v) (hx : den σ x = some vx) (hy : den σ y = some vy) : ∃ u, den σ v = some u ∧ Gives P (binOp op t vx vy) u := by
  obtain ⟨k, a, b, rfl, rfl, h1⟩ := int2_some h
  rw [den_int hx, den_int hy]
  refine ⟨.bool (fi a b), ?_, hop k a b⟩
  rcases nat2_some h1 with ⟨m, n, rfl, rfl, h2⟩ | h2
  · cases h2; simp [den, hfn]
  · cases h2; rfl
end
end Go.Proofs.YtgemonlknehegaaGreatDoor.AI
namespace Go.Proofs.YtgemonlknehegaaGreatDoor.AI
open Go
set_option linter.unusedVariables false
set_option linter.unusedSimpArgs false
section
variable {P : Program} {σ : Sig} {t : TypeId} {x y v : AV} {vx vy : Value}
theorem bitsOf_eq (k : IntKind) : bitsOf k = k.bits := by cases k <;> decide
theorem bnd_le (k : IntKind) : bnd k ≤ 2 ^ k.bits := by cases k <;> decide
theorem bnd_pow (k : IntKind) : ∃ j, bnd k = 2 ^ j := by
  cases k
  · exact ⟨7, rfl⟩
  · exact ⟨15, rfl⟩
  · exact ⟨31, rfl⟩
  · exact ⟨63, rfl⟩
  · exact ⟨8, rfl⟩
  · exact ⟨16, rfl⟩
  · exact ⟨32, rfl⟩
  · exact ⟨64, rfl⟩
theorem ofInt_nat (w m : Nat) : BitVec.ofInt w (Int.ofNat m) = BitVec.ofNat w m := by
  apply BitVec.eq_of_toNat_eq; simp
theorem bits_ok {op : BinOp} {f : Nat → Nat → Nat} {g : (k : IntKind) → BitVec k.bits → BitVec k.bits → BitVec k.bits}
    (hg : ∀ (k : IntKind) (m n : Nat), m < 2 ^ k.bits → n < 2 ^ k.bits → (g k (BitVec.ofNat _ m) (BitVec.ofNat _ n)).toNat = f m n)
    (hb : ∀ (k : IntKind) (m n : Nat), m < bnd k → n < bnd k → f m n < bnd k)
    (hop : ∀ (k : IntKind) (a b : Int), Gives P (binOp op t (.int k a) (.int k b)) (.int k (k.wrap (g k (BitVec.ofInt k.bits a) (BitVec.ofInt k.bits b)).toNat)))
    (h : aBits f x y = some v) (hx : den σ x = some vx) (hy : den σ y = some vy) : ∃ u, den σ v = some u ∧ Gives P (binOp op t vx vy) u := by
  obtain ⟨k, a, b, rfl, rfl, h1⟩ := int2_some h
  rw [den_int hx, den_int hy]
  refine ⟨_, ?_, hop k a b⟩
  rcases nat2_some h1 with ⟨m, n, rfl, rfl, h2⟩ | h2
  · obtain ⟨hm, h3⟩ := whenS_some h2
    obtain ⟨hn, h4⟩ := whenS_some h3
    have hm' := blt_iff.1 hm
    have hn' := blt_iff.1 hn
    rw [force_eq] at h4; cases h4
    rw [ofInt_nat, ofInt_nat, hg k m n (Nat.lt_of_lt_of_le hm' (bnd_le k)) (Nat.lt_of_lt_of_le hn' (bnd_le k)), wrap_small (hb k m n hm' hn')]
    rfl
  · cases h2
theorem and_ok (h : aBits Nat.land x y = some v) (hx : den σ x = some vx) (hy : den σ y = some vy) : ∃ u, den σ v = some u ∧ Gives P (binOp .and t vx vy) u :=
  bits_ok (g := fun k a b => a &&& b)
    (fun k m n hm hn => by rw [BitVec.toNat_and, BitVec.toNat_ofNat, BitVec.toNat_ofNat, Nat.mod_eq_of_lt hm, Nat.mod_eq_of_lt hn]; try rfl)
    (fun k m n hm hn => Nat.lt_of_le_of_lt (Nat.and_le_left : m &&& n ≤ m) hm)
    (fun k a b w => by simp [binOp, Op.intBits]) h hx hy
theorem or_ok (h : aBits Nat.lor x y = some v) (hx : den σ x = some vx) (hy : den σ y = some vy) : ∃ u, den σ v = some u ∧ Gives P (binOp .or t vx vy) u :=
  bits_ok (g := fun k a b => a ||| b)
    (fun k m n hm hn => by rw [BitVec.toNat_or, BitVec.toNat_ofNat, BitVec.toNat_ofNat, Nat.mod_eq_of_lt hm, Nat.mod_eq_of_lt hn]; rfl)
    (fun k m n hm hn => by obtain ⟨j, hj⟩ := bnd_pow k; rw [hj] at hm hn ⊢; exact Nat.or_lt_two_pow hm hn)
    (fun k a b w => by simp [binOp, Op.intBits]) h hx hy
theorem xor_ok (h : aBits Nat.xor x y = some v) (hx : den σ x = some vx) (hy : den σ y = some vy) : ∃ u, den σ v = some u ∧ Gives P (binOp .xor t vx vy) u :=
  bits_ok (g := fun k a b => a ^^^ b)
    (fun k m n hm hn => by rw [BitVec.toNat_xor, BitVec.toNat_ofNat, BitVec.toNat_ofNat, Nat.mod_eq_of_lt hm, Nat.mod_eq_of_lt hn]; rfl)
    (fun k m n hm hn => by obtain ⟨j, hj⟩ := bnd_pow k; rw [hj] at hm hn ⊢; exact Nat.xor_lt_two_pow hm hn)
    (fun k a b w => by simp [binOp, Op.intBits]) h hx hy
theorem andNot_ok (h : aBits nAndNot x y = some v) (hx : den σ x = some vx) (hy : den σ y = some vy) : ∃ u, den σ v = some u ∧ Gives P (binOp .andNot t vx vy) u :=
  bits_ok (g := fun k a b => a &&& ~~~b)
    (fun k m n hm hn => by
      show _ = m ^^^ (m &&& n)
      apply Nat.eq_of_testBit_eq
      intro i
      rw [BitVec.testBit_toNat, BitVec.getLsbD_and, BitVec.getLsbD_not, Nat.testBit_xor, Nat.testBit_and, BitVec.getLsbD_ofNat, BitVec.getLsbD_ofNat]
      by_cases hi : i < k.bits
      · simp [hi]; cases m.testBit i <;> cases n.testBit i <;> rfl
      · have : m.testBit i = false := Nat.testBit_lt_two_pow (Nat.lt_of_lt_of_le hm (Nat.pow_le_pow_right (by omega) (by omega)))
        simp [hi, this])
    (fun k m n hm hn => by obtain ⟨j, hj⟩ := bnd_pow k; rw [hj] at hm hn ⊢; exact Nat.xor_lt_two_pow hm (Nat.lt_of_le_of_lt (Nat.and_le_left : m &&& n ≤ m) hm))
    (fun k a b w => by simp [binOp, Op.intBits]) h hx hy
theorem nmin_eq (a b : Nat) : nmin a b = min a b := by
  unfold nmin
  cases h : Nat.ble a b with
  | true => have := ble_iff.1 h; simp; omega
  | false => have := ble_false.1 h; simp; omega
theorem aShl_ok (h : aShl x y = some v) (hx : den σ x = some vx) (hy : den σ y = some vy) : ∃ u, den σ v = some u ∧ Gives P (binOp .shl t vx vy) u := by
  obtain ⟨k, a, rfl, h1⟩ := onInt_some (x := x) h
  have h2 : y.onInt none (fun _ b => nat2 a b none fun a b => some (mkNat k (Nat.mul a (Nat.pow 2 (nmin b (bitsOf k)))))) = some v := h1
  obtain ⟨k', b, rfl, h3⟩ := onInt_some h2
  rw [den_int hx, den_int hy]
  rcases nat2_some h3 with ⟨m, n, rfl, rfl, h4⟩ | h4
  · cases h4
    refine ⟨_, den_mkNat _ _, fun w => ?_⟩
    have e : ((Nat.mul m (Nat.pow 2 (nmin n (bitsOf k))) : Nat) : Int) = (m : Int) * 2 ^ (min n k.bits) := by
      rw [nmin_eq, bitsOf_eq]; show ((m * 2 ^ (min n k.bits) : Nat) : Int) = _; simp
    have hn : ¬ ((Int.ofNat n) < 0) := by simp
    simp only [binOp, Op.shift]
    rw [if_neg hn, e]
    simp
  · cases h4
theorem aShr_ok (h : aShr x y = some v) (hx : den σ x = some vx) (hy : den σ y = some vy) : ∃ u, den σ v = some u ∧ Gives P (binOp .shr t vx vy) u := by
  obtain ⟨k, a, rfl, h1⟩ := onInt_some (x := x) h
  have h2 : y.onInt none (fun _ b => nat2 a b none fun a b => some (force (Nat.div a (Nat.pow 2 (nmin b (bitsOf k)))) fun r => .int k (Int.ofNat r))) = some v := h1
  obtain ⟨k', b, rfl, h3⟩ := onInt_some h2
  rw [den_int hx, den_int hy]
  rcases nat2_some h3 with ⟨m, n, rfl, rfl, h4⟩ | h4
  · simp only [force_eq] at h4
    cases h4
    refine ⟨.int k (Int.ofNat (m / 2 ^ (min n k.bits))), by rw [nmin_eq, bitsOf_eq]; rfl, fun w => ?_⟩
    have e : (Int.ofNat m).fdiv (2 ^ (min n k.bits)) = Int.ofNat (m / 2 ^ (min n k.bits)) := by
      rw [Int.fdiv_eq_ediv_of_nonneg _ (by exact_mod_cast Nat.zero_le _)]
      simp
    have hn : ¬ ((Int.ofNat n) < 0) := by simp
    simp only [binOp, Op.shift]
    rw [if_neg hn, show (Int.ofNat n).toNat = n from rfl, e]
    simp
  · cases h4
theorem lss_ok (h : aCmp Nat.blt (fun a b => decide (a < b)) x y = some v) (hx : den σ x = some vx) (hy : den σ y = some vy) : ∃ u, den σ v = some u ∧ Gives P (binOp .lss t vx vy) u :=
  aCmp_ok (fun m n => by rw [Bool.eq_iff_iff, blt_iff]; simp) (fun k a b w => by simp [binOp, Op.intCmp]) h hx hy
theorem leq_ok (h : aCmp Nat.ble (fun a b => decide (a ≤ b)) x y = some v) (hx : den σ x = some vx) (hy : den σ y = some vy) : ∃ u, den σ v = some u ∧ Gives P (binOp .leq t vx vy) u :=
  aCmp_ok (fun m n => by rw [Bool.eq_iff_iff, ble_iff]; simp) (fun k a b w => by simp [binOp, Op.intCmp]) h hx hy
theorem gtr_ok (h : aCmp (fun a b => Nat.blt b a) (fun a b => decide (b < a)) x y = some v) (hx : den σ x = some vx) (hy : den σ y = some vy) : ∃ u, den σ v = some u ∧ Gives P (binOp .gtr t vx vy) u :=
  aCmp_ok (fun m n => by rw [Bool.eq_iff_iff, blt_iff]; simp) (fun k a b w => by simp [binOp, Op.intCmp]) h hx hy
theorem geq_ok (h : aCmp (fun a b => Nat.ble b a) (fun a b => decide (b ≤ a)) x y = some v) (hx : den σ x = some vx) (hy : den σ y = some vy) : ∃ u, den σ v = some u ∧ Gives P (binOp .geq t vx vy) u :=
  aCmp_ok (fun m n => by rw [Bool.eq_iff_iff, ble_iff]; simp) (fun k a b w => by simp [binOp, Op.intCmp]) h hx hy
/-! ### Parts of texts -/
theorem natOf_some {v : AV} {n : Nat} (h : natOf v = some n) : ∃ k, v = .int k (Int.ofNat n) := by
  obtain ⟨k, a, rfl, h1⟩ := onInt_some (x := v) h
  cases a with
  | ofNat m => cases h1; exact ⟨k, rfl⟩
  | negSucc m => cases h1
end
end Go.Proofs.YtgemonlknehegaaGreatDoor.AI
namespace Go.Proofs.YtgemonlknehegaaGreatDoor.AI
open Go
set_option linter.unusedVariables false
set_option linter.unusedSimpArgs false
section
variable {P : Program} {σ : Sig}
theorem run_isAggD {t : TypeId} {d : TypeDesc} (h : P.underlying t = some d) (w : World) : (isAgg t).run P w = .ok (isAggD d) w := by
  simp only [isAgg, Sem.run_bind, run_underlying h, Result.andThen_ok]
  cases d <;> rfl
theorem run_sizeOfI {t : TypeId} {i : TypeInfo} (h : P.info? t = some i) (w : World) : (sizeOf t).run P w = .ok i.size w := by
  simp [sizeOf, typeInfo, h]
theorem info_of_und {t : TypeId} {d : TypeDesc} (h : P.underlying t = some d) : ∃ i, P.info? t = some i := by
  unfold Program.underlying at h
  cases hi : P.info? t with
  | none => rw [hi] at h; cases h
  | some i => exact ⟨i, rfl⟩
theorem part_ok {t : TypeId} {d : TypeDesc} {i : TypeInfo} (hu : P.underlying t = some d) (hi : P.info? t = some i) {cs : List AV} {vs : List Value} (hd : denL σ cs = some vs)
    {off : Nat} {a : AV} (h : part cs off (if isAggD d then some i.size else none) = some a) : ∃ u, den σ a = some u ∧ ∀ w, (Go.part t vs.toArray off).run P w = .ok u w := by
  cases hg : isAggD d with
  | true =>
    rw [hg, if_pos rfl] at h
    obtain ⟨l, h1, h2⟩ := bindS_some (show bindS (ltake i.size (ldrop off cs)) (fun l => some (AV.agg l)) = some a from h)
    cases h2
    obtain ⟨hle, rfl⟩ := ltake_some h1
    rw [ldrop_eq] at hle ⊢
    refine ⟨.agg ((vs.drop off).take i.size).toArray, by simp only [den, denL_take _ (denL_drop _ hd)], fun w => ?_⟩
    simp only [Go.part, Sem.run_bind, run_isAggD hu, hg, Result.andThen_ok, if_true, run_sizeOfI hi, Sem.run_pure]
    congr 2
    apply Array.ext'
    simp [List.take_drop]
  | false =>
    rw [hg] at h
    have h1 : lget cs off = some a := h
    rw [lget_eq] at h1
    obtain ⟨u, hu', hv⟩ := denL_get hd h1
    refine ⟨u, hu', fun w => ?_⟩
    simp only [Go.part, Sem.run_bind, run_isAggD hu, hg, Result.andThen_ok, Bool.false_eq_true, if_false]
    have : vs.toArray[off]? = some u := by simpa using hv
    rw [this]; rfl
/-- what the interpreter tells of an equality is what the model tells -/
def EqOk (P : Program) (σ : Sig) (e n : Nat) (t : TypeId) (k : EqK) : Prop :=
  ∀ x y vx vy b, aeq e k x y = some b → den σ x = some vx → den σ y = some vy → ∀ w, (Op.equalIn n t vx vy).run P w = .ok b w
theorem eqFields_ok {e n : Nat} {q : TypeId → Option EqK} (hq : ∀ t k, q t = some k → EqOk P σ e n t k) {xs ys : List AV} {vx vy : List Value}
    (hx : denL σ xs = some vx) (hy : denL σ ys = some vy) : ∀ (fs : List Field) (L : List (Nat × Option Nat × EqK)) (b : Bool), eqFields P q fs = some L → eqL (aeq e) L xs ys = some b →
    ∀ w, (Op.eqFields n vx.toArray vy.toArray fs).run P w = .ok b w
  | [], L, b, hL, hb, w => by
    cases hL; cases hb; simp [Op.eqFields]
  | f :: fs, L, b, hL, hb, w => by
    unfold eqFields at hL
    by_cases hn : f.name = "_"
    · rw [if_pos hn] at hL; cases hL
    · rw [if_neg hn] at hL
      split at hL
      · rename_i d i k r hu hi hk hr
        cases hL
        unfold eqL at hb
        obtain ⟨a, ha, hb⟩ := bindS_some hb
        obtain ⟨c, hc, hb⟩ := bindS_some hb
        obtain ⟨r', hr', hb⟩ := bindS_some hb
        obtain ⟨ua, dua, pa⟩ := part_ok hu hi hx ha
        obtain ⟨uc, duc, pc⟩ := part_ok hu hi hy hc
        have heq := hq f.type k hk a c ua uc r' hr' dua duc w
        simp only [Op.eqFields, hn, ne_eq, not_false_eq_true, if_true, Sem.run_bind, pa, pc, heq, Result.andThen_ok]
        cases r' with
        | true => simpa using eqFields_ok hq hx hy fs r b hr hb w
        | false => cases hb; simp
      · cases hL
theorem eqInt_ok {x y : AV} {vx vy : Value} {b : Bool} {n : Nat} {t : TypeId} {k : IntKind} (hu : P.underlying t = some (.int k)) (h : eqInt x y = some b) (hx : den σ x = some vx) (hy : den σ y = some vy) (w : World) :
    (Op.equalIn (n + 1) t vx vy).run P w = .ok b w := by
  obtain ⟨q, a, c, rfl, rfl, h1⟩ := int2_some h
  rw [den_int hx, den_int hy, run_equalIn_int w n t q k a c hu]
  rcases nat2_some h1 with ⟨m, m', rfl, rfl, h2⟩ | h2
  · cases h2
    congr 1
    rw [Bool.eq_iff_iff, beq_iff]; simp; omega
  · cases h2; rfl
theorem onRef_some {β : Type} {x : AV} {f : NK → Option β} {g : Pos → Nat → Option β} {r : β} (h : x.onRef none f g = some r) : (∃ k, x = .nil k ∧ f k = some r) ∨ (∃ b o, x = .ptr b o ∧ g b o = some r) := by
  cases x <;> first | exact .inl ⟨_, rfl, h⟩ | exact .inr ⟨_, _, rfl, h⟩ | cases h
theorem onSl_some {β : Type} {x : AV} {f : NK → Option β} {g : Pos → Nat → Nat → ACap → Option β} {e : Pos → Nat → Nat → Nat → Nat → Option β} {r : β} (h : x.onSl none f g e = some r) :
    (∃ k, x = .nil k ∧ f k = some r) ∨ (∃ b o l c, x = .slice b o l c ∧ g b o l c = some r) ∨ (∃ b o k l s, x = .etail b o k l s ∧ e b o k l s = some r) := by
  cases x <;> first | exact .inl ⟨_, rfl, h⟩ | exact .inr (.inl ⟨_, _, _, _, rfl, h⟩) | exact .inr (.inr ⟨_, _, _, _, _, rfl, h⟩) | cases h
theorem onMp_some {β : Type} {x : AV} {f : NK → Option β} {g : Pos → Option β} {r : β} (h : x.onMp none f g = some r) : (∃ k, x = .nil k ∧ f k = some r) ∨ (∃ b, x = .map b ∧ g b = some r) := by
  cases x <;> first | exact .inl ⟨_, rfl, h⟩ | exact .inr ⟨_, rfl, h⟩ | cases h
theorem den_nil {k : NK} {u : Value} (h : den σ (.nil k) = some u) : u = nilOf k := by simpa [den, eq_comm] using h
theorem den_ptr {b : Pos} {o : Nat} {u : Value} (h : den σ (.ptr b o) = some u) : ∃ l, σ b = some l ∧ u = .pointer (some (l.addr o)) := by
  cases hb : σ b with
  | none => simp [den, hb] at h
  | some l => simp [den, hb] at h; exact ⟨l, rfl, h.symm⟩
theorem den_slice {b : Pos} {o n : Nat} {c : ACap} {u : Value} (h : den σ (.slice b o n c) = some u) : ∃ l, σ b = some l ∧ u = .slice (some (l.addr o)) n (capOf l c) := by
  cases hb : σ b with
  | none => simp [den, hb] at h
  | some l => simp [den, hb] at h; exact ⟨l, rfl, h.symm⟩
theorem den_etail {b : Pos} {o k n s : Nat} {u : Value} (h : den σ (.etail b o k n s) = some u) : ∃ l, σ b = some l ∧ u = .slice (some (l.addr (if l.cap - k = n then o else o + n * s))) 0 (l.cap - k - n) := by
  cases hb : σ b with
  | none => simp [den, hb] at h
  | some l => simp [den, hb] at h; exact ⟨l, rfl, h.symm⟩
theorem den_map {b : Pos} {u : Value} (h : den σ (.map b) = some u) : ∃ l, σ b = some l ∧ u = .map (some l.blk) := by
  cases hb : σ b with
  | none => simp [den, hb] at h
  | some l => simp [den, hb] at h; exact ⟨l, rfl, h.symm⟩
theorem den_func {f : FuncId} {a c : List AV} {u : Value} (h : den σ (.func f a c) = some u) : ∃ va vc, denL σ a = some va ∧ denL σ c = some vc ∧ u = .func (.func f) va.toArray vc.toArray := by
  cases ha : denL σ a with
  | none => simp [den, ha] at h
  | some va => cases hc : denL σ c with
    | none => simp [den, ha, hc] at h
    | some vc => simp [den, ha, hc] at h; exact ⟨va, vc, rfl, rfl, h.symm⟩
theorem den_yield {b : Pos} {u : Value} (h : den σ (.yield b) = some u) : ∃ l, σ b = some l ∧ u = .func (.yield l.blk) #[] #[] := by
  cases hb : σ b with
  | none => simp [den, hb] at h
  | some l => simp [den, hb] at h; exact ⟨l, rfl, h.symm⟩
theorem den_agg {l : List AV} {u : Value} (h : den σ (.agg l) = some u) : ∃ vs, denL σ l = some vs ∧ u = .agg vs.toArray := by
  cases hl : denL σ l with
  | none => simp [den, hl] at h
  | some vs => simp [den, hl] at h; exact ⟨vs, rfl, h.symm⟩
theorem den_tuple {l : List AV} {u : Value} (h : den σ (.tuple l) = some u) : ∃ vs, denL σ l = some vs ∧ u = .tuple vs.toArray := by
  cases hl : denL σ l with
  | none => simp [den, hl] at h
  | some vs => simp [den, hl] at h; exact ⟨vs, rfl, h.symm⟩
theorem eqPtr_ok {x y : AV} {vx vy : Value} {b : Bool} {n : Nat} {t e : TypeId} {i : TypeInfo} (hu : P.underlying t = some (.pointer e)) (hi : P.info? e = some i) (h0 : i.size ≠ 0)
    (h : eqPtr x y = some b) (hx : den σ x = some vx) (hy : den σ y = some vy) (w : World) : (Op.equalIn (n + 1) t vx vy).run P w = .ok b w := by
  rcases onRef_some (x := x) h with ⟨k, rfl, h1⟩ | ⟨bx, ox, rfl, h1⟩
  · obtain ⟨hk, h2⟩ := whenS_some h1
    have := NK.no_iff.1.1 hk; subst this
    rw [den_nil hx]
    rcases onRef_some (x := y) h2 with ⟨k, rfl, h3⟩ | ⟨by_, oy, rfl, h3⟩
    · obtain ⟨hk, h4⟩ := whenS_some h3
      have := NK.no_iff.1.1 hk; subst this
      rw [den_nil hy]; cases h4
      simp [Op.equalIn, run_underlying hu, nilOf]
    · obtain ⟨l, _, rfl⟩ := den_ptr hy
      cases h3
      simp [Op.equalIn, run_underlying hu, nilOf]
  · obtain ⟨l, hl, rfl⟩ := den_ptr hx
    rcases onRef_some (x := y) h1 with ⟨k, rfl, h3⟩ | ⟨by_, oy, rfl, h3⟩
    · obtain ⟨hk, h4⟩ := whenS_some h3
      have := NK.no_iff.1.1 hk; subst this
      rw [den_nil hy]; cases h4
      simp [Op.equalIn, run_underlying hu, nilOf]
    · obtain ⟨hb, h4⟩ := whenS_some h3
      have := Pos.eq_of_beq hb; subst this
      obtain ⟨l', hl', rfl⟩ := den_ptr hy
      rw [hl] at hl'; cases hl'
      cases h4
      simp [Op.equalIn, run_underlying hu, run_sizeOfI hi, h0, sameAddr, Loc.addr]
      rw [Bool.eq_iff_iff, beq_iff]
      simp
theorem eqSlice_ok {x y : AV} {vx vy : Value} {b : Bool} {n : Nat} {t e : TypeId} (hu : P.underlying t = some (.slice e))
    (h : eqSlice x y = some b) (hx : den σ x = some vx) (hy : den σ y = some vy) (w : World) : (Op.equalIn (n + 1) t vx vy).run P w = .ok b w := by
  rcases onSl_some (x := x) h with ⟨k, rfl, h1⟩ | ⟨b1, o1, l1, c1, rfl, h1⟩ | ⟨b1, o1, k1, l1, s1, rfl, h1⟩
  · obtain ⟨hk, h2⟩ := whenS_some h1
    have := NK.no_iff.2.1.1 hk; subst this
    rw [den_nil hx]
    rcases onSl_some (x := y) h2 with ⟨k, rfl, h3⟩ | ⟨b2, o2, l2, c2, rfl, h3⟩ | ⟨b2, o2, k2, l2, s2, rfl, h3⟩
    · obtain ⟨hk, h4⟩ := whenS_some h3
      have := NK.no_iff.2.1.1 hk; subst this
      rw [den_nil hy]; cases h4
      simp [Op.equalIn, run_underlying hu, nilOf]
    · obtain ⟨l, _, rfl⟩ := den_slice hy
      cases h3; simp [Op.equalIn, run_underlying hu, nilOf]
    · obtain ⟨l, _, rfl⟩ := den_etail hy
      cases h3; simp [Op.equalIn, run_underlying hu, nilOf]
  · obtain ⟨l, _, rfl⟩ := den_slice hx
    obtain ⟨k, rfl, h3⟩ := onNil_some h1
    obtain ⟨hk, h4⟩ := whenS_some h3
    have := NK.no_iff.2.1.1 hk; subst this
    rw [den_nil hy]; cases h4
    simp [Op.equalIn, run_underlying hu, nilOf]
  · obtain ⟨l, _, rfl⟩ := den_etail hx
    obtain ⟨k, rfl, h3⟩ := onNil_some h1
    obtain ⟨hk, h4⟩ := whenS_some h3
    have := NK.no_iff.2.1.1 hk; subst this
    rw [den_nil hy]; cases h4
    simp [Op.equalIn, run_underlying hu, nilOf]
theorem eqMap_ok {x y : AV} {vx vy : Value} {b : Bool} {n : Nat} {t e e' : TypeId} (hu : P.underlying t = some (.map e e'))
    (h : eqMap x y = some b) (hx : den σ x = some vx) (hy : den σ y = some vy) (w : World) : (Op.equalIn (n + 1) t vx vy).run P w = .ok b w := by
  rcases onMp_some (x := x) h with ⟨k, rfl, h1⟩ | ⟨b1, rfl, h1⟩
  · obtain ⟨hk, h2⟩ := whenS_some h1
    have := NK.no_iff.2.2.1.1 hk; subst this
    rw [den_nil hx]
    rcases onMp_some (x := y) h2 with ⟨k, rfl, h3⟩ | ⟨b2, rfl, h3⟩
    · obtain ⟨hk, h4⟩ := whenS_some h3
      have := NK.no_iff.2.2.1.1 hk; subst this
      rw [den_nil hy]; cases h4
      simp [Op.equalIn, run_underlying hu, nilOf]
    · obtain ⟨l, _, rfl⟩ := den_map hy
      cases h3; simp [Op.equalIn, run_underlying hu, nilOf]
  · obtain ⟨l, _, rfl⟩ := den_map hx
    obtain ⟨k, rfl, h3⟩ := onNil_some h1
    obtain ⟨hk, h4⟩ := whenS_some h3
    have := NK.no_iff.2.2.1.1 hk; subst this
    rw [den_nil hy]; cases h4
    simp [Op.equalIn, run_underlying hu, nilOf]
theorem eqFunc_ok {x y : AV} {vx vy : Value} {b : Bool} {n : Nat} {t : TypeId} {ps rs : Array TypeId} {va : Bool} (hu : P.underlying t = some (.func ps rs va))
    (h : eqFunc x y = some b) (hx : den σ x = some vx) (hy : den σ y = some vy) (w : World) : (Op.equalIn (n + 1) t vx vy).run P w = .ok b w := by
  cases x with
  | nil k =>
    obtain ⟨hk, h2⟩ := whenS_some (show whenS (Nat.beq k.no 3) (y.onNil (y.onFunc none fun _ _ _ => some false) fun k' => whenS (Nat.beq k'.no 3) (some true)) = some b from h)
    have := NK.no_iff.2.2.2.1 hk; subst this
    rw [den_nil hx]
    cases y with
    | nil k' =>
      obtain ⟨hk, h4⟩ := whenS_some (show whenS (Nat.beq k'.no 3) (some true) = some b from h2)
      have := NK.no_iff.2.2.2.1 hk; subst this
      rw [den_nil hy]; cases h4
      simp [Op.equalIn, run_underlying hu, nilOf]
    | func f a c =>
      obtain ⟨va, vc, _, _, rfl⟩ := den_func hy
      have : some false = some b := h2
      cases this; simp [Op.equalIn, run_underlying hu, nilOf]
    | _ => exact nomatch (show (none : Option Bool) = some b from h2)
  | func f a c =>
    obtain ⟨va, vc, _, _, rfl⟩ := den_func hx
    obtain ⟨k, rfl, h3⟩ := onNil_some (show y.onNil none (fun k' => whenS (Nat.beq k'.no 3) (some false)) = some b from h)
    obtain ⟨hk, h4⟩ := whenS_some h3
    have := NK.no_iff.2.2.2.1 hk; subst this
    rw [den_nil hy]; cases h4
    simp [Op.equalIn, run_underlying hu, nilOf]
  | _ => exact nomatch (show (none : Option Bool) = some b from h)
theorem compileEq_ok : ∀ (d n e : Nat) (t : TypeId) (k : EqK), compileEq P d t = some k → d ≤ n → EqOk P σ e n t k
  | 0, _, _, _, _, h, _ => by cases h
  | d + 1, 0, _, _, _, _, h => by omega
  | d + 1, n + 1, 0, t, k, h, hn => fun x y vx vy b hb _ _ _ => by cases hb
  | d + 1, n + 1, e + 1, t, k, h, hn => by
    intro x y vx vy b hb hx hy w
    unfold compileEq at h
    split at h
    · rename_i hu; cases h
      have hb1 : x.onBool none (fun a => y.onBool none fun b => some (beqv a b)) = some b := hb
      obtain ⟨p, rfl, hb2⟩ := onBool_some hb1
      obtain ⟨q, rfl, hb3⟩ := onBool_some hb2
      rw [den_bool hx, den_bool hy, run_equalIn_bool' w n t p q hu]
      cases hb3; rw [beqv_iff]
    · rename_i k' hu; cases h; exact eqInt_ok hu (show eqInt x y = some b from hb) hx hy w
    · rename_i hu; cases h
      have hb1 : x.onStr none (fun a => y.onStr none fun b => some (beqB a b)) = some b := hb
      obtain ⟨p, rfl, hb2⟩ := onStr_some hb1
      obtain ⟨q, rfl, hb3⟩ := onStr_some hb2
      rw [den_str hx, den_str hy, run_equalIn_string w n t _ _ hu]
      cases hb3
      rw [beqB_eq, ByteArray.toList_eq, ByteArray.toList_eq]
    · rename_i e' hu
      split at h
      · rename_i i hi
        by_cases h0 : i.size = 0
        · rw [if_pos h0] at h; cases h
        · rw [if_neg h0] at h; cases h; exact eqPtr_ok hu hi h0 (show eqPtr x y = some b from hb) hx hy w
      · cases h
    · rename_i e' hu; cases h; exact eqSlice_ok hu (show eqSlice x y = some b from hb) hx hy w
    · rename_i e' e'' hu; cases h; exact eqMap_ok hu (show eqMap x y = some b from hb) hx hy w
    · rename_i ps rs va hu; cases h; exact eqFunc_ok hu (show eqFunc x y = some b from hb) hx hy w
    · rename_i fs hu
      by_cases hs : P.stoodInHeld t = true
      · rw [if_pos hs] at h; cases h
      · rw [if_neg hs] at h
        have hs' : P.stoodInHeld t = false := by simpa using hs
        cases hL : eqFields P (compileEq P d) fs.toList with
        | none => rw [hL] at h; cases h
        | some L =>
          rw [hL] at h; cases h
          have hb1 : x.onAgg none (fun xs => y.onAgg none fun ys => eqL (aeq e) L xs ys) = some b := hb
          obtain ⟨xs, rfl, hb2⟩ := onAgg_some hb1
          obtain ⟨ys, rfl, hb3⟩ := onAgg_some hb2
          obtain ⟨wx, hwx, rfl⟩ := den_agg hx
          obtain ⟨wy, hwy, rfl⟩ := den_agg hy
          have hfs : P.fieldsOf t = fs := by simp [Program.fieldsOf, hu]
          rw [run_equalIn_struct w n t _ _ (by rw [hfs]; exact hu) hs', hfs]
          exact eqFields_ok (fun t' k' hk' => compileEq_ok d n e t' k' hk' (by omega)) hwx hwy fs.toList L b hL hb3 w
    · cases h
end
end Go.Proofs.YtgemonlknehegaaGreatDoor.AI
namespace Go.Proofs.YtgemonlknehegaaGreatDoor.AI
open Go
set_option linter.unusedVariables false
set_option linter.unusedSimpArgs false
section
variable {P : Program} {σ : Sig} {t : Tm} {a : Act}
/-- what an operation gives that looks at no memory -/
def GivesOp (P : Program) (ρ : Operand → Value) (o : Oper) (u : Value) : Prop := ∀ w, (execOp ρ o).run P w = .ok (.value u) w
theorem gives_bin {ρ : Operand → Value} {dst ty pos after guard} {op : BinOp} {ti yt : TypeId} {x y : Operand} {u : Value} (hne : op ≠ .eql ∧ op ≠ .neq)
    (h : Gives P (binOp op ti (ρ x) (ρ y)) u) : GivesOp P ρ ⟨dst, .binOp op ti x y yt, ty, pos, after, guard⟩ u := fun w => by
  cases op <;> first | exact absurd rfl hne.1 | exact absurd rfl hne.2 | simp [execOp, eqGuard, h w]
theorem gives_eq {ρ : Operand → Value} {dst ty pos after guard} {op : BinOp} {ti yt : TypeId} {x y : Operand} {u : Value}
    (hg : ∀ w, (eqGuard op ti x y (ρ x) (ρ y)).run P w = .ok () w)
    (h : Gives P (binOp op ti (ρ x) (ρ y)) u) : GivesOp P ρ ⟨dst, .binOp op ti x y yt, ty, pos, after, guard⟩ u := fun w => by
  simp only [execOp, Sem.run_bind, hg, Sem.run_pure, Result.andThen_ok, h w]
theorem eqGuard_ok {op : BinOp} {ti : TypeId} {x y : Operand} {vx vy : Value} (hm : P.eqGuardType P.depth ti = false) (hn : vx ≠ .nilIface) (w : World) :
    (eqGuard op ti x y vx vy).run P w = .ok () w := by
  have key : ∀ op, (op = .eql ∨ op = .neq) → (eqGuard op ti x y vx vy).run P w = .ok () w := fun op ho => by
    cases vx with
    | nilIface => exact absurd rfl hn
    | agg xs => cases vy with
      | agg ys => exact run_eqGuard_agg w op ti x y xs ys hm
      | _ => rcases ho with rfl | rfl <;> rfl
    | _ => rcases ho with rfl | rfl <;> rfl
  cases op <;> first | exact key _ (.inl rfl) | exact key _ (.inr rfl) | rfl
/-- an equality is never of interfaces -/
theorem aeq_notIface {d : Nat} {k : EqK} {x y : AV} {b : Bool} (h : aeq d k x y = some b) {vx : Value} (hx : den σ x = some vx) : vx ≠ .nilIface := by
  intro e; subst e
  cases x with
  | nil q =>
    have hq := den_nil hx
    have : q = .i := by cases q <;> simp [nilOf] at hq <;> rfl
    subst this
    cases d with
    | zero => cases h
    | succ d =>
      cases k with
      | bool => exact nomatch (show (none : Option Bool) = some b from h)
      | int => exact nomatch (show (none : Option Bool) = some b from h)
      | str => exact nomatch (show (none : Option Bool) = some b from h)
      | ptr => exact nomatch (show (none : Option Bool) = some b from h)
      | slice => exact nomatch (show (none : Option Bool) = some b from h)
      | map => exact nomatch (show (none : Option Bool) = some b from h)
      | func => exact nomatch (show (none : Option Bool) = some b from h)
      | struct fs => exact nomatch (show (none : Option Bool) = some b from h)
  | bad => simp [den] at hx
  | bool _ => simp [den] at hx
  | int _ _ => simp [den] at hx
  | str _ => simp [den] at hx
  | ptr _ _ => obtain ⟨_, _, e⟩ := den_ptr hx; cases e
  | slice _ _ _ _ => obtain ⟨_, _, e⟩ := den_slice hx; cases e
  | etail _ _ _ _ _ => obtain ⟨_, _, e⟩ := den_etail hx; cases e
  | map _ => obtain ⟨_, _, e⟩ := den_map hx; cases e
  | func _ _ _ => obtain ⟨_, _, _, _, e⟩ := den_func hx; cases e
  | yield _ => obtain ⟨_, _, e⟩ := den_yield hx; cases e
  | agg _ => obtain ⟨_, _, e⟩ := den_agg hx; cases e
  | tuple _ => obtain ⟨_, _, e⟩ := den_tuple hx; cases e
def NotNum : Value → Prop
  | .int _ _ | .float _ _ | .complex _ _ _ | .string _ => False
  | _ => True
theorem eql_other (ti : TypeId) (vx vy : Value) (h : NotNum vx) :
    binOp .eql ti vx vy = (do pure (.bool (← Op.equal ti vx vy))) ∧ binOp .neq ti vx vy = (do pure (.bool (!(← Op.equal ti vx vy)))) := by
  cases vx <;> first | exact h.elim | (cases vy <;> exact ⟨rfl, rfl⟩)
theorem gives_eql {ti : TypeId} {k : EqK} {x y : AV} {vx vy : Value} {b : Bool} (hk : compileEq P 5 ti = some k) (h : aeq 5 k x y = some b) (hx : den σ x = some vx) (hy : den σ y = some vy) :
    Gives P (binOp .eql ti vx vy) (.bool b) ∧ Gives P (binOp .neq ti vx vy) (.bool (bnot b)) := by
  have he : ∀ w, (Op.equalIn 10000 ti vx vy).run P w = .ok b w := compileEq_ok (σ := σ) 5 10000 5 ti k hk (by omega) x y vx vy b h hx hy
  rw [bnot_eq]
  have other : NotNum vx → Gives P (binOp .eql ti vx vy) (.bool b) ∧ Gives P (binOp .neq ti vx vy) (.bool !b) := fun hv => by
    rw [(eql_other ti vx vy hv).1, (eql_other ti vx vy hv).2]
    constructor <;> intro w <;> simp [Op.equal, Op.maxDepth, he]
  cases x with
  | int q m =>
    have hi : eqInt (.int q m) y = some b := by
      cases k with
      | int => exact h
      | bool => exact nomatch (show (none : Option Bool) = some b from h)
      | str => exact nomatch (show (none : Option Bool) = some b from h)
      | ptr => exact nomatch (show (none : Option Bool) = some b from h)
      | slice => exact nomatch (show (none : Option Bool) = some b from h)
      | map => exact nomatch (show (none : Option Bool) = some b from h)
      | func => exact nomatch (show (none : Option Bool) = some b from h)
      | struct fs => exact nomatch (show (none : Option Bool) = some b from h)
    obtain ⟨q', m', n', e1, rfl, h1⟩ := int2_some hi
    cases e1
    have hb : b = (m == n') := by
      rcases nat2_some h1 with ⟨i, j, rfl, rfl, h2⟩ | h2
      · cases h2; rw [Bool.eq_iff_iff, beq_iff]; simp; omega
      · cases h2; rfl
    rw [den_int hx, den_int hy, hb]
    constructor <;> intro w <;> simp [binOp, Op.intCmp, bne]
  | str s =>
    have hi : y.onStr none (fun c => some (beqB s c)) = some b := by
      cases k with
      | str => exact h
      | bool => exact nomatch (show (none : Option Bool) = some b from h)
      | int => exact nomatch (show (none : Option Bool) = some b from h)
      | ptr => exact nomatch (show (none : Option Bool) = some b from h)
      | slice => exact nomatch (show (none : Option Bool) = some b from h)
      | map => exact nomatch (show (none : Option Bool) = some b from h)
      | func => exact nomatch (show (none : Option Bool) = some b from h)
      | struct fs => exact nomatch (show (none : Option Bool) = some b from h)
    obtain ⟨s', rfl, h1⟩ := onStr_some hi
    cases h1
    rw [den_str hx, den_str hy, beqB_eq]
    constructor <;> intro w <;> simp [binOp, Op.stringOp, ByteArray.toList_eq]
  | bad => simp [den] at hx
  | bool _ => exact other (by rw [den_bool hx]; trivial)
  | nil q => exact other (by rw [den_nil hx]; cases q <;> trivial)
  | ptr _ _ => obtain ⟨_, _, e⟩ := den_ptr hx; exact other (by rw [e]; trivial)
  | slice _ _ _ _ => obtain ⟨_, _, e⟩ := den_slice hx; exact other (by rw [e]; trivial)
  | etail _ _ _ _ _ => obtain ⟨_, _, e⟩ := den_etail hx; exact other (by rw [e]; trivial)
  | map _ => obtain ⟨_, _, e⟩ := den_map hx; exact other (by rw [e]; trivial)
  | func _ _ _ => obtain ⟨_, _, _, _, e⟩ := den_func hx; exact other (by rw [e]; trivial)
  | yield _ => obtain ⟨_, _, e⟩ := den_yield hx; exact other (by rw [e]; trivial)
  | agg _ => obtain ⟨_, _, e⟩ := den_agg hx; exact other (by rw [e]; trivial)
  | tuple _ => obtain ⟨_, _, e⟩ := den_tuple hx; exact other (by rw [e]; trivial)
theorem aeq_left {d : Nat} {k : EqK} {x y : AV} {b : Bool} (h : aeq d k x y = some b) {vx : Value} (hx : den σ x = some vx) : vx ≠ .nilIface := aeq_notIface h hx
/-- the operations of two operands -/
theorem bin_ok {op : BinOp} {ti yt : TypeId} {x y : Operand} {f : Tm → Option AV} {v : AV} (hc : compileBin P op ti x y = .pure f) (ht : TR σ t a.tmps) (hx : okOpd x = true) (hy : okOpd y = true)
    (h : f t = some v) (dst ty pos after guard) : ∃ u, den σ v = some u ∧ GivesOp P a.eval ⟨dst, .binOp op ti x y yt, ty, pos, after, guard⟩ u := by
  have dx := opd_ok (a := a) ht hx
  have dy := opd_ok (a := a) ht hy
  have fin : ∀ {op : BinOp}, op ≠ .eql ∧ op ≠ .neq → (∃ u, den σ v = some u ∧ Gives P (binOp op ti (a.eval x) (a.eval y)) u) →
      ∃ u, den σ v = some u ∧ GivesOp P a.eval ⟨dst, .binOp op ti x y yt, ty, pos, after, guard⟩ u := fun hne ⟨u, h1, h2⟩ => ⟨u, h1, gives_bin hne h2⟩
  cases op with
  | add => cases hc; exact fin (by simp) (aAdd_ok h dx dy)
  | sub => cases hc; exact fin (by simp) (aSub_ok h dx dy)
  | mul => cases hc; exact fin (by simp) (aMul_ok h dx dy)
  | quo => cases hc; exact fin (by simp) (aQuo_ok h dx dy)
  | rem => cases hc; exact fin (by simp) (aRem_ok h dx dy)
  | and => cases hc; exact fin (by simp) (and_ok h dx dy)
  | or => cases hc; exact fin (by simp) (or_ok h dx dy)
  | xor => cases hc; exact fin (by simp) (xor_ok h dx dy)
  | andNot => cases hc; exact fin (by simp) (andNot_ok h dx dy)
  | shl => cases hc; exact fin (by simp) (aShl_ok h dx dy)
  | shr => cases hc; exact fin (by simp) (aShr_ok h dx dy)
  | lss => cases hc; exact fin (by simp) (lss_ok h dx dy)
  | leq => cases hc; exact fin (by simp) (leq_ok h dx dy)
  | gtr => cases hc; exact fin (by simp) (gtr_ok h dx dy)
  | geq => cases hc; exact fin (by simp) (geq_ok h dx dy)
  | eql =>
    simp only [compileBin] at hc
    split at hc
    · rename_i q hg hq; cases hc
      obtain ⟨b, hb, e⟩ := bindS_some h
      cases e
      exact ⟨.bool b, rfl, gives_eq (eqGuard_ok hg (aeq_notIface hb dx)) (gives_eql hq hb dx dy).1⟩
    · cases hc
  | neq =>
    simp only [compileBin] at hc
    split at hc
    · rename_i q hg hq; cases hc
      obtain ⟨b, hb, e⟩ := bindS_some h
      cases e
      exact ⟨.bool (bnot b), rfl, gives_eq (eqGuard_ok hg (aeq_notIface hb dx)) (gives_eql hq hb dx dy).2⟩
    · cases hc
end
end Go.Proofs.YtgemonlknehegaaGreatDoor.AI
