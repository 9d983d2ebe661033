/- The chain of TopRefuses, part 4. -/
import Derived.Test.YtgemonlknehegaaGreatDoorK03
import Derived.Laws.Tables
import Derived.Laws.Cells
namespace Go.Proofs.YtgemonlknehegaaGreatDoor.AI
open Go
set_option linter.unusedVariables false
set_option linter.unusedSimpArgs false
section
variable {P : Program} {σ : Sig} {t : Tm} {a : Act}
/-! ### Parts laid into cells -/
theorem foldl_seg (off : Nat) : ∀ (vs : List Value) (k : Nat) (cells : Array Value), off + k + vs.length ≤ cells.size →
    ((vs.zipIdx k).foldl (fun (cs : Array Value) (p : Value × Nat) => cs.setIfInBounds (off + p.2) p.1) cells).toList = cells.toList.take (off + k) ++ vs ++ cells.toList.drop (off + k + vs.length)
  | [], k, cells, h => by simp
  | v :: vs, k, cells, h => by
    simp only [List.zipIdx_cons, List.foldl_cons]
    have ih := foldl_seg off vs (k + 1) (cells.setIfInBounds (off + k) v) (by simp at h ⊢; omega)
    rw [ih]
    have hk : off + k < cells.size := by simp at h; omega
    simp only [Array.toList_setIfInBounds]
    apply List.ext_getElem?
    intro i
    simp only [List.getElem?_append, List.length_append, List.length_take, List.length_set, Array.length_toList, List.length_cons, List.getElem?_take, List.getElem?_drop, List.getElem?_set]
    have e1 : min (off + (k + 1)) cells.size = off + k + 1 := by omega
    have e2 : min (off + k) cells.size = off + k := by omega
    rw [e1, e2]
    by_cases h1 : i < off + k
    · simp [h1, show i < off + k + 1 by omega, show i < off + k + 1 + vs.length by omega, show i < off + k + (vs.length + 1) by omega, show i < off + (k + 1) by omega, show ¬ off + k = i by omega]
    · by_cases h2 : i = off + k
      · subst h2
        simp [hk]
        intro h; omega
      · have h3 : ¬ i < off + k + 1 := by omega
        by_cases h4 : i < off + k + 1 + vs.length
        · simp [h1, h3, h4, show i < off + k + (vs.length + 1) by omega, show ¬ i < off + (k + 1) by omega]
          rw [show i - (off + k) = (i - (off + k + 1)) + 1 by omega]
          simp
        · have h5 : ¬ i < off + k + (vs.length + 1) := by omega
          simp [h1, h3, h4, h5]
          have e3 : off + (k + 1) + vs.length + (i - (off + k + 1 + vs.length)) = i := by omega
          have e4 : off + k + (vs.length + 1) + (i - (off + k + (vs.length + 1))) = i := by omega
          rw [e3, e4]
          rw [if_neg (by omega)]
theorem fill_ok (ht : TR σ t a.tmps) {pf : Nat → Option (Nat × Nat)} : ∀ (parts : List (Nat × Operand)) (ps : List (Nat × Nat × Operand)) (cs cs' : List AV) (vs : List Value),
    (∀ p ∈ parts, okOpd p.2 = true) → places pf parts = some ps → afill t ps cs = some cs' → denL σ cs = some vs →
    ∃ vs', denL σ cs' = some vs' ∧ Instr.fill pf vs.toArray (parts.map fun p => (p.1, a.eval p.2)) = some vs'.toArray
  | [], ps, cs, cs', vs, _, hp, hf, hd => by
    cases hp
    have : some cs = some cs' := hf
    cases this
    exact ⟨vs, hd, rfl⟩
  | p :: parts, ps, cs, cs', vs, hok, hp, hf, hd => by
    unfold places at hp
    split at hp
    · rename_i q r hq hr
      cases hp
      have hf' : whenS (Nat.beq (llen (opd p.2 t).cells) q.2) (bindS (lput q.1 (opd p.2 t).cells cs) fun cs => afill t r cs) = some cs' := hf
      obtain ⟨h1, h2⟩ := whenS_some hf'
      obtain ⟨cs1, h3, h4⟩ := bindS_some h2
      have hsz := beq_iff.1 h1
      rw [llen_eq] at hsz
      obtain ⟨hle, e1⟩ := lput_some h3
      have dv := opd_ok (a := a) ht (hok p (by simp))
      obtain ⟨ws, hws, hcv⟩ := den_cells dv
      have hlw := denL_length hws
      have hlc := denL_length hd
      have hd1 : denL σ cs1 = some (vs.take q.1 ++ ws ++ vs.drop (q.1 + ws.length)) := by
        rw [e1]
        refine denL_append.2 ⟨_, _, denL_append.2 ⟨_, _, denL_take _ hd, hws, rfl⟩, ?_, rfl⟩
        rw [hlw]; exact denL_drop _ hd
      obtain ⟨vs', hv1, hv2⟩ := fill_ok ht parts r cs1 cs' _ (fun x hx => hok x (by simp [hx])) hr h4 hd1
      refine ⟨vs', hv1, ?_⟩
      simp only [List.map_cons, Instr.fill, hq]
      rw [if_neg (by rw [hcv]; simp [hlw, hsz]; omega)]
      rw [← hv2]
      congr 1
      apply Array.ext'
      rw [hcv, ← Array.foldl_toList]
      simp only [Array.toList_zipIdx]
      have := foldl_seg q.1 ws 0 vs.toArray (by simp; omega)
      simpa using this
    · cases hp
theorem places_fn_built {ti : TypeId} {d : TypeDesc} {zi : TypeInfo} {pf : Nat → Option (Nat × Nat)} {zv : Value} (hu : P.underlying ti = some d) (hi : P.info? ti = some zi) (hz : zi.zero = some zv) (hg : isAggD d = true)
    (hp : placeFn P d = some pf) (parts : List (Nat × Value)) : P.built ti parts = Instr.fill pf zv.cells parts := by
  unfold Program.built
  rw [hi, hu]
  cases d with
  | struct fs =>
    simp only [placeFn] at hp
    split at hp
    · rename_i pl hpl; cases hp; simp only [hz, hpl]
    · cases hp
  | array n e =>
    simp only [placeFn] at hp
    split at hp
    · rename_i i hie; cases hp; simp only [hz, hie]
    · cases hp
  | _ => cases hg
theorem zeroOf_some {ti : TypeId} {z : AV} (h : zeroOf P ti = some z) (σ : Sig) : ∃ i v, P.info? ti = some i ∧ i.zero = some v ∧ den σ z = some v := by
  unfold zeroOf at h
  split at h
  · rename_i i hi
    split at h
    · rename_i v hv
      obtain ⟨h1, h2⟩ := whenS_some h
      cases h2
      obtain ⟨u, hu⟩ := den_okValue σ v h1
      exact ⟨i, v, hi, hv, by rw [hu, den_ofValue hu]⟩
    · cases h
  · cases h
theorem sizeOfT_some {ti : TypeId} {n : Nat} (h : sizeOfT P ti = some n) : ∃ i, P.info? ti = some i ∧ i.size = n := by
  unfold sizeOfT at h
  split at h
  · rename_i i hi; cases h; exact ⟨i, hi, rfl⟩
  · cases h
theorem run_zeroI {ti : TypeId} {i : TypeInfo} {v : Value} (hi : P.info? ti = some i) (hz : i.zero = some v) (w : World) : (zeroValue ti).run P w = .ok v w := by
  simp [zeroValue, typeInfo, hi, hz]
end
end Go.Proofs.YtgemonlknehegaaGreatDoor.AI
namespace Go.Proofs.YtgemonlknehegaaGreatDoor.AI
open Go
set_option linter.unusedVariables false
set_option linter.unusedSimpArgs false
/-- what is asked of the program's functions without a Go body -/
structure ExtOk (P : Program) : Prop where
  esc : ∀ (g : FuncId) (fn : Func), P.funcs[g]? = some fn → fn.body = none → fn.name = "internal/abi.NoEscape" → ∀ x w, (callFunc g #[x]).run P w = .ok (.value x) w
  mnz : ∀ (g : FuncId) (fn : Func) (t : TypeId), P.funcs[g]? = some fn → fn.body = none → fn.name = "internal/bytealg.MakeNoZero" → fn.resultTypes.toList = [t] →
    ∀ n w, (callFunc g #[.int .i64 n]).run P w = ((Extern.BytealgMakeNoZero.makeNoZero #[] #[t] #[.int .i64 n]).run P w).andThen fun v w => .ok (.value v) w
  body : ∀ (g : FuncId) (fn : Func) (c : Code), P.funcs[g]? = some fn → fn.body = some c → fn.name ≠ "runtime.NumGoroutine"
section
variable {P : Program} {σ : Sig} {t : Tm} {a : Act}
theorem addr_add (l : Loc) (o n : Nat) : (l.addr o).add n = l.addr (o + n) := by
  unfold Loc.addr Addr.add
  split
  · rename_i h; subst h; simp
  · simp [Nat.add_assoc]
theorem onNC_some {β : Type} {x : AV} {f : Pos → Nat → Option β} {g : FuncId → List AV → List AV → Option β} {e : Pos → Option β} {r : β} (h : x.onNC none f g e = some r) :
    (∃ b o, x = .ptr b o ∧ f b o = some r) ∨ (∃ q c d, x = .func q c d ∧ g q c d = some r) ∨ (∃ b, x = .yield b ∧ e b = some r) := by
  cases x <;> first | exact .inl ⟨_, _, rfl, h⟩ | exact .inr (.inl ⟨_, _, _, rfl, h⟩) | exact .inr (.inr ⟨_, rfl, h⟩) | cases h
theorem str_get (l : List UInt8) (k : Nat) : ((⟨l.toArray⟩ : ByteArray)[k]?) = l[k]? := by
  by_cases h : k < l.length
  · have h' : k < (⟨l.toArray⟩ : ByteArray).size := by simpa [ByteArray.size] using h
    rw [getElem?_pos (⟨l.toArray⟩ : ByteArray) k h', getElem?_pos l k h]
    rfl
  · have h' : ¬ k < (⟨l.toArray⟩ : ByteArray).size := by simpa [ByteArray.size] using h
    rw [getElem?_neg (⟨l.toArray⟩ : ByteArray) k h', getElem?_neg l k h]
theorem str_size (l : List UInt8) : (⟨l.toArray⟩ : ByteArray).size = l.length := by simp [ByteArray.size]
theorem bound_some {v : Option AV} {m d n : Nat} (h : bound v m d = some n) : (v = none ∧ n = d) ∨ (∃ w, v = some w ∧ natOf w = some n ∧ n ≤ m) := by
  cases v with
  | none => cases h; exact .inl ⟨rfl, rfl⟩
  | some w =>
    obtain ⟨k, h1, h2⟩ := bindS_some (show bindS (natOf w) (fun n => whenS (Nat.ble n m) (some n)) = some n from h)
    obtain ⟨h3, h4⟩ := whenS_some h2
    cases h4
    exact .inr ⟨w, rfl, h1, ble_iff.1 h3⟩
theorem run_sliceBound {k : IntKind} {n y : Nat} (c : BoundsCode) (h : n ≤ y) (w : World) : (Instr.sliceBound (.int k (Int.ofNat n)) y c).run P w = .ok n w := by
  simp only [Instr.sliceBound, asIntOf, Sem.run_bind, Sem.run_pure, Result.andThen_ok]
  rw [if_pos ⟨by simp, by simpa using h⟩]
  rfl
theorem den_natOf {v : AV} {n : Nat} {u : Value} (h : natOf v = some n) (hd : den σ v = some u) : ∃ k, u = .int k (Int.ofNat n) := by
  obtain ⟨k, rfl⟩ := natOf_some h
  exact ⟨k, den_int hd⟩
/-- a bound that was given, or not -/
theorem opt_ok (ht : TR σ t a.tmps) (x : Option Operand) (hx : ∀ y, x = some y → okOpd y = true) : ∀ {v : AV}, x.map (opd · t) = some v → ∃ u, x.map a.eval = some u ∧ den σ v = some u := by
  intro v h
  cases x with
  | none => cases h
  | some y => cases h; exact ⟨a.eval y, rfl, opd_ok ht (hx y rfl)⟩
theorem sliceStr_ok (ht : TR σ t a.tmps) {xt : TypeId} (hu : P.underlying xt = some .string) {s : List UInt8} {lo hi : Option Operand} (hlo : ∀ y, lo = some y → okOpd y = true) (hhi : ∀ y, hi = some y → okOpd y = true)
    {v : AV} (h : aSliceStr s (lo.map (opd · t)) (hi.map (opd · t)) = some v) :
    ∃ u, den σ v = some u ∧ Gives P (Instr.slice xt (.string ⟨s.toArray⟩) (lo.map a.eval) (hi.map a.eval) none) u := by
  unfold aSliceStr at h
  rw [force_eq, llen_eq] at h
  obtain ⟨hh, h1, h⟩ := bindS_some h
  obtain ⟨l, h2, h⟩ := bindS_some h
  obtain ⟨r, h3, h⟩ := bindS_some h
  cases h
  obtain ⟨h4, rfl⟩ := ltake_some h3
  rw [ldrop_eq] at h4 ⊢
  have hhb : hh ≤ s.length ∧ ∀ w, (match hi.map a.eval with | some v => Instr.sliceBound v s.length .sliceAlen | none => (pure s.length : Sem Nat)).run P w = .ok hh w := by
    rcases bound_some h1 with ⟨e, rfl⟩ | ⟨q, e, hq, hle⟩
    · refine ⟨Nat.le_refl _, fun w => ?_⟩
      cases hi with
      | none => rfl
      | some y => cases e
    · refine ⟨hle, fun w => ?_⟩
      obtain ⟨u, hu1, hu2⟩ := opt_ok ht hi hhi e
      obtain ⟨k, rfl⟩ := den_natOf hq hu2
      rw [hu1]; exact run_sliceBound _ hle w
  have hlb : l ≤ hh ∧ ∀ w, (match lo.map a.eval with | some v => Instr.sliceBound v hh .sliceB | none => (pure 0 : Sem Nat)).run P w = .ok l w := by
    rcases bound_some h2 with ⟨e, rfl⟩ | ⟨q, e, hq, hle⟩
    · refine ⟨Nat.zero_le _, fun w => ?_⟩
      cases lo with
      | none => rfl
      | some y => cases e
    · refine ⟨hle, fun w => ?_⟩
      obtain ⟨u, hu1, hu2⟩ := opt_ok ht lo hlo e
      obtain ⟨k, rfl⟩ := den_natOf hq hu2
      rw [hu1]; exact run_sliceBound _ hle w
  refine ⟨.string ((⟨s.toArray⟩ : ByteArray).extract l hh), ?_, fun w => ?_⟩
  · simp only [den]
    congr 2
    apply ByteArray.ext
    simp
  · simp only [Instr.slice, Sem.run_bind, run_underlying hu, Result.andThen_ok]
    simp only [Option.isSome_none, Bool.false_eq_true, if_false, Instr.sliceBounds, Sem.run_bind, Sem.run_pure, Result.andThen_ok, str_size]
    have e1 := hhb.2 w
    have e2 := hlb.2 w
    cases hi with
    | none =>
      have e3 : hh = s.length := by
        have e4 : (pure s.length : Sem Nat).run P w = .ok hh w := e1
        simpa [eq_comm] using e4
      subst e3
      cases lo with
      | none =>
        have e3 : l = 0 := by
          have e4 : (pure 0 : Sem Nat).run P w = .ok l w := e2
          simpa [eq_comm] using e4
        subst e3
        simp
      | some y =>
        have e4 : (Instr.sliceBound (a.eval y) s.length .sliceB).run P w = .ok l w := e2
        simp [e4]
    | some z =>
      have e3 : (Instr.sliceBound (a.eval z) s.length .sliceAlen).run P w = .ok hh w := e1
      cases lo with
      | none =>
        have e5 : l = 0 := by
          have e4 : (pure 0 : Sem Nat).run P w = .ok l w := e2
          simpa [eq_comm] using e4
        subst e5
        simp [e3]
      | some y =>
        have e4 : (Instr.sliceBound (a.eval y) hh .sliceB).run P w = .ok l w := e2
        simp [e3, e4]
/-! ### A call of a builtin -/
theorem gives_builtin {ρ : Operand → Value} {dst ty pos after guard} {b : Builtin} {args : Array Operand} {ats : Array TypeId} {u : Value}
    (h : ∀ cs w, (builtin b ats ty cs (args.map ρ)).run P w = .ok (.value u) w) : GivesOp P ρ ⟨dst, .call { callee := .builtin b, args, argTypes := ats }, ty, pos, after, guard⟩ u := fun w => by
  simp only [execOp, resolve, Sem.run_bind, Sem.run_pure, Result.andThen_ok, invoke]
  exact h _ w
theorem gives_builtinV {ρ : Operand → Value} {dst ty pos after guard} {b : Builtin} {args : Array Operand} {ats : Array TypeId} {u : Value} {s : Sem Value}
    (hb : ∀ cs, builtin b ats ty cs (args.map ρ) = (do pure (.value (← s)))) (h : Gives P s u) : GivesOp P ρ ⟨dst, .call { callee := .builtin b, args, argTypes := ats }, ty, pos, after, guard⟩ u :=
  gives_builtin fun cs w => by rw [hb]; simp [h w]
theorem arr1 {α : Type} {xs : Array α} {x : α} (h : xs.toList = [x]) : xs = #[x] := by cases xs; simp at h; rw [h]
theorem arr2 {α : Type} {xs : Array α} {x y : α} (h : xs.toList = [x, y]) : xs = #[x, y] := by cases xs; simp at h; rw [h]
theorem slen_some {s : AV} {n : Nat} (h : slen s = some n) : (s = .nil .s ∧ n = 0) ∨ (∃ b o c, s = .slice b o n c) ∨ (∃ b o k l z, s = .etail b o k l z ∧ n = 0) := by
  rcases onSl_some (x := s) h with ⟨k, rfl, h1⟩ | ⟨b, o, l, c, rfl, h1⟩ | ⟨b, o, k, l, z, rfl, h1⟩
  · obtain ⟨hk, h2⟩ := whenS_some h1
    have := NK.no_iff.2.1.1 hk; subst this
    cases h2; exact .inl ⟨rfl, rfl⟩
  · cases h1; exact .inr (.inl ⟨b, o, c, rfl⟩)
  · cases h1; exact .inr (.inr ⟨b, o, k, l, z, rfl, rfl⟩)
theorem slen_den {s : AV} {n : Nat} (h : slen s = some n) {u : Value} (hd : den σ s = some u) : ∃ q c, u = .slice q n c := by
  rcases slen_some h with ⟨rfl, rfl⟩ | ⟨b, o, c, rfl⟩ | ⟨b, o, k, l, z, rfl, rfl⟩
  · exact ⟨none, 0, den_nil hd⟩
  · obtain ⟨l, _, e⟩ := den_slice hd; exact ⟨_, _, e⟩
  · obtain ⟨l, _, e⟩ := den_etail hd; exact ⟨_, _, e⟩
theorem aMin_ok {mx : Bool} {x y v : AV} (h : aMin mx x y = some v) {vx vy : Value} (hx : den σ x = some vx) (hy : den σ y = some vy) :
    ∃ u, den σ v = some u ∧ Gives P ((if mx then Builtin.max2 else Builtin.min2) vx vy) u := by
  obtain ⟨k, p, rfl, h1⟩ := onInt_some (x := x) h
  have h2 : y.onInt none (fun _ b => nat2 p b (some (.int k (pick mx (if b > p then b else p) (if b < p then b else p)))) fun a b => some (.int k (Int.ofNat (pick (pick mx (Nat.blt a b) (Nat.blt b a)) b a)))) = some v := h1
  obtain ⟨k', q, rfl, h3⟩ := onInt_some h2
  rw [den_int hx, den_int hy]
  cases mx with
  | false =>
    refine ⟨.int k (if q < p then q else p), ?_, fun w => rfl⟩
    rcases nat2_some h3 with ⟨m, n, rfl, rfl, h4⟩ | h4
    · cases h4
      simp only [pick_false, den]
      congr 2
      cases hb : Nat.blt n m with
      | true => have := blt_iff.1 hb; rw [if_pos (by simpa using this)]; rfl
      | false => have := blt_false.1 hb; rw [if_neg (by simpa using this)]; rfl
    · cases h4; rfl
  | true =>
    refine ⟨.int k (if q > p then q else p), ?_, fun w => rfl⟩
    rcases nat2_some h3 with ⟨m, n, rfl, rfl, h4⟩ | h4
    · cases h4
      simp only [pick_true, den]
      congr 2
      cases hb : Nat.blt m n with
      | true => have := blt_iff.1 hb; rw [if_pos (by simpa using this)]; rfl
      | false => have := blt_false.1 hb; rw [if_neg (by simpa using this)]; rfl
    · cases h4; rfl
theorem foldMin_ok {mx : Bool} : ∀ {l : List AV} {x v : AV}, foldMin mx x l = some v → ∀ {vx : Value} {vs : List Value}, den σ x = some vx → denL σ l = some vs →
    ∃ u, den σ v = some u ∧ Gives P (vs.foldlM (if mx then Builtin.max2 else Builtin.min2) vx) u
  | [], x, v, h, vx, vs, hx, hl => by
    rw [denL_nil] at hl; cases hl; cases h
    exact ⟨vx, hx, fun w => rfl⟩
  | y :: l, x, v, h, vx, vs, hx, hl => by
    obtain ⟨vy, r, hy, hr, rfl⟩ := denL_cons.1 hl
    obtain ⟨c, h1, h2⟩ := bindS_some (show bindS (aMin mx x y) (fun c => foldMin mx c l) = some v from h)
    obtain ⟨u, hu, g⟩ := aMin_ok (P := P) h1 hx hy
    obtain ⟨u', hu', g'⟩ := foldMin_ok h2 hu hr
    refine ⟨u', hu', fun w => ?_⟩
    rw [List.foldlM_cons, Sem.run_bind, g w]
    exact g' w
end
end Go.Proofs.YtgemonlknehegaaGreatDoor.AI
namespace Go.Proofs.YtgemonlknehegaaGreatDoor.AI
open Go
set_option linter.unusedVariables false
set_option linter.unusedSimpArgs false
section
variable {P : Program} {σ : Sig} {t : Tm} {a : Act}
theorem convert_pure (ht : TR σ t a.tmps) {s d : TypeId} {x : Operand} (hx : okOpd x = true) {f : Tm → Option AV} (hc : compileConvert P s d x = .pure f) {v : AV} (hv : f t = some v) :
    ∃ u, den σ v = some u ∧ Gives P (convert s d (a.eval x)) u := by
  have dx := opd_ok (a := a) ht hx
  unfold compileConvert at hc
  split at hc
  · rename_i k1 k2 h1 h2
    cases hc
    obtain ⟨k, n, e, h3⟩ := onInt_some hv
    rw [e] at dx
    rw [den_int dx]
    refine ⟨.int k2 (k2.wrap n), ?_, fun w => by simp [convert, run_underlying h1, run_underlying h2, Conv.intToInt]⟩
    have h4 : nat1 n (some (AV.int k2 (k2.wrap n))) (fun n => some (mkNat k2 n)) = some v := h3
    cases n with
    | ofNat m => cases h4; rw [den_mkNat]; rfl
    | negSucc m => cases h4; rfl
  · rename_i h1 h2
    cases hc
    obtain ⟨q, e, h3⟩ := onStr_some hv
    rw [e] at dx
    rw [den_str dx]
    cases h3
    exact ⟨_, rfl, fun w => by simp [convert, run_underlying h1, run_underlying h2]⟩
  · split at hc <;> cases hc
  · split at hc <;> cases hc
  · split at hc <;> cases hc
  · split at hc <;> cases hc
  · cases hc
theorem indexAddr_pure (ht : TR σ t a.tmps) {xt : TypeId} {x i : Operand} (hx : okOpd x = true) (hi : okOpd i = true) {f : Tm → Option AV} (hc : compileIndexAddr P xt x i = .pure f) {v : AV} (hv : f t = some v) :
    ∃ u, den σ v = some u ∧ Gives P (Instr.indexAt xt (a.eval x) (a.eval i)) u := by
  have dx := opd_ok (a := a) ht hx
  have di := opd_ok (a := a) ht hi
  unfold compileIndexAddr at hc
  split at hc
  · rename_i e hu
    split at hc
    · rename_i sz hs
      cases hc
      obtain ⟨inf, hinf, rfl⟩ := sizeOfT_some hs
      obtain ⟨b, off, len, cap, ex, h1⟩ := onSlice_some hv
      obtain ⟨k, hk, h2⟩ := bindS_some h1
      obtain ⟨h3, h4⟩ := whenS_some h2
      have hlt := blt_iff.1 h3
      rw [force_eq] at h4; cases h4
      rw [ex] at dx
      obtain ⟨l, hl, el⟩ := den_slice dx
      obtain ⟨kk, ek⟩ := den_natOf hk di
      refine ⟨.pointer (some (l.addr (off + k * inf.size))), by simp only [den, hl]; rfl, fun w => ?_⟩
      rw [el, ek]
      have hc1 : (0 : Int) ≤ Int.ofNat k ∧ Int.ofNat k < (len : Int) := ⟨by simp, by simpa using hlt⟩
      simp only [Instr.indexAt, asIntOf, Sem.run_bind, Sem.run_pure, Result.andThen_ok, run_underlying hu, Bool.and_false]
      rw [if_pos hc1]
      simp [run_sizeOfI hinf, addr_add]
    · cases hc
  · rename_i len e hu
    split at hc
    · rename_i sz hs
      cases hc
      obtain ⟨inf, hinf, rfl⟩ := sizeOfT_some hs
      obtain ⟨b, off, ex, h1⟩ := onPtr_some hv
      obtain ⟨k, hk, h2⟩ := bindS_some h1
      obtain ⟨h3, h4⟩ := whenS_some h2
      have hlt := blt_iff.1 h3
      rw [force_eq] at h4; cases h4
      rw [ex] at dx
      obtain ⟨l, hl, el⟩ := den_ptr dx
      obtain ⟨kk, ek⟩ := den_natOf hk di
      refine ⟨.pointer (some (l.addr (off + k * inf.size))), by simp only [den, hl]; rfl, fun w => ?_⟩
      rw [el, ek]
      have hc1 : (0 : Int) ≤ Int.ofNat k ∧ Int.ofNat k < (len : Int) := ⟨by simp, by simpa using hlt⟩
      simp only [Instr.indexAt, asIntOf, Instr.sureAddr, Sem.run_bind, Sem.run_pure, Result.andThen_ok, run_underlying hu]
      rw [if_pos hc1]
      simp [run_sizeOfI hinf, addr_add]
    · cases hc
  · cases hc
theorem index_pure (ht : TR σ t a.tmps) {xt : TypeId} {x i : Operand} (hx : okOpd x = true) (hi : okOpd i = true) {f : Tm → Option AV} (hc : compileIndex P xt x i = .pure f) {v : AV} (hv : f t = some v) :
    ∃ u, den σ v = some u ∧ Gives P (Instr.index xt (a.eval x) (a.eval i)) u := by
  have dx := opd_ok (a := a) ht hx
  have di := opd_ok (a := a) ht hi
  unfold compileIndex at hc
  split at hc
  · rename_i hu
    cases hc
    obtain ⟨s, ex, h1⟩ := onStr_some hv
    obtain ⟨k, hk, h2⟩ := bindS_some h1
    obtain ⟨c, h3, h4⟩ := bindS_some h2
    rw [force_eq] at h4; cases h4
    rw [ex] at dx
    obtain ⟨kk, ek⟩ := den_natOf hk di
    rw [den_str dx, ek]
    rw [lget_eq] at h3
    refine ⟨.int .u8 (Int.ofNat c.toNat), rfl, fun w => ?_⟩
    simp only [Instr.index, asIntOf, Sem.run_bind, Sem.run_pure, Result.andThen_ok, run_underlying hu]
    have hc1 : (0 : Int) ≤ Int.ofNat k := by simp
    rw [if_pos hc1]
    simp [str_get, h3]
  · rename_i len e hu
    split at hc
    · rename_i sz d hs hud
      cases hc
      obtain ⟨inf, hinf, rfl⟩ := sizeOfT_some hs
      obtain ⟨cs, ex, h1⟩ := onAgg_some hv
      obtain ⟨k, hk, h2⟩ := bindS_some h1
      obtain ⟨h3, h4⟩ := whenS_some h2
      have hlt := blt_iff.1 h3
      rw [ex] at dx
      obtain ⟨vs, hvs, evs⟩ := den_agg dx
      obtain ⟨kk, ek⟩ := den_natOf hk di
      obtain ⟨u, hu1, hu2⟩ := part_ok hud hinf hvs h4
      refine ⟨u, hu1, fun w => ?_⟩
      rw [evs, ek]
      have hc1 : (0 : Int) ≤ Int.ofNat k ∧ Int.ofNat k < (len : Int) := ⟨by simp, by simpa using hlt⟩
      simp only [Instr.index, asIntOf, Sem.run_bind, Sem.run_pure, Result.andThen_ok, run_underlying hu]
      rw [if_pos hc1]
      simp only [Sem.run_bind, run_sizeOfI hinf, Result.andThen_ok]
      exact hu2 w
    · cases hc
  · cases hc
theorem builtin_pure (ht : TR σ t a.tmps) {b : Builtin} {ats : Array TypeId} {args : Array Operand} (hok : ∀ x ∈ args.toList, okOpd x = true) {f : Tm → Option AV}
    (hc : compileBuiltin P b ats.toList args.toList = .pure f) {v : AV} (hv : f t = some v) (dst ty pos after guard) :
    ∃ u, den σ v = some u ∧ GivesOp P a.eval ⟨dst, .call { callee := .builtin b, args, argTypes := ats }, ty, pos, after, guard⟩ u := by
  cases b <;> simp only [compileBuiltin] at hc <;> (try (cases hc; done))
  case len =>
    split at hc
    · rename_i ti x hat harg
      have e1 := arr1 hat; have e2 := arr1 harg; subst e1; subst e2
      have hx := hok x (by simp)
      have dx := opd_ok (a := a) ht hx
      unfold compileLen at hc
      split at hc
      · rename_i hu
        cases hc
        obtain ⟨s, ex, h1⟩ := onStr_some hv
        rw [force_eq] at h1; cases h1
        rw [ex] at dx
        refine ⟨.int .i64 (Int.ofNat s.length), by rw [llen_eq]; rfl, gives_builtinV (s := Builtin.len_ #[ti] ty #[a.eval x]) (fun cs => by simp [builtin]) fun w => ?_⟩
        rw [den_str dx]
        simp [Builtin.len_, run_underlying hu, str_size, goInt]
      · rename_i e hu
        cases hc
        obtain ⟨n, hn, h1⟩ := bindS_some hv
        cases h1
        obtain ⟨q, c, e3⟩ := slen_den hn dx
        refine ⟨.int .i64 (Int.ofNat n), rfl, gives_builtinV (s := Builtin.len_ #[ti] ty #[a.eval x]) (fun cs => by simp [builtin]) fun w => ?_⟩
        rw [e3]
        simp [Builtin.len_, run_underlying hu, goInt]
      · cases hc
      · cases hc
    · cases hc
  case cap =>
    split at hc
    · rename_i ti x hat harg
      have e1 := arr1 hat; have e2 := arr1 harg; subst e1; subst e2
      have hx := hok x (by simp)
      have dx := opd_ok (a := a) ht hx
      split at hc
      · rename_i e hu
        cases hc
        rcases onSl_some hv with ⟨k, ex, h1⟩ | ⟨b, o, l, c, ex, h1⟩ | ⟨b, o, k, l, z, ex, h1⟩
        · obtain ⟨hk, h2⟩ := whenS_some h1
          have := NK.no_iff.2.1.1 hk; subst this
          cases h2
          rw [ex] at dx
          refine ⟨.int .i64 (Int.ofNat 0), rfl, gives_builtinV (s := Builtin.cap_ #[ti] ty #[a.eval x]) (fun cs => by simp [builtin]) fun w => ?_⟩
          rw [den_nil dx]
          simp [Builtin.cap_, run_underlying hu, nilOf, goInt]
        · cases c with
          | known c =>
            have h2 : some (AV.int .i64 (Int.ofNat c)) = some v := h1
            cases h2
            rw [ex] at dx
            obtain ⟨q, _, e3⟩ := den_slice dx
            refine ⟨.int .i64 (Int.ofNat c), rfl, gives_builtinV (s := Builtin.cap_ #[ti] ty #[a.eval x]) (fun cs => by simp [builtin]) fun w => ?_⟩
            rw [e3]
            simp [Builtin.cap_, run_underlying hu, capOf, goInt]
          | opn s => exact nomatch (show (none : Option AV) = some v from h1)
        · exact nomatch (show (none : Option AV) = some v from h1)
      · cases hc
    · cases hc
  case min =>
    split at hc
    · rename_i x l harg
      cases hc
      have hok' : ∀ y ∈ x :: l, okOpd y = true := fun y hy => hok y (harg ▸ hy)
      have dx := opd_ok (a := a) ht (hok' x (by simp))
      have dl := opds_ok (a := a) ht (xs := l) (fun y hy => hok' y (by simp [hy]))
      obtain ⟨u, hu, g⟩ := foldMin_ok (P := P) hv dx dl
      refine ⟨u, hu, gives_builtinV (s := Builtin.min_ ats ty (args.map a.eval)) (fun cs => rfl) fun w => ?_⟩
      simp only [Builtin.min_, Array.toList_map, harg, List.map_cons]
      exact g w
    · cases hc
  case max =>
    split at hc
    · rename_i x l harg
      cases hc
      have hok' : ∀ y ∈ x :: l, okOpd y = true := fun y hy => hok y (harg ▸ hy)
      have dx := opd_ok (a := a) ht (hok' x (by simp))
      have dl := opds_ok (a := a) ht (xs := l) (fun y hy => hok' y (by simp [hy]))
      obtain ⟨u, hu, g⟩ := foldMin_ok (P := P) hv dx dl
      refine ⟨u, hu, gives_builtinV (s := Builtin.max_ ats ty (args.map a.eval)) (fun cs => rfl) fun w => ?_⟩
      simp only [Builtin.max_, Array.toList_map, harg, List.map_cons]
      exact g w
    · cases hc
  case append =>
    split at hc
    · split at hc
      · unfold compileAppend at hc
        repeat (split at hc)
        all_goals cases hc
      · cases hc
    · cases hc
  case copy =>
    split at hc
    · split at hc
      · unfold compileCopy at hc
        repeat (split at hc)
        all_goals cases hc
      · cases hc
    · cases hc
  case clear => repeat (split at hc)
                all_goals cases hc
  case delete => repeat (split at hc)
                 all_goals cases hc
  case unsafeSliceData => repeat (split at hc)
                          all_goals cases hc
  case unsafeString => repeat (split at hc)
                       all_goals cases hc
/-- WHAT THE INTERPRETER GIVES OF AN OPERATION THAT LOOKS AT NO MEMORY, THE MODEL GIVES. -/
theorem pure_ok (hE : ExtOk P) {o : Oper} {f : Tm → Option AV} (hc : compileOp P o = .pure f) (hok : ∀ x ∈ o.op.operands.toList, okOpd x = true) (ht : TR σ t a.tmps) {v : AV} (hv : f t = some v) :
    ∃ u, den σ v = some u ∧ GivesOp P a.eval o u := by
  obtain ⟨dst, op, ty, pos, after, guard⟩ := o
  have val : ∀ {s : Sem Value} {u : Value}, Gives P s u → ∀ w, (do pure (Next.value (← s)) : Sem Next).run P w = .ok (.value u) w := fun h w => by simp [h w]
  cases op with
  | move x =>
    cases hc; cases hv
    exact ⟨_, opd_ok ht (hok x (by simp [Op.operands])), fun w => rfl⟩
  | assign x =>
    cases hc; cases hv
    exact ⟨_, opd_ok ht (hok x (by simp [Op.operands])), fun w => rfl⟩
  | pick c x y =>
    cases hc
    obtain ⟨b, e, h1⟩ := onBool_some hv
    have dc := opd_ok (a := a) ht (hok c (by simp [Op.operands]))
    rw [e] at dc
    have ec := den_bool dc
    have h2 : some (pick b (opd x t) (opd y t)) = some v := h1
    cases h2
    cases b with
    | true => exact ⟨_, opd_ok ht (hok x (by simp [Op.operands])), fun w => by simp [execOp, ec, asBool]⟩
    | false => exact ⟨_, opd_ok ht (hok y (by simp [Op.operands])), fun w => by simp [execOp, ec, asBool]⟩
  | build ti parts =>
    simp only [compileOp] at hc
    split at hc
    · rename_i d z hu hz
      split at hc
      · rename_i pf hg hp
        split at hc
        · rename_i ps hps
          cases hc
          obtain ⟨zi, zv, hi, hzv, dz⟩ := zeroOf_some hz σ
          obtain ⟨cs, h1, h2⟩ := bindS_some hv
          cases h2
          obtain ⟨vs, dvs, evs⟩ := den_cells dz
          obtain ⟨vs', d1, d2⟩ := fill_ok ht parts.toList ps z.cells cs vs (fun p hp' => hok p.2 (by simp [Op.operands]; exact ⟨p.1, Array.mem_toList_iff.1 hp'⟩)) hps h1 dvs
          refine ⟨.agg vs'.toArray, by simp only [den, d1], fun w => ?_⟩
          refine val (s := Instr.build ti (parts.map fun (i, x) => (i, a.eval x))) (fun w => ?_) w
          refine run_build w ti _ vs'.toArray ?_
          rw [places_fn_built hu hi hzv hg hp, evs]
          simpa using d2
        · cases hc
      · cases hc
    · cases hc
  | nilCheck x =>
    cases hc
    have dx := opd_ok (a := a) ht (hok x (by simp [Op.operands]))
    rcases onNC_some hv with ⟨b, o, e, h1⟩ | ⟨q, c, d, e, h1⟩ | ⟨b, e, h1⟩
    · cases h1; rw [e] at dx
      obtain ⟨l, hl, el⟩ := den_ptr dx
      exact ⟨_, dx, fun w => by simp [execOp, el]⟩
    · cases h1; rw [e] at dx
      obtain ⟨va, vc, _, _, el⟩ := den_func dx
      exact ⟨_, dx, fun w => by simp [execOp, el]⟩
    · cases h1; rw [e] at dx
      obtain ⟨l, hl, el⟩ := den_yield dx
      exact ⟨_, dx, fun w => by simp [execOp, el]⟩
  | binOp op ti x y yt => exact bin_ok hc ht (hok x (by simp [Op.operands])) (hok y (by simp [Op.operands])) hv dst ty pos after guard
  | unOp op ti x =>
    simp only [compileOp] at hc
    split at hc
    · cases hc
      have dx := opd_ok (a := a) ht (hok x (by simp [Op.operands]))
      obtain ⟨b, e, h1⟩ := onBool_some hv
      rw [e] at dx
      cases h1
      exact ⟨.bool (bnot b), rfl, fun w => by rw [bnot_eq]; simp [execOp, den_bool dx, Op.unary]⟩
    · cases hc
  | convert s d x =>
    obtain ⟨u, h1, h2⟩ := convert_pure ht (hok x (by simp [Op.operands])) hc hv
    exact ⟨u, h1, val h2⟩
  | makeFunc fn first captured =>
    simp only [compileOp] at hc
    split at hc
    · rename_i g
      cases hc; cases hv
      have d1 := opds_ok (a := a) ht (xs := first.toList) (fun x hx => hok x (by simp [Op.operands]; exact .inl (Array.mem_toList_iff.1 hx)))
      have d2 := opds_ok (a := a) ht (xs := captured.toList) (fun x hx => hok x (by simp [Op.operands]; exact .inr (Array.mem_toList_iff.1 hx)))
      refine ⟨.func (.func g) (first.map a.eval) (captured.map a.eval), ?_, fun w => by simp [execOp, Instr.makeFunc]⟩
      simp only [den, d1, d2]
      congr 2 <;> (apply Array.ext'; simp)
    · cases hc
  | slice ti x lo hi mx =>
    simp only [compileOp, compileSlice] at hc
    split at hc
    · rename_i hu
      split at hc
      · cases hc
        have dx := opd_ok (a := a) ht (hok x (by simp [Op.operands]))
        obtain ⟨s, e, h1⟩ := onStr_some hv
        rw [e] at dx
        obtain ⟨u, h2, h3⟩ := sliceStr_ok ht hu (fun y hy => hok y (by subst hy; simp [Op.operands])) (fun y hy => hok y (by subst hy; simp [Op.operands])) h1
        refine ⟨u, h2, val (s := Instr.sliceAt ti (a.eval x) (lo.map a.eval) (hi.map a.eval) none) fun w => ?_⟩
        rw [den_str dx]
        simp only [Instr.sliceAt, Sem.run_bind, run_underlying hu, Result.andThen_ok]
        exact h3 w
      · cases hc
    · repeat (split at hc)
      all_goals cases hc
    · cases hc
  | fieldAddr s x f =>
    simp only [compileOp] at hc
    split at hc
    · rename_i fs hu
      split at hc
      · rename_i fld hf
        split at hc
        · rename_i sz hs
          split at hc
          · rename_i hz
            cases hc
            obtain ⟨inf, hinf, rfl⟩ := sizeOfT_some hs
            have hz' := beq_false.1 hz
            have dx := opd_ok (a := a) ht (hok x (by simp [Op.operands]))
            obtain ⟨b, off, e, h1⟩ := onPtr_some hv
            rw [force_eq] at h1; cases h1
            rw [e] at dx
            obtain ⟨l, hl, el⟩ := den_ptr dx
            refine ⟨.pointer (some (l.addr (off + fld.offset))), by simp only [den, hl]; rfl, val (s := Instr.fieldAt s (a.eval x) f) fun w => ?_⟩
            rw [el]
            simp [Instr.fieldAt, Instr.sureAddr, fieldPlace, run_underlying hu, hf, run_sizeOfI hinf, hz', addr_add]
          · cases hc
        · cases hc
      · cases hc
    · cases hc
  | indexAddr ti x i =>
    obtain ⟨u, h1, h2⟩ := indexAddr_pure ht (hok x (by simp [Op.operands])) (hok i (by simp [Op.operands])) hc hv
    exact ⟨u, h1, val h2⟩
  | index ti x i =>
    obtain ⟨u, h1, h2⟩ := index_pure ht (hok x (by simp [Op.operands])) (hok i (by simp [Op.operands])) hc hv
    exact ⟨u, h1, val h2⟩
  | extract x i =>
    cases hc
    have dx := opd_ok (a := a) ht (hok x (by simp [Op.operands]))
    obtain ⟨l, e, h1⟩ := onTuple_some hv
    rw [e] at dx
    obtain ⟨vs, hvs, evs⟩ := den_tuple dx
    rw [lget_eq] at h1
    obtain ⟨u, h2, h3⟩ := denL_get hvs h1
    refine ⟨u, h2, val (s := Instr.extract (a.eval x) i) fun w => ?_⟩
    rw [evs]
    have h4 : vs.toArray[i]? = some u := by simpa using h3
    simp [Instr.extract, h4]
  | call c =>
    obtain ⟨callee, args, ats⟩ := c
    cases callee with
    | builtin b => exact builtin_pure ht (fun x hx => hok x (by simp [Op.operands, Call.operands]; exact Array.mem_toList_iff.1 hx)) hc hv dst ty pos after guard
    | invoke r m => cases hc
    | value g =>
      cases g with
      | func g =>
        simp only [compileOp, compileCall] at hc
        split at hc
        · rename_i fn hfn
          split at hc
          · cases hc
          · rename_i hb
            split at hc
            · rename_i hn
              split at hc
              · rename_i x harg
                cases hc; cases hv
                have e2 := arr1 harg; subst e2
                have dx := opd_ok (a := a) ht (hok x (by simp [Op.operands, Call.operands]))
                refine ⟨_, dx, fun w => ?_⟩
                have := hE.esc g fn hfn hb hn (a.eval x) w
                have e0 : a.eval (.func g) = .func (.func g) #[] #[] := rfl
                simp only [execOp, resolve, e0, Deferred.ofValue, invoke, Sem.run_bind, Sem.run_pure, Result.andThen_ok]
                simpa using this
              · cases hc
            · split at hc
              · repeat (split at hc)
                all_goals cases hc
              · cases hc
        · cases hc
      | _ => cases hc
  | alloc e => simp only [compileOp] at hc; repeat (split at hc)
               all_goals cases hc
  | box e x => cases hc
  | buildSlice ti len parts => simp only [compileOp] at hc; repeat (split at hc)
                               all_goals cases hc
  | load ti x => simp only [compileOp] at hc; repeat (split at hc)
                 all_goals cases hc
  | store ti x y => simp only [compileOp] at hc; repeat (split at hc)
                    all_goals cases hc
  | makeMap ti r => simp only [compileOp] at hc; repeat (split at hc)
                    all_goals cases hc
  | makeSlice ti l c => simp only [compileOp] at hc; repeat (split at hc)
                        all_goals cases hc
  | lookup ti m k ok => simp only [compileOp, compileLookup] at hc; repeat (split at hc)
                        all_goals cases hc
  | mapUpdate ti m k x => simp only [compileOp] at hc; repeat (split at hc)
                          all_goals cases hc
  | insert ti m k x => simp only [compileOp] at hc; repeat (split at hc)
                       all_goals cases hc
  | mapEntry ti m k => simp only [compileOp, compileMapEntry] at hc; repeat (split at hc)
                       all_goals cases hc
  | entryStore ti m s x => cases hc
  | range ti x => simp only [compileOp] at hc; repeat (split at hc)
                  all_goals cases hc
  | next it b => simp only [compileOp] at hc; repeat (split at hc)
                 all_goals cases hc
  | entry it => cases hc
  | ready g => cases hc
  | waits g => cases hc
  | sliceToArrayPointer d x => cases hc
  | makeInterface ti x => cases hc
  | makeChan ti s => cases hc
  | field ti x f => cases hc
  | typeAssert x xt as_ ok => cases hc
  | go c => cases hc
  | defer c => cases hc
  | panic x => cases hc
  | send ch x => cases hc
  | recv ct ch ok => cases hc
  | select cs b => cases hc
end
end Go.Proofs.YtgemonlknehegaaGreatDoor.AI
namespace Go.Proofs.YtgemonlknehegaaGreatDoor.AI
open Go
set_option linter.unusedVariables false
set_option linter.unusedSimpArgs false
section
variable {P : Program} {N : Nat} {σ : Sig} {h : H} {w : World} {t : Tm} {a : Act}
theorem row_some {β : Type} {b : Pos} {k : TypeId → List AV → Nat → Option Nat → Option β} {r : β} (hr : h.row b none k = some r) :
    ∃ ty cells n o, h.objs.get b = some (.row ty cells n o) ∧ k ty cells n o = some r := by
  unfold H.row at hr
  cases hb : h.objs.get b with
  | none => rw [hb] at hr; cases hr
  | some ob =>
    rw [hb] at hr
    cases ob with
    | row ty cells n o => exact ⟨ty, cells, n, o, rfl, hr⟩
    | _ => exact nomatch (show (none : Option β) = some r from hr)
theorem mapo_some {β : Type} {b : Pos} {k : List ME → Nat → Option β} {r : β} (hr : h.map b none k = some r) :
    ∃ es c, h.objs.get b = some (.map es c) ∧ k es c = some r := by
  unfold H.map at hr
  cases hb : h.objs.get b with
  | none => rw [hb] at hr; cases hr
  | some ob =>
    rw [hb] at hr
    cases ob with
    | map es c => exact ⟨es, c, rfl, hr⟩
    | _ => exact nomatch (show (none : Option β) = some r from hr)
theorem iter_some {β : Type} {o : AObj} {k : Option Pos → Nat → List Nat → Nat → Option β} {r : β} (hr : o.onIter none k = some r) :
    ∃ m s l q, o = .iter m s l q ∧ k m s l q = some r := by
  cases o with
  | iter m s l q => exact ⟨m, s, l, q, rfl, hr⟩
  | _ => exact nomatch (show (none : Option β) = some r from hr)
/-- a row of cells, as it lies -/
structure RowAt (P : Program) (σ : Sig) (w : World) (l : Loc) (ty : TypeId) (cells : List AV) (n : Nat) (o : Option Nat) (c : Array Value) (fz : Nat × Nat) (vs : List Value) : Prop where
  heap : w.heap[l.blk]? = some (.cells c ty fz)
  den : denL σ cells = some vs
  len : vs.length = n
  cell : ∀ i, i < n → c[l.base + i]? = vs[i]?
  thaw : thaw c.size fz
  shape : match o with
    | none => l.base = 0 ∧ c.size = n
    | some least => least ≤ l.cap ∧ c.size = l.base + l.cap * P.cellsOf ty ∧ n ≤ l.cap * P.cellsOf ty ∧ 0 < P.cellsOf ty
theorem Holds.rowAt (hh : Holds P N σ h w) {b : Pos} {ty : TypeId} {cells : List AV} {n : Nat} {o : Option Nat} (hb : h.objs.get b = some (.row ty cells n o)) {l : Loc} (hl : σ b = some l) :
    ∃ c fz vs, RowAt P σ w l ty cells n o c fz vs := by
  obtain ⟨l', ob, h1, h2, c, fz, vs, h3, h4, h5, h6, h7, h8⟩ := hh.rep b _ hb
  rw [hl] at h1; cases h1
  exact ⟨c, fz, vs, h3 ▸ h2, h4, h5, h6, h7, h8⟩
theorem RowAt.le {l : Loc} {ty : TypeId} {cells : List AV} {n : Nat} {o : Option Nat} {c : Array Value} {fz : Nat × Nat} {vs : List Value} (r : RowAt P σ w l ty cells n o c fz vs) : l.base + n ≤ c.size := by
  have := r.shape
  cases o with
  | none => simp at this; omega
  | some least => simp at this; omega
theorem RowAt.read {l : Loc} {ty : TypeId} {cells : List AV} {n : Nat} {o : Option Nat} {c : Array Value} {fz : Nat × Nat} {vs : List Value} (r : RowAt P σ w l ty cells n o c fz vs)
    {i : Nat} {v : Value} (hv : vs[i]? = some v) : w.cell? (l.addr i) = some v := by
  have hi : i < n := by rw [← r.len]; exact (List.getElem?_eq_some_iff.1 hv).1
  simp [World.cell?, Loc.addr, r.heap, r.cell i hi, hv]
theorem RowAt.cells_len {l : Loc} {ty : TypeId} {cells : List AV} {n : Nat} {o : Option Nat} {c : Array Value} {fz : Nat × Nat} {vs : List Value} (r : RowAt P σ w l ty cells n o c fz vs) : cells.length = n := by
  rw [← denL_length r.den, r.len]
/-- a stretch of cells -/
theorem RowAt.reads {l : Loc} {ty : TypeId} {cells : List AV} {n : Nat} {o : Option Nat} {c : Array Value} {fz : Nat × Nat} {vs : List Value} (r : RowAt P σ w l ty cells n o c fz vs)
    {off m : Nat} {cs : List AV} (h1 : ltake m (ldrop off cells) = some cs) : ∃ us, denL σ cs = some us ∧ us.length = m ∧ (loadCells (l.addr off) m).run P w = .ok us.toArray w := by
  obtain ⟨hle, rfl⟩ := ltake_some h1
  rw [ldrop_eq] at hle ⊢
  refine ⟨(vs.drop off).take m, denL_take _ (denL_drop _ r.den), ?_, ?_⟩
  · have := denL_length r.den; simp at hle ⊢; omega
  · have hlen : ((vs.drop off).take m).length = m := by have := denL_length r.den; simp at hle ⊢; omega
    have := run_loadCells_list (P := P) w (l.addr off) ((vs.drop off).take m) (fun j v hv => by
      rw [addr_add]
      refine r.read ?_
      rw [List.getElem?_take] at hv
      split at hv
      · rw [List.getElem?_drop] at hv; exact hv
      · cases hv)
    rw [hlen] at this
    exact this
theorem loadC_ok (hh : Holds P N σ h w) {p v : AV} {vp : Value} (hd : den σ p = some vp) (hv : hloadC h p = some v) {ti : TypeId} {d : TypeDesc} (hu : P.underlying ti = some d) (hg : isAggD d = false) :
    ∃ u, den σ v = some u ∧ (Instr.loadAt ti vp).run P w = .ok u w := by
  obtain ⟨b, off, rfl, h1⟩ := onPtr_some (x := p) hv
  obtain ⟨ty, cells, n, o, hb, h2⟩ := row_some h1
  obtain ⟨l, hl, rfl⟩ := den_ptr hd
  obtain ⟨c, fz, vs, r⟩ := hh.rowAt hb hl
  rw [lget_eq] at h2
  obtain ⟨u, hu1, hu2⟩ := denL_get r.den h2
  refine ⟨u, hu1, ?_⟩
  simp [Instr.loadAt, Instr.sureAddr, loadVar, run_isAggD hu, hg, run_load, r.read hu2]
theorem loadA_ok (hh : Holds P N σ h w) {p v : AV} {vp : Value} (hd : den σ p = some vp) {ti : TypeId} {d : TypeDesc} {i : TypeInfo} (hu : P.underlying ti = some d) (hi : P.info? ti = some i) (hg : isAggD d = true)
    (hv : hloadA h i.size p = some v) : ∃ u, den σ v = some u ∧ (Instr.loadAt ti vp).run P w = .ok u w := by
  obtain ⟨b, off, rfl, h1⟩ := onPtr_some (x := p) hv
  obtain ⟨ty, cells, n, o, hb, h2⟩ := row_some h1
  obtain ⟨l, hl, rfl⟩ := den_ptr hd
  obtain ⟨c, fz, vs, r⟩ := hh.rowAt hb hl
  obtain ⟨cs, h3, h4⟩ := bindS_some h2
  cases h4
  obtain ⟨us, h5, h6, h7⟩ := r.reads h3
  refine ⟨.agg us.toArray, by simp only [den, h5], ?_⟩
  simp [Instr.loadAt, Instr.sureAddr, loadVar, run_isAggD hu, hg, run_sizeOfI hi, h7]
/-! ### Keys -/
theorem okKey_ok : ∀ (d n e : Nat) (ti : TypeId) (q : EqK), compileEq P d ti = some q → d ≤ n → ∀ (x : AV) (vx : Value), okK e q x = true → den σ x = some vx → ∀ (em : Bool) (w : World), (Instr.checkKey em n ti vx).run P w = .ok () w
  | 0, _, _, _, _, h, _ => by cases h
  | d + 1, 0, _, _, _, _, h => by omega
  | d + 1, n + 1, 0, ti, q, h, hn => fun x vx hb _ _ _ => by cases hb
  | d + 1, n + 1, e + 1, ti, q, h, hn => by
    intro x vx hb hx em w
    unfold compileEq at h
    split at h
    · rename_i hu; cases h
      cases x with
      | bool p => rw [den_bool hx]; simp [Instr.checkKey, run_underlying hu]
      | _ => exact nomatch (show false = true from hb)
    · rename_i k' hu; cases h
      cases x with
      | int p m => rw [den_int hx]; simp [Instr.checkKey, run_underlying hu]
      | _ => exact nomatch (show false = true from hb)
    · rename_i hu; cases h
      cases x with
      | str p => rw [den_str hx]; simp [Instr.checkKey, run_underlying hu]
      | _ => exact nomatch (show false = true from hb)
    · split at h
      · split at h
        · cases h
        · cases h; exact nomatch (show false = true from hb)
      · cases h
    · cases h; exact nomatch (show false = true from hb)
    · cases h; exact nomatch (show false = true from hb)
    · cases h; exact nomatch (show false = true from hb)
    · rename_i fs hu
      by_cases hs : P.stoodInHeld ti = true
      · rw [if_pos hs] at h; cases h
      · rw [if_neg hs] at h
        cases hL : eqFields P (compileEq P d) fs.toList with
        | none => rw [hL] at h; cases h
        | some L =>
          rw [hL] at h; cases h
          cases x with
          | agg xs =>
            have hb' : okL (okK e) L xs = true := hb
            obtain ⟨vs, hvs, rfl⟩ := den_agg hx
            rw [Instr.checkKey]
            simp only [Sem.run_bind, run_underlying hu, Result.andThen_ok]
            rw [← Array.forIn_toList]
            clear hb
            generalize fs.toList = M at hL
            induction M generalizing L with
            | nil => simp
            | cons f M ih =>
              unfold eqFields at hL
              by_cases hn' : f.name = "_"
              · rw [if_pos hn'] at hL; cases hL
              · rw [if_neg hn'] at hL
                split at hL
                · rename_i dd i k r hud hi hk hr
                  cases hL
                  unfold okL at hb'
                  split at hb'
                  · rename_i x1 hp
                    obtain ⟨u, du, pu⟩ := part_ok hud hi hvs hp
                    cases ho : okK e k x1 with
                    | false => rw [ho] at hb'; cases hb'
                    | true =>
                      rw [ho] at hb'
                      have c1 := okKey_ok d n e f.type k hk (by omega) x1 u ho du em w
                      simp only [List.forIn_cons, Sem.run_bind, hn', ne_eq, not_false_eq_true, if_true, Result.andThen_ok, pu, c1, Sem.run_pure]
                      exact ih r hb' hr
                  · cases hb'
                · cases hL
          | _ => exact nomatch (show false = true from hb)
    · cases h
/-- the place of a key, told alike -/
theorem findNow_ok {kt : TypeId} {q : EqK} (hq : compileEq P 5 kt = some q) {d : TypeDesc} (hu : P.underlying kt = some d) {k : AV} {vk : Value} (hk : den σ k = some vk) :
    ∀ {es : List ME} {cs : List MapEntry} (hm : ML σ es cs) (i : Nat) {r : Option (Nat × ME)}, afind (fun v => aeq 5 q k v) es i = some r →
      ∃ rc : Option (Nat × MapEntry), (match r, rc with
          | none, none => True
          | some (j, e), some (j', c) => j' = j ∧ MERep σ e c ∧ i ≤ j ∧ es[j - i]? = some e ∧ cs[j - i]? = some c ∧ aeq 5 q k e.k = some true
          | _, _ => False) ∧
        (∀ w, (Instr.findAsking kt vk cs i).run P w = .ok (rc.map fun p => (p.1, p.2.val)) w) ∧ (∀ r', Instr.findNow d vk cs i = some r' → r' = rc.map fun p => (p.1, p.2.val)) := by
  intro es cs hm
  induction hm with
  | nil =>
    intro i r h
    cases h
    exact ⟨none, trivial, fun w => rfl, fun r' h => by cases h; rfl⟩
  | cons he hes ih =>
    rename_i e c es cs
    intro i r h
    have h' : bindS (aeq 5 q k e.k) (fun b => pick b (some (some (i, e))) (afind (fun v => aeq 5 q k v) es (Nat.succ i))) = some r := h
    obtain ⟨b, hb, h2⟩ := bindS_some h'
    have heq : ∀ w, (Op.equal kt vk c.key).run P w = .ok b w := compileEq_ok (σ := σ) 5 10000 5 kt q hq (by omega) k e.k vk c.key b hb hk he.1
    have hnow : ∀ b', Instr.sameNow d vk c.key = some b' → b' = b := fun b' hs => by
      have h0 := heq default
      unfold Op.equal Op.maxDepth at h0
      rw [show (10000 : Nat) = 9999 + 1 from rfl] at h0
      generalize c.key = ck at h0 hs
      unfold Instr.sameNow at hs
      split at hs
      · rename_i kk k1 m k2 m'
        split at hs
        · rename_i ek
          subst ek
          rw [run_equalIn_int _ _ _ _ _ _ _ hu] at h0
          cases hs; cases h0; rfl
        · cases hs
      · rw [run_equalIn_string _ _ _ _ _ hu] at h0
        cases hs; cases h0; exact beq_toListBytes _ _
      · rw [run_equalIn_bool' _ _ _ _ _ hu] at h0
        cases hs; cases h0; rfl
      · cases hs
    cases b with
    | true =>
      cases h2
      refine ⟨some (i, c), ⟨rfl, he, Nat.le_refl _, by simp, by simp, hb⟩, fun w => by simp [Instr.findAsking, heq], fun r' hr' => ?_⟩
      unfold Instr.findNow at hr'
      split at hr'
      · cases hr'; rfl
      · rename_i hs; cases hnow _ hs
      · cases hr'
    | false =>
      obtain ⟨rc, g1, g2, g3⟩ := ih (Nat.succ i) h2
      refine ⟨rc, ?_, fun w => by simp [Instr.findAsking, heq]; exact g2 w, fun r' hr' => ?_⟩
      · cases r with
        | none => cases rc with
          | none => trivial
          | some p => exact g1.elim
        | some p => cases rc with
          | none => exact g1.elim
          | some p' =>
            obtain ⟨f1, f2, f3, f4, f5, f6⟩ := g1
            have e1 : p.1 - i = (p.1 - Nat.succ i) + 1 := by omega
            exact ⟨f1, f2, by omega, by rw [e1]; simpa using f4, by rw [e1]; simpa using f5, f6⟩
      · unfold Instr.findNow at hr'
        split at hr'
        · rename_i hs; cases hnow _ hs
        · exact g3 r' hr'
        · cases hr'
end
end Go.Proofs.YtgemonlknehegaaGreatDoor.AI
