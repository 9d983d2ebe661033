/- The chain of TopRefuses, part 6. -/
import Derived.Test.YtgemonlknehegaaGreatDoorK05
import Derived.Carry
import Derived.Laws.IdiomCopy
namespace Go.Proofs.YtgemonlknehegaaGreatDoor.AI
open Go
set_option linter.unusedVariables false
set_option linter.unusedSimpArgs false
section
variable {P : Program} {N : Nat} {σ : Sig} {h : H} {w : World} {t : Tm} {a : Act}
theorem den_ptr_mk {σ : Sig} {b : Pos} {l : Loc} (h : σ b = some l) (o : Nat) : den σ (.ptr b o) = some (.pointer (some (l.addr o))) := by simp only [den, h]
theorem den_slice_mk {σ : Sig} {b : Pos} {l : Loc} (h : σ b = some l) (o n : Nat) (c : ACap) : den σ (.slice b o n c) = some (.slice (some (l.addr o)) n (capOf l c)) := by simp only [den, h]
theorem den_map_mk {σ : Sig} {b : Pos} {l : Loc} (h : σ b = some l) : den σ (.map b) = some (.map (some l.blk)) := by simp only [den, h]
theorem bytesCells_eq (l : List UInt8) : bytesCells l = l.map fun b => AV.int .u8 (Int.ofNat b.toNat) := by
  unfold bytesCells
  rw [lmap_eq]
  apply List.map_congr_left
  intro b _
  rw [force_eq]
theorem bytesCells_den (σ : Sig) (l : List UInt8) : denL σ (bytesCells l) = some (l.map fun b => Value.int .u8 (Int.ofNat b.toNat)) := by
  rw [bytesCells_eq]
  exact denL_map (fun x => by simp only [den]) l
theorem alloc_ok (hE : ExtOk P) {o : Oper} {f : Tm → Option AA} (hc : compileOp P o = .alloc f) (hok : ∀ x ∈ o.op.operands.toList, okOpd x = true) (ht : TR σ t a.tmps) {aa : AA} (hv : f t = some aa) :
    Makes P σ (execOp a.eval o) w aa := by
  obtain ⟨dst, op, ty, pos, after, guard⟩ := o
  cases op with
  | alloc e =>
    simp only [compileOp] at hc
    split at hc
    · rename_i z hz
      cases hc; cases hv
      obtain ⟨i, zv, hi, hzv, dz⟩ := zeroOf_some hz σ
      obtain ⟨vs, d1, d2⟩ := den_cells dz
      refine Makes.of _ ⟨.cells zv.cells e, w.drawn, 0, .pointer (some ⟨w.heap.size, 0, none⟩), by simp [Instr.alloc, run_zeroI hi hzv, newVar, newRow], fun σ' b hl hb => ⟨den_ptr_mk hb 0, ?_⟩⟩
      rw [d2]
      exact rowRep rfl (denL_mono hl d1) (llen_eq _)
    · cases hc
  | box e x =>
    cases hc; cases hv
    have dx := opd_ok (a := a) ht (hok x (by simp [Op.operands]))
    obtain ⟨vs, d1, d2⟩ := den_cells dx
    refine Makes.of _ ⟨.cells (a.eval x).cells e, w.drawn, 0, .pointer (some ⟨w.heap.size, 0, none⟩), rfl, fun σ' b hl hb => ⟨den_ptr_mk hb 0, ?_⟩⟩
    rw [d2]
    exact rowRep rfl (denL_mono hl d1) (llen_eq _)
  | makeMap ti r =>
    simp only [compileOp] at hc
    split at hc
    · cases hc; cases hv
      exact Makes.of _ ⟨.map #[] 0, w.drawn, 0, .map (some w.heap.size), rfl, fun σ' b hl hb => ⟨den_map_mk hb, ⟨#[], rfl, .nil⟩⟩⟩
    · cases hc
  | buildSlice ti len parts =>
    simp only [compileOp] at hc
    split at hc
    · rename_i e hu
      split at hc
      · rename_i z sz ps hz hs hps
        split at hc
        · rename_i hlt hzl
          cases hc
          obtain ⟨cs, h1, h2⟩ := bindS_some hv
          cases h2
          obtain ⟨zi, zv, hi, hzv, dz⟩ := zeroOf_some hz σ
          obtain ⟨zi', hi', es⟩ := sizeOfT_some hs
          rw [hi] at hi'; cases hi'
          obtain ⟨zs, d1, d2⟩ := den_cells dz
          have hzs : zv.cells.size = zi.size := by
            have := beq_iff.1 hzl
            rw [llen_eq] at this
            rw [d2, List.size_toArray, denL_length d1, this, es]
          have hd : denL σ (reps z.cells len) = some (List.replicate len zs).flatten := denL_reps d1 len
          have hpf : ∃ pf, placeFn P (.slice e) = some pf ∧ places pf parts.toList = some ps := by
            cases hp : placeFn P (.slice e) with
            | none => rw [hp] at hps; cases hps
            | some pf => rw [hp] at hps; exact ⟨pf, rfl, hps⟩
          obtain ⟨pf, hpf, hpl⟩ := hpf
          have hpfe : pf = fun j => some (j * zi.size, zi.size) := by
            simp only [placeFn, hi] at hpf
            cases hpf; rfl
          obtain ⟨vs', e1, e2⟩ := fill_ok (a := a) ht parts.toList ps _ cs _ (fun p hp' => hok p.2 (by simp [Op.operands]; exact ⟨p.1, Array.mem_toList_iff.1 hp'⟩)) hpl h1 hd
          have hlt' : len * zi.size < 65536 := by rw [es]; exact blt_iff.1 hlt
          have hrun := run_buildSliceI (P := P) hu hi hzv hzs hlt' (parts := parts.map fun (i, x) => (i, a.eval x)) (cells := vs'.toArray) (by
            rw [hpfe] at e2
            rw [d2]
            simpa using e2) w
          refine Makes.of _ ⟨.cells vs'.toArray e, w.drawn, 0, .slice (some ⟨w.heap.size, 0, none⟩) len len, hrun, fun σ' b hl hb => ⟨den_slice_mk hb 0 len (.known len), ?_⟩⟩
          refine rowRep rfl (denL_mono hl e1) ?_
          rw [fill_len _ _ _ h1, reps_length, ← llen_eq z.cells, beq_iff.1 hzl]
        · cases hc
      · cases hc
    · cases hc
  | makeSlice ti ln cn =>
    simp only [compileOp] at hc
    split at hc
    · rename_i e hu
      split at hc
      · rename_i z zi hz hi0
        split at hc
        · rename_i hzl hz0 hbt
          cases hc
          obtain ⟨l, h1, h2⟩ := bindS_some hv
          obtain ⟨c, h3, h4⟩ := bindS_some h2
          obtain ⟨h5, h6⟩ := whenS_some h4
          obtain ⟨h7, h8⟩ := whenS_some h6
          rw [force_eq, force_eq] at h8
          cases h8
          obtain ⟨zi', zv, hi, hzv, dz⟩ := zeroOf_some hz σ
          rw [hi0] at hi; cases hi
          obtain ⟨zs, d1, d2⟩ := den_cells dz
          have hzs : zv.cells.size = zi.size := by
            have := beq_iff.1 hzl
            rw [llen_eq] at this
            rw [d2, List.size_toArray, denL_length d1, this]
          obtain ⟨k1, e1⟩ := den_natOf h1 (opd_ok (a := a) ht (hok ln (by simp [Op.operands])))
          obtain ⟨k2, e2⟩ := den_natOf h3 (opd_ok (a := a) ht (hok cn (by simp [Op.operands])))
          have hrun := run_makeSliceI (P := P) hu hi0 hzv hzs (k1 := k1) (k2 := k2) (ble_iff.1 h5) (blt_iff.1 h7) (blt_iff.1 hbt) w
          refine Makes.of (Instr.makeSlice ti (a.eval ln) (a.eval cn)) ⟨.cells ((List.replicate c zv.cells.toList).flatten).toArray e, w.drawn, 0, .slice (some ⟨w.heap.size, 0, none⟩) l c, by rw [e1, e2]; exact hrun, fun σ' b hl hb => ⟨den_slice_mk hb 0 l (.known c), ?_⟩⟩
          rw [d2]
          refine rowRep rfl (denL_reps (denL_mono hl d1) c) ?_
          show c * zi.size = _
          rw [reps_length, ← llen_eq z.cells, beq_iff.1 hzl]
        · cases hc
      · cases hc
    · cases hc
  | convert s d x =>
    simp only [compileOp, compileConvert] at hc
    split at hc
    · cases hc
    · cases hc
    · rename_i e hu1 hu2
      split at hc
      · rename_i hue hs
        cases hc
        obtain ⟨q, e0, h1⟩ := onStr_some hv
        rw [force_eq] at h1
        obtain ⟨h2, h3⟩ := whenS_some h1
        cases h3
        have dx := opd_ok (a := a) ht (hok x (by simp [Op.operands]))
        rw [e0] at dx
        obtain ⟨cap, hcap, hrun⟩ := run_strBytesI (P := P) hu1 hu2 hue q w
        obtain ⟨zi, hi, es⟩ := sizeOfT_some hs
        have hco : P.cellsOf e = 1 := by simp [Program.cellsOf, hi, es]
        refine Makes.of (convert s d (a.eval x)) ⟨_, w.drawn + 1, cap, _, by rw [den_str dx]; exact hrun, fun σ' b hl hb => ⟨by rw [llen_eq]; exact den_slice_mk hb 0 q.length (.opn 0), ?_⟩⟩
        refine ⟨_, _, _, rfl, bytesCells_den σ' q, ?_, fun i hi => ?_, .inr (Nat.le_refl _), ?_⟩
        · simp [llen_eq]
        · rw [llen_eq] at hi
          simp [strCellsA, hi, Array.getElem?_append]
        · rw [llen_eq]
          refine ⟨hcap, ?_, ?_, by omega⟩
          · simp [strCellsA, hco]; omega
          · show q.length ≤ cap * _; rw [hco]; omega
      · cases hc
    · split at hc <;> cases hc
    · split at hc <;> cases hc
    · split at hc <;> cases hc
    · cases hc
  | _ =>
    simp only [compileOp, compileBin, compileCall, compileBuiltin, compileLen, compileAppend, compileCopy, compileSlice, compileIndexAddr, compileIndex, compileLookup, compileMapEntry] at hc
    (repeat' split at hc) <;> cases hc
end
end Go.Proofs.YtgemonlknehegaaGreatDoor.AI
namespace Go.Proofs.YtgemonlknehegaaGreatDoor.AI
open Go
set_option linter.unusedVariables false
set_option linter.unusedSimpArgs false
section
variable {P : Program} {N : Nat} {σ : Sig} {h : H} {w : World} {t : Tm} {a : Act}
theorem oneCell_one {v : Value} (h : v.oneCell = true) : v.oneCell' = true := by
  cases v <;> first | rfl | cases h
theorem allOne_den : ∀ {l : List AV} {vs : List Value}, allOne l = true → denL σ l = some vs → ∀ v ∈ vs, v.oneCell' = true := by
  intro l
  induction l with
  | nil => intro vs _ hd v hv; rw [denL_nil] at hd; cases hd; cases hv
  | cons x l ih =>
    intro vs h1 hd v hv
    obtain ⟨u, r, hu, hr, rfl⟩ := denL_cons.1 hd
    have h2 := (allOne_iff _).1 h1
    rcases List.mem_cons.1 hv with e | e
    · subst e; exact oneCell_one (den_one hu (h2 x (by simp)))
    · exact ih ((allOne_iff _).2 fun y hy => h2 y (by simp [hy])) hr v e
/-- what cells written leave -/
theorem setCells_heap (b : Nat) : ∀ (vs : List Value) (o : Nat) (w : World) (c : Array Value) (ty : TypeId) (fz : Nat × Nat), w.heap[b]? = some (.cells c ty fz) → o + vs.length ≤ c.size →
    ∃ c', (∀ k, (w.setCells b o vs).heap[k]? = if k = b then some (.cells c' ty fz) else w.heap[k]?) ∧ c'.size = c.size ∧ (∀ j, j < vs.length → c'[o + j]? = vs[j]?) ∧ (∀ j, j < o ∨ o + vs.length ≤ j → c'[j]? = c[j]?) ∧
      (w.setCells b o vs).heap.size = w.heap.size ∧ (w.setCells b o vs).os = w.os ∧ (w.setCells b o vs).tape = w.tape ∧ (w.setCells b o vs).output = w.output
  | [], o, w, c, ty, fz, hg, _ => by
    refine ⟨c, fun k => ?_, rfl, fun j hj => by simp at hj, fun _ _ => rfl, rfl, rfl, rfl, rfl⟩
    split
    · rename_i e; subst e; exact hg
    · rfl
  | v :: r, o, w, c, ty, fz, hg, hle => by
    have hlt : b < w.heap.size := (Array.getElem?_eq_some_iff.1 hg).1
    have hv : w.heap[b] = .cells c ty fz := (Array.getElem?_eq_some_iff.1 hg).2
    have h1 : ∀ k, (w.setCell ⟨b, o, none⟩ v).heap[k]? = if k = b then some (.cells (c.setIfInBounds o v) ty fz) else w.heap[k]? := fun k => by
      unfold World.setCell
      simp only [Array.getElem?_modify]
      by_cases e : b = k
      · subst e; simp [hg]
      · rw [if_neg e, if_neg (fun e' => e e'.symm)]
    have h2 : (w.setCell ⟨b, o, none⟩ v).heap.size = w.heap.size := by simp [World.setCell]
    obtain ⟨c', i1, i2, i3, i4, i5, i6, i7, i8⟩ := setCells_heap b r (o + 1) (w.setCell ⟨b, o, none⟩ v) (c.setIfInBounds o v) ty fz (by rw [h1, if_pos rfl]) (by simp at hle ⊢; omega)
    refine ⟨c', fun k => ?_, by simpa using i2, fun j hj => ?_, fun j hj => ?_, by rw [World.setCells, i5, h2], i6, i7, i8⟩
    · rw [World.setCells, i1]
      by_cases e : k = b
      · rw [if_pos e, if_pos e]
      · rw [if_neg e, if_neg e, h1, if_neg e]
    · cases j with
      | zero =>
        rw [List.length_cons] at hle
        rw [Nat.add_zero, i4 _ (.inl (by omega)), Array.getElem?_setIfInBounds_self_of_lt (by omega)]
        rfl
      | succ j =>
        have := i3 j (by simpa using hj)
        rw [show o + (j + 1) = o + 1 + j by omega, this]; simp
    · rw [List.length_cons] at hj
      rw [i4 j (by omega)]
      rw [Array.getElem?_setIfInBounds_ne (by omega)]
theorem thaw_not {c : Array Value} {fz : Nat × Nat} {b j : Nat} {ty : TypeId} (hg : w.heap[b]? = some (.cells c ty fz)) (ht : thaw c.size fz) (hj : j < c.size) : w.frozen? ⟨b, j, none⟩ = false := by
  unfold World.frozen?
  simp only [hg]
  rcases ht with e | e
  · simp; omega
  · simp; omega
/-- CELLS WRITTEN: us at the place p of a row on; cells' is what is known then. -/
theorem write_ok (hh : Holds P N σ h w) {b : Pos} {ty : TypeId} {cells : List AV} {n : Nat} {o : Option Nat} (hb : h.objs.get b = some (.row ty cells n o)) {l : Loc} (hl : σ b = some l)
    {us : List Value} (h1 : ∀ v ∈ us, v.oneCell' = true) {p : Nat} {c : Array Value} {fz : Nat × Nat} {vs : List Value} (r : RowAt P σ w l ty cells n o c fz vs) (hfit : l.base + p + us.length ≤ c.size)
    {cells' : List AV} {n' : Nat} {vs' : List Value} (hd : denL σ cells' = some vs') (hlen : vs'.length = n')
    (hval : ∀ i, i < n' → (p ≤ i ∧ i < p + us.length ∧ vs'[i]? = us[i - p]?) ∨ ((i < p ∨ p + us.length ≤ i) ∧ i < n ∧ vs'[i]? = vs[i]?))
    (hsh : match o with | none => n' = n | some _ => n' ≤ l.cap * P.cellsOf ty) :
    ∃ w', (storeCells (l.addr p) us 0).run P w = .ok () w' ∧ Ext P N σ h w σ (h.set b (.row ty cells' n' o)) w' := by
  obtain ⟨c', i1, i2, i3, i4, i5, i6, i7, i8⟩ := setCells_heap l.blk us (l.base + p) w c ty fz r.heap hfit
  have hrun := run_storeCells_cells (P := P) l.blk (l.base + p) us 0 w
    (fun j hj => by simp [World.cell?, r.heap]; omega)
    (fun j hj => thaw_not r.heap r.thaw (by omega)) h1
  refine ⟨_, hrun, ?_⟩
  refine Ext.upd (o' := .row ty cells' n' o) hh hb hl ⟨c', fz, vs', rfl, hd, hlen, fun i hi => ?_, i2 ▸ r.thaw, ?_⟩ i1 i5 i6 i7 i8
  · rcases hval i hi with ⟨a1, a2, a3⟩ | ⟨a1, a2, a3⟩
    · rw [a3, show l.base + i = l.base + p + (i - p) by omega, i3 _ (by omega)]
    · rw [a3, i4 _ (by omega), r.cell i a2]
  · have := r.shape
    cases o with
    | none => simp only at this hsh ⊢; exact ⟨this.1, by rw [i2, this.2, hsh]⟩
    | some least => simp only at this hsh ⊢; exact ⟨this.1, by rw [i2]; exact this.2.1, hsh, this.2.2.2⟩
theorem hput_ok (hh : Holds P N σ h w) {b : Pos} {off : Nat} {xs : List AV} {h' : H} (hp : hput h b off xs = some h') (h1 : allOne xs = true) {us : List Value} (hx : denL σ xs = some us) {l : Loc} (hl : σ b = some l) :
    ∃ w', (storeCells (l.addr off) us 0).run P w = .ok () w' ∧ Ext P N σ h w σ h' w' := by
  obtain ⟨ty, cells, n, o, hb, h2⟩ := row_some hp
  obtain ⟨cells', h3, h4⟩ := bindS_some h2
  cases h4
  obtain ⟨h5, rfl⟩ := lput_some h3
  obtain ⟨c, fz, vs, r⟩ := hh.rowAt hb hl
  have hn := r.cells_len
  have hu := denL_length hx
  have hle := r.le
  have hvl := r.len
  refine write_ok hh hb hl (allOne_den h1 hx) r (p := off) (n' := n) (vs' := vs.take off ++ us ++ vs.drop (off + us.length)) (by omega) ?_ ?_ (fun i hi => ?_) ?_
  · refine denL_append.2 ⟨_, _, denL_append.2 ⟨_, _, denL_take _ r.den, hx, rfl⟩, ?_, rfl⟩
    rw [hu]; exact denL_drop _ r.den
  · simp; omega
  · by_cases c1 : off ≤ i ∧ i < off + us.length
    · refine .inl ⟨c1.1, c1.2, ?_⟩
      rw [List.append_assoc, List.getElem?_append_right (by simp; omega)]
      rw [List.getElem?_append_left (by simp; omega)]
      congr 1; simp; omega
    · refine .inr ⟨by omega, hi, ?_⟩
      by_cases c2 : i < off
      · rw [List.append_assoc, List.getElem?_append_left (by simp; omega), List.getElem?_take, if_pos c2]
      · rw [List.getElem?_append_right (by simp; omega), List.getElem?_drop]
        congr 1; simp; omega
  · have := r.shape
    cases o with
    | none => rfl
    | some least => simp only at this ⊢; exact this.2.2.1
/-- a store -/
theorem hstore_ok (hh : Holds P N σ h w) {p v : AV} {ti : TypeId} {i : TypeInfo} (hi : P.info? ti = some i) {h' : H} (hs : hstore h p i.size v = some h') {vp vv : Value} (hp : den σ p = some vp) (hv : den σ v = some vv) :
    ∃ w', (Instr.storeAt ti vp vv).run P w = .ok () w' ∧ Ext P N σ h w σ h' w' := by
  obtain ⟨b, off, rfl, h1⟩ := onPtr_some (x := p) hs
  obtain ⟨h2, h3⟩ := whenS_some h1
  obtain ⟨h4, h5⟩ := whenS_some h3
  obtain ⟨l, hl, rfl⟩ := den_ptr hp
  obtain ⟨us, d1, d2⟩ := den_cells hv
  obtain ⟨w', e1, e2⟩ := hput_ok hh h5 h4 d1 hl
  refine ⟨w', ?_, e2⟩
  have hsz : vv.cells.size = i.size := by
    have := beq_iff.1 h2
    rw [llen_eq] at this
    rw [d2, List.size_toArray, denL_length d1, this]
  have hto : vv.cells.toList = us := by rw [d2]
  simp [Instr.storeAt, Instr.sureAddr, storeVar, run_sizeOfI hi, hsz, hto, e1]
/-- cells laid over a slice's head -/
theorem hputS_ok (hh : Holds P N σ h w) {s : AV} {xs : List AV} {h' : H} (hp : hputS h s xs = some h') {us : List Value} (hx : denL σ xs = some us) {q : Addr} {n c : Nat} (hs : den σ s = some (.slice (some q) n c)) :
    ∃ w', (storeCells q us 0).run P w = .ok () w' ∧ Ext P N σ h w σ h' w' := by
  cases xs with
  | nil =>
    cases hp
    rw [denL_nil] at hx; cases hx
    exact ⟨w, rfl, Ext.refl hh⟩
  | cons x xs =>
    obtain ⟨b, off, len, cap, rfl, h1⟩ := onSlice_some (x := s) (show s.onSlice none (fun b off _ _ => whenS (allOne (x :: xs)) (hput h b off (x :: xs))) = some h' from hp)
    obtain ⟨h2, h3⟩ := whenS_some h1
    obtain ⟨l, hl, e⟩ := den_slice hs
    cases e
    exact hput_ok hh h3 h2 hx hl
end
end Go.Proofs.YtgemonlknehegaaGreatDoor.AI
namespace Go.Proofs.YtgemonlknehegaaGreatDoor.AI
open Go
set_option linter.unusedVariables false
set_option linter.unusedSimpArgs false
section
variable {P : Program} {N : Nat} {σ : Sig} {h : H} {w : World} {t : Tm} {a : Act}
theorem nextcap_le {need c : Nat} (h1 : need ≤ 2097152) (h2 : c < need) : Builtin.nextslicecap need c ≤ 16777216 := by
  unfold Builtin.nextslicecap
  split
  · omega
  · split
    · omega
    · simp only [Builtin.growBy]
      (repeat' split) <;> omega
/-- what is appended: n elements' cells us -/
def Brings (P : Program) (w : World) (sz : Nat) (zv : Value) (tu : TypeId) (x : Value) (n : Nat) (us : List Value) : Prop :=
  (∃ k q, P.underlying tu = some (.int k) ∧ x = .int q (Int.ofNat n) ∧ us = (List.replicate n zv.cells.toList).flatten) ∨
  ((P.underlying tu = some .string ∨ ∃ e, P.underlying tu = some (.slice e)) ∧ Builtin.lenOf x = Sem.pure n ∧ ∀ d, (Builtin.firstCells sz n x).run P { w with drawn := d } = .ok us.toArray { w with drawn := d })
section
variable {ti tu e : TypeId} {i : TypeInfo} {zv x : Value} {n m c : Nat} {us : List Value}
theorem run_new (hi : P.info? e = some i) (hz : i.zero = some zv) (hzs : zv.cells.size = i.size) (n : Nat) (w : World) :
    (if n * i.size = 0 then (Sem.pure #[] : Sem (Array Value)) else (zeroValue e).bind fun z => Sem.pure (Builtin.zeroCells z.cells n)).run P w = .ok ((List.replicate n zv.cells.toList).flatten).toArray w := by
  split
  · rename_i h0
    have h1 : ((List.replicate n zv.cells.toList).flatten).toArray = #[] := by
      apply Array.ext'
      apply List.eq_nil_of_length_eq_zero
      simp [hzs, h0]
    rw [h1]; rfl
  · have := run_zeroI (P := P) hi hz w
    have e : ((zeroValue e).bind fun z => Sem.pure (Builtin.zeroCells z.cells n)) = (do let z ← zeroValue e; pure (Builtin.zeroCells z.cells n)) := rfl
    rw [e, Sem.run_bind, this]
    simp [Builtin.zeroCells, zero_range]
theorem run_app_room (ht : P.underlying ti = some (.slice e)) (hi : P.info? e = some i) (hz : i.zero = some zv) (hzs : zv.cells.size = i.size) (hbt : i.bytes < 65536) (hn : n < 1048576)
    (hs : Brings P w i.size zv tu x n us) (hle : m + n ≤ c) (base : Option Addr) (ty : TypeId) : (Builtin.append_ #[ti, tu] ty #[.slice base m c, x]).run P w =
      match base with | none => .ok (.slice none (m + n) c) w | some q => ((storeCells (q.add (m * i.size)) us 0).run P w).andThen fun _ w' => .ok (.slice (some q) (m + n) c) w' := by
  rcases hs with ⟨k, q, hu, rfl, rfl⟩ | ⟨hu, hl, hc⟩
  · have w1 : IntKind.i64.wrap (Int.ofNat n) = (n : Int) := wrap_small (k := .i64) (by simp [bnd]; omega)
    have w2 : IntKind.i64.wrap (n : Int) = (n : Int) := w1
    have h48 : ¬ ((n : Int) * (i.bytes : Int) > 281474976710656) := by
      have : n * i.bytes ≤ 1048576 * 65536 := Nat.mul_le_mul (by omega) (by omega)
      have h9 : (n : Int) * i.bytes = ((n * i.bytes : Nat) : Int) := by simp
      rw [h9]; omega
    have h0 : ¬ ((n : Int) < 0) := by omega
    have hb : i.bytes * n ≤ 65536 * 1048576 := Nat.mul_le_mul (by omega) (by omega)
    by_cases hk0 : n * i.size = 0
    · have h1 : (List.replicate n zv.cells.toList).flatten = [] := by
        apply List.eq_nil_of_length_eq_zero
        simp [hzs, hk0]
      rw [h1]
      cases base with
      | none => simp [Builtin.append_, run_underlying ht, run_underlying hu, sizeOf, typeInfo, hi, hle, asInt, asIntOf, w2, hk0, h48, h0]
      | some q => simp [Builtin.append_, run_underlying ht, run_underlying hu, sizeOf, typeInfo, hi, hle, asInt, asIntOf, w2, hk0, h48, h0, storeCells]
    · cases base with
      | none => simp [Builtin.append_, run_underlying ht, run_underlying hu, sizeOf, typeInfo, hi, hle, asInt, asIntOf, w2, hk0, h48, h0, run_zeroI hi hz]
      | some q =>
        simp [Builtin.append_, run_underlying ht, run_underlying hu, sizeOf, typeInfo, hi, hle, asInt, asIntOf, w2, hk0, h48, h0, run_zeroI hi hz, Builtin.zeroCells, zero_range]
  · have hc0 := hc w.drawn
    rcases hu with hu | ⟨e', hu⟩
    all_goals
      cases base with
      | none => simp [Builtin.append_, run_underlying ht, run_underlying hu, sizeOf, typeInfo, hi, hl, hle, hc0]
      | some q => simp [Builtin.append_, run_underlying ht, run_underlying hu, sizeOf, typeInfo, hi, hl, hle, hc0]
/-- what the new row holds -/
def grown (zv : Value) (olds us : List Value) (k : Nat) : Array Value := (olds ++ us ++ (List.replicate k zv.cells.toList).flatten).toArray
theorem run_app_grow (ht : P.underlying ti = some (.slice e)) (hi : P.info? e = some i) (hz : i.zero = some zv) (hzs : zv.cells.size = i.size) (hbt : i.bytes < 65536) (hn : n < 1048576) (hm : m < 1048576)
    (hs : Brings P w i.size zv tu x n us) (hgt : c < m + n) {base : Option Addr} {olds : List Value} (hold : ∀ d, (Builtin.firstCells i.size m (.slice base m c)).run P { w with drawn := d } = .ok olds.toArray { w with drawn := d }) (ty : TypeId) :
    ∃ nc, m + n ≤ nc ∧ (Builtin.append_ #[ti, tu] ty #[.slice base m c, x]).run P w = .ok (.slice (some ⟨w.heap.size, 0, none⟩) (m + n) nc) { w with heap := w.heap.push (.cells (grown zv olds us (nc - (m + n))) e), drawn := w.drawn + 1 } := by
  have hnle : ¬ (m + n ≤ c) := by omega
  have h63 : ¬ (9223372036854775807 < ((m : Int) + (n : Int))) := by omega
  have hcap : Builtin.nextslicecap (m + n) c * i.bytes ≤ 16777216 * 65536 := Nat.mul_le_mul (nextcap_le (by omega) hgt) (by omega)
  have h48' : ¬ (281474976710656 < Builtin.nextslicecap (m + n) c * i.bytes) := by omega
  have hq : (Question.appendCap (m + n) c e).forced = false := rfl
  refine ⟨(Question.appendCap (m + n) c e).cut (w.tape w.drawn (.appendCap (m + n) c e)), by show m + n ≤ m + n + _; omega, ?_⟩
  have ho : (Builtin.firstCells i.size m (.slice base m c)).run P w.drew = .ok olds.toArray w.drew := hold (w.drawn + 1)
  rcases hs with ⟨k, q, hu, rfl, rfl⟩ | ⟨hu, hl, hc⟩
  · have w2 : IntKind.i64.wrap (n : Int) = (n : Int) := wrap_small (k := .i64) (by simp [bnd]; omega)
    have hb : i.bytes * n ≤ 65536 * 1048576 := Nat.mul_le_mul (by omega) (by omega)
    have h48 : ¬ ((n : Int) * (i.bytes : Int) > 281474976710656) := by
      have : n * i.bytes ≤ 1048576 * 65536 := Nat.mul_le_mul (by omega) (by omega)
      have h9 : (n : Int) * i.bytes = ((n * i.bytes : Nat) : Int) := by simp
      rw [h9]; omega
    have h0 : ¬ ((n : Int) < 0) := by omega
    by_cases hk0 : n * i.size = 0
    · have h1 : (List.replicate n zv.cells.toList).flatten = [] := by
        apply List.eq_nil_of_length_eq_zero
        simp [hzs, hk0]
      rw [h1]
      simp [Builtin.append_, run_underlying ht, run_underlying hu, sizeOf, typeInfo, hi, hnle, asInt, asIntOf, w2, hk0, h48, h0, h63, h48', hq, run_zeroI hi hz, newRow, ho, Builtin.zeroCells, zero_range, grown]
      rfl
    · simp [Builtin.append_, run_underlying ht, run_underlying hu, sizeOf, typeInfo, hi, hnle, asInt, asIntOf, w2, hk0, h48, h0, h63, h48', hq, run_zeroI hi hz, newRow, ho, Builtin.zeroCells, zero_range, grown]
      rfl
  · have hc0 : (Builtin.firstCells i.size n x).run P w.drew = .ok us.toArray w.drew := hc (w.drawn + 1)
    rcases hu with hu | ⟨e', hu⟩
    all_goals
      simp [Builtin.append_, run_underlying ht, run_underlying hu, sizeOf, typeInfo, hi, hl, hnle, hc0, h63, h48', hq, run_zeroI hi hz, newRow, ho, Builtin.zeroCells, zero_range, grown]
      rfl
end
end
end Go.Proofs.YtgemonlknehegaaGreatDoor.AI
namespace Go.Proofs.YtgemonlknehegaaGreatDoor.AI
open Go
set_option linter.unusedVariables false
set_option linter.unusedSimpArgs false
section
variable {P : Program} {N : Nat} {σ : Sig} {h : H} {w : World} {t : Tm} {a : Act}
/-- WHAT AN OPERATION THAT CALLS NOTHING GIVES. -/
def Plain (P : Program) (N : Nat) (σ : Sig) (h : H) (w : World) (s : Sem Value) (rs : List VR) : Prop :=
  ∃ r ∈ rs, ∃ σ' w' u, s.run P w = .ok u w' ∧ den σ' r.v = some u ∧ Ext P N σ h w σ' r.h w'
theorem row_ne {β : Type} {b : Pos} {k : TypeId → List AV → Nat → Option Nat → List β} (hr : h.row b [] k ≠ []) :
    ∃ ty cells n o, h.objs.get b = some (.row ty cells n o) ∧ h.row b [] k = k ty cells n o := by
  unfold H.row at hr ⊢
  cases hg : h.objs.get b with
  | none => rw [hg] at hr; exact absurd rfl hr
  | some o =>
    rw [hg] at hr
    cases o with
    | row ty cells n o => exact ⟨ty, cells, n, o, rfl, rfl⟩
    | map _ _ => exact absurd rfl hr
    | iter _ _ _ _ => exact absurd rfl hr
    | loop _ _ _ _ _ _ _ _ => exact absurd rfl hr
    | dfr => exact absurd rfl hr
theorem pick_ne {b : Bool} {x y : List VR} (h : pick b x y ≠ []) : (b = true ∧ pick b x y = x) ∨ (b = false ∧ pick b x y = y) := by
  cases b
  · exact .inr ⟨rfl, rfl⟩
  · exact .inl ⟨rfl, rfl⟩
theorem cap_on {β : Type} (c : ACap) (f g : Nat → β) : (∃ n, c = .known n ∧ c.on f g = f n) ∨ (∃ n, c = .opn n ∧ c.on f g = g n) := by
  cases c with
  | known n => exact .inl ⟨n, rfl, rfl⟩
  | opn n => exact .inr ⟨n, rfl, rfl⟩
/-- A NEW ROW whose capacity is open. -/
theorem newRowOpen_ok (hh : Holds P N σ h w) {ty : TypeId} {cells : List AV} {n least nc : Nat} {vs : List Value} {cs : Array Value} (hd : denL σ cells = some vs) (hv : vs.length = n) (hp : ∀ i, i < n → cs[i]? = vs[i]?)
    (hpos : 0 < P.cellsOf ty) (hsz : cs.size = nc * P.cellsOf ty) (hle : least ≤ nc) (hn : n ≤ nc * P.cellsOf ty) {w' : World} (hw : w'.heap = w.heap.push (.cells cs ty)) (hos : w'.os = w.os) (htape : w'.tape = w.tape) (hout : w'.output = w.output) :
    ∃ r ∈ newRowOpen h ty cells n least, ∃ σ' u, u = .slice (some ⟨w.heap.size, 0, none⟩) least nc ∧ den σ' r.v = some u ∧ Ext P N σ h w σ' r.h w' := by
  have hnn := hh.next_none
  refine ⟨_, List.mem_singleton.2 rfl, σ.put h.next ⟨w.heap.size, 0, nc⟩, _, rfl, ?_, ?_⟩
  · exact den_slice_mk (Sig.put_same _ _ _) 0 least (.opn 0)
  · refine Ext.alloc hh rfl ?_ hw hos htape hout
    exact ⟨cs, (0, 0), vs, rfl, denL_mono (Sig.le_put hnn _) hd, hv, fun i hi => by simp [hp i hi], .inl rfl, hle, by simp [hsz], hn, hpos⟩
/-- A ROW SEEN ANEW, from a place on: its elder number is gone. -/
theorem adopt_ok (hh : Holds P N σ h w) {b : Pos} {ty : TypeId} {cells0 : List AV} {n0 : Nat} {o0 : Option Nat} (hb : h.objs.get b = some (.row ty cells0 n0 o0)) {l : Loc} (hl : σ b = some l)
    {cells : List AV} {n least base cap : Nat} {vs : List Value} {c' : Array Value} {fz : Nat × Nat} (hd : denL σ cells = some vs) (hv : vs.length = n) (hp : ∀ i, i < n → c'[base + i]? = vs[i]?) (hth : thaw c'.size fz)
    (hpos : 0 < P.cellsOf ty) (hsz : c'.size = base + cap * P.cellsOf ty) (hle : least ≤ cap) (hn : n ≤ cap * P.cellsOf ty) {w' : World} (hw : ∀ k, w'.heap[k]? = if k = l.blk then some (.cells c' ty fz) else w.heap[k]?) (hz : w'.heap.size = w.heap.size)
    (hos : w'.os = w.os) (htape : w'.tape = w.tape) (hout : w'.output = w.output) :
    ∃ r ∈ newRowOpen (h.del b) ty cells n least, ∃ σ' u, u = .slice (some ⟨l.blk, base, none⟩) least cap ∧ den σ' r.v = some u ∧ Ext P N σ h w σ' r.h w' := by
  have hh' := (Ext.del hh b).holds
  have hnn := hh'.next_none
  have hgd : ∀ x ox, (h.del b).objs.get x = some ox → x ≠ b ∧ h.objs.get x = some ox := fun x ox hx => by
    have : (h.objs.del b).get x = some ox := hx
    rw [T.get_del] at this
    split at this
    · cases this
    · rename_i e; exact ⟨e, this⟩
  refine ⟨_, List.mem_singleton.2 rfl, σ.put (h.del b).next ⟨l.blk, base, cap⟩, _, rfl, ?_, ?_⟩
  · exact den_slice_mk (Sig.put_same _ _ _) 0 least (.opn 0)
  · refine Ext.adopt (h := h.del b) (h' := h) hh' (k := l.blk) (ob := .cells c' ty fz) rfl (hh.low b _ l hb hl) (fun x ox lx hx hlx e => ?_) ?_ (fun j hj _ => by rw [hw, if_neg hj]) (by rw [hw, if_pos rfl]) (by omega) (.inl ⟨b, _, l, hb, hl, rfl⟩) (fun x ox hx => (hgd x ox hx).2) rfl hos htape hout
    · exact (hgd x ox hx).1 (hh.inj x b ox _ lx l (hgd x ox hx).2 hb hlx hl e)
    · exact ⟨c', fz, vs, rfl, denL_mono (Sig.le_put hnn _) hd, hv, fun i hi => by simp [hp i hi], hth, hle, by simp [hsz], hn, hpos⟩
/-- cells that are there, read -/
theorem loadCells_any {b : Nat} {c : Array Value} {ty : TypeId} {fz : Nat × Nat} (hg : w.heap[b]? = some (.cells c ty fz)) {o m : Nat} (hle : o + m ≤ c.size) :
    ∃ us : List Value, us.length = m ∧ (∀ j, j < m → us[j]? = c[o + j]?) ∧ ∀ d, (loadCells ⟨b, o, none⟩ m).run P { w with drawn := d } = .ok us.toArray { w with drawn := d } := by
  have hlen : ((c.toList.drop o).take m).length = m := by simp; omega
  refine ⟨(c.toList.drop o).take m, hlen, fun j hj => ?_, fun d => ?_⟩
  · rw [List.getElem?_take, if_pos hj, List.getElem?_drop]; simp
  · have := run_loadCells_list (P := P) { w with drawn := d } ⟨b, o, none⟩ ((c.toList.drop o).take m) (fun j v hv => by
      have e : (⟨b, o, none⟩ : Addr).add j = ⟨b, o + j, none⟩ := by
        have := addr_add ⟨b, o, 0⟩ 0 j
        simpa [Loc.addr] using this
      rw [e]
      rw [List.getElem?_take] at hv
      split at hv
      · rw [List.getElem?_drop] at hv
        simp [World.cell?, hg]
        simpa using hv
      · cases hv)
    rw [hlen] at this
    exact this
end
end Go.Proofs.YtgemonlknehegaaGreatDoor.AI
