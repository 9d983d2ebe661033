/- The chain of TopRefuses, part 5. -/
import Derived.Test.YtgemonlknehegaaGreatDoorK04
import Derived.Laws.BytesArg
import Derived.Laws.CopyRow
namespace Go.Proofs.YtgemonlknehegaaGreatDoor.AI
open Go
set_option linter.unusedVariables false
set_option linter.unusedSimpArgs false
section
variable {P : Program} {N : Nat} {σ : Sig} {h : H} {w : World} {t : Tm} {a : Act}
def okO (x : Option Operand) : Prop := ∀ y, x = some y → okOpd y = true
theorem bnds_ok (ht : TR σ t a.tmps) {lo hi mx : Option Operand} (hlo : okO lo) (hhi : okO hi) (hmx : okO mx) {len cap cap' : Nat} (hcap : cap ≤ cap') {k : Nat → Nat → Option Nat → Option AV} {r : AV}
    (h : bnds (lo.map (opd · t)) (hi.map (opd · t)) (mx.map (opd · t)) len cap k = some r) :
    ∃ l hh m, k l hh m = some r ∧ l ≤ hh ∧ (match m with | none => mx = none ∧ (hh = len ∨ hh ≤ cap) | some m => hh ≤ m ∧ m ≤ cap) ∧
      ∀ w, (Instr.sliceBounds true len cap' (lo.map a.eval) (hi.map a.eval) (mx.map a.eval)).run P w = .ok (l, hh, m.getD cap') w := by
  have low : ∀ (hh l : Nat) (c : BoundsCode), bound (lo.map (opd · t)) hh 0 = some l → l ≤ hh ∧
      ∀ w, (match lo.map a.eval with | some v => Instr.sliceBound v hh c | none => (pure 0 : Sem Nat)).run P w = .ok l w := fun hh l c hb => by
    rcases bound_some hb with ⟨e, rfl⟩ | ⟨q, e, hq, hle⟩
    · refine ⟨Nat.zero_le _, fun w => ?_⟩
      cases lo with
      | none => rfl
      | some y => cases e
    · refine ⟨hle, fun w => ?_⟩
      obtain ⟨u, hu1, hu2⟩ := opt_ok ht lo hlo e
      obtain ⟨k, rfl⟩ := den_natOf hq hu2
      rw [hu1]; exact run_sliceBound _ hle w
  have fin : ∀ (hh l m : Nat) (c : BoundsCode), bound (lo.map (opd · t)) hh 0 = some l → ∀ w, (match lo.map a.eval with
      | some v => do let l ← Instr.sliceBound v hh c; pure (l, hh, m)
      | none => do let l ← pure 0; pure (l, hh, m) : Sem (Nat × Nat × Nat)).run P w = .ok (l, hh, m) w := fun hh l m c hb w => by
    have e := (low hh l c hb).2 w
    cases lo with
    | none =>
      have e' : (pure 0 : Sem Nat).run P w = .ok l w := e
      simp only [Option.map_none, Sem.run_bind, e', Result.andThen_ok, Sem.run_pure]
    | some y =>
      have e' : (Instr.sliceBound (a.eval y) hh c).run P w = .ok l w := e
      simp only [Option.map_some, Sem.run_bind, e', Result.andThen_ok, Sem.run_pure]
  cases mx with
  | none =>
    obtain ⟨hh, h1, h⟩ := bindS_some (show bindS (bound (hi.map (opd · t)) cap len) (fun hh => bindS (bound (lo.map (opd · t)) hh 0) fun l => k l hh none) = some r from h)
    obtain ⟨l, h2, hf⟩ := bindS_some h
    have hl := low hh l .sliceB h2
    rcases bound_some h1 with ⟨e, eh⟩ | ⟨q, e, hq, hle⟩
    · cases hi with
      | some y => cases e
      | none =>
        refine ⟨l, hh, none, hf, hl.1, ⟨rfl, .inl eh⟩, fun w => ?_⟩
        rw [← eh]
        simp only [Instr.sliceBounds, Option.map_none, Sem.run_bind, Sem.run_pure, Result.andThen_ok, Option.isSome_none, Bool.false_eq_true, if_false]
        exact fin hh l cap' .sliceB h2 w
    · obtain ⟨u, hu1, hu2⟩ := opt_ok ht hi hhi e
      obtain ⟨kk, rfl⟩ := den_natOf hq hu2
      cases hi with
      | none => cases e
      | some y =>
        refine ⟨l, hh, none, hf, hl.1, ⟨rfl, .inr hle⟩, fun w => ?_⟩
        simp only [Option.map_some, Option.some.injEq] at hu1
        simp only [Instr.sliceBounds, Option.map_none, Option.map_some, hu1, Sem.run_bind, Sem.run_pure, Result.andThen_ok, Option.isSome_none, Bool.false_eq_true, if_false, if_true]
        rw [run_sliceBound _ (Nat.le_trans hle hcap)]
        simp only [Result.andThen_ok]
        exact fin hh l cap' .sliceB h2 w
  | some v =>
    cases hi with
    | none => cases h
    | some y =>
      obtain ⟨m, h1, h⟩ := bindS_some (show bindS (bound (some (opd v t)) cap 0) (fun m => bindS (bound (some (opd y t)) m 0) fun hh => bindS (bound (lo.map (opd · t)) hh 0) fun l => k l hh (some m)) = some r from h)
      obtain ⟨hh, h2, h⟩ := bindS_some h
      obtain ⟨l, h3, h⟩ := bindS_some h
      have hl := low hh l .slice3C h3
      rcases bound_some h1 with ⟨e, _⟩ | ⟨q, e, hq, hle⟩
      · cases e
      · cases e
        rcases bound_some h2 with ⟨e, _⟩ | ⟨q', e, hq', hle'⟩
        · cases e
        · cases e
          obtain ⟨k1, e1⟩ := den_natOf hq (opd_ok (a := a) ht (hmx v rfl))
          obtain ⟨k2, e2⟩ := den_natOf hq' (opd_ok (a := a) ht (hhi y rfl))
          refine ⟨l, hh, some m, h, hl.1, ⟨hle', hle⟩, fun w => ?_⟩
          simp only [Instr.sliceBounds, Option.map_some, e1, e2, Sem.run_bind, Sem.run_pure, Result.andThen_ok, Option.isSome_some, if_true]
          rw [run_sliceBound _ (Nat.le_trans hle hcap)]
          simp only [Result.andThen_ok]
          rw [run_sliceBound _ hle']
          simp only [Result.andThen_ok]
          exact fin hh l m .slice3C h3 w
theorem cutK_den {sz : Nat} {b : Pos} {off l hh m : Nat} {lc : Loc} (hl : σ b = some lc) :
    den σ (cutK sz b off l hh m) = some (.slice (some (if m = l then lc.addr off else (lc.addr off).add (l * sz))) (hh - l) (m - l)) := by
  unfold cutK
  rw [force_eq, force_eq, force_eq]
  by_cases e : m = l
  · rw [beq_iff.2 e, pick_true, if_pos e]; simp only [den, hl, capOf]; rfl
  · rw [beq_false.2 e, pick_false, if_neg e, addr_add]; simp only [den, hl, capOf]; rfl
theorem slice_ok (hh : Holds P N σ h w) (ht : TR σ t a.tmps) {xt e : TypeId} {i : TypeInfo} (hu : P.underlying xt = some (.slice e)) (hi : P.info? e = some i) {x : Operand} {lo hi' mx : Option Operand}
    (hx : okOpd x = true) (hlo : okO lo) (hhi : okO hi') (hmx : okO mx) {v : AV} (hv : aSlice i.size h (opd x t) (lo.map (opd · t)) (hi'.map (opd · t)) (mx.map (opd · t)) = some v) :
    ∃ u, den σ v = some u ∧ (Instr.sliceAt xt (a.eval x) (lo.map a.eval) (hi'.map a.eval) (mx.map a.eval)).run P w = .ok u w := by
  have dx := opd_ok (a := a) ht hx
  have step : ∀ {q : Option Addr} {len cap : Nat} {l hh2 m : Nat}, a.eval x = .slice q len cap →
      (∀ w, (Instr.sliceBounds true len cap (lo.map a.eval) (hi'.map a.eval) (mx.map a.eval)).run P w = .ok (l, hh2, m) w) →
      (Instr.sliceAt xt (a.eval x) (lo.map a.eval) (hi'.map a.eval) (mx.map a.eval)).run P w = .ok (.slice (if m = l then q else q.map (·.add (l * i.size))) (hh2 - l) (m - l)) w := fun e hb => by
    rw [e]
    simp only [Instr.sliceAt, Instr.slice, Sem.run_bind, run_underlying hu, Result.andThen_ok, hb, run_sizeOfI hi, Sem.run_pure]
  rcases onSl_some hv with ⟨k, ex, h1⟩ | ⟨b, off, len, cap, ex, h1⟩ | ⟨b, o, k, l, z, ex, h1⟩
  · obtain ⟨hk, h2⟩ := whenS_some h1
    have := NK.no_iff.2.1.1 hk; subst this
    rw [ex] at dx
    obtain ⟨l, h2', m, e1, e2, e3, e4⟩ := bnds_ok ht hlo hhi hmx (Nat.le_refl 0) h2
    have e5 : some (opd x t) = some v := e1
    cases e5
    refine ⟨nilOf .s, by rw [ex]; rfl, ?_⟩
    have hm : h2' = 0 ∧ m.getD 0 = 0 := by
      cases m with
      | none => simp at e3; exact ⟨by omega, rfl⟩
      | some m => simp at e3 ⊢; omega
    rw [step (den_nil dx) e4]
    have : l = 0 := by omega
    subst this
    simp [hm.1, hm.2, nilOf]
  · rw [ex] at dx
    obtain ⟨lc, hlc, ev⟩ := den_slice dx
    cases cap with
    | known c =>
      have h2 : sliceK i.size b off len c (lo.map (opd · t)) (hi'.map (opd · t)) (mx.map (opd · t)) = some v := h1
      obtain ⟨l, h2', m, e1, e2, e3, e4⟩ := bnds_ok ht hlo hhi hmx (Nat.le_refl c) h2
      have e5 : some (cutK i.size b off l h2' (m.getD c)) = some v := by cases m <;> exact e1
      cases e5
      refine ⟨_, cutK_den hlc, ?_⟩
      rw [step ev e4]
      congr 2
      split <;> rfl
    | opn skip =>
      obtain ⟨ty, cells, n, o, hb, h2⟩ := row_some (show h.row b none (fun _ _ _ o => bindS o fun least => sliceO i.size b off len skip least (lo.map (opd · t)) (hi'.map (opd · t)) (mx.map (opd · t))) = some v from h1)
      obtain ⟨least, ho, h3⟩ := bindS_some h2
      subst ho
      obtain ⟨h4, h5⟩ := whenS_some h3
      have hle := ble_iff.1 h4
      obtain ⟨c, fz, vs, r⟩ := hh.rowAt hb hlc
      obtain ⟨q1, q2, q3, q4⟩ := r.shape
      obtain ⟨l, h2', m, e1, e2, e3, e4⟩ := bnds_ok ht hlo hhi hmx (cap' := lc.cap - skip) (show Nat.sub least skip ≤ lc.cap - skip by show least - skip ≤ _; omega) h5
      cases m with
      | some m =>
        cases e1
        refine ⟨_, cutK_den hlc, ?_⟩
        rw [step ev e4]
        simp only [Option.getD_some]
        congr 2
        split <;> rfl
      | none =>
        simp only at e1
        rw [step ev e4]
        simp only [Option.getD_none]
        cases hlt : Nat.blt (Nat.add skip l) least with
        | true =>
          rw [hlt, pick_true, force_eq, force_eq, force_eq] at e1
          cases e1
          have hlt' : skip + l < least := blt_iff.1 hlt
          refine ⟨.slice (some (lc.addr (off + l * i.size))) (h2' - l) (lc.cap - (skip + l)), by simp only [den, hlc, capOf]; rfl, ?_⟩
          rw [if_neg (by omega)]
          simp only [Option.map_some, addr_add]
          rw [show lc.cap - skip - l = lc.cap - (skip + l) by omega]
        | false =>
          rw [hlt, pick_false] at e1
          obtain ⟨h6, h7⟩ := whenS_some e1
          rw [force_eq] at h7
          cases h7
          have e6 := beq_iff.1 h6
          subst e6
          refine ⟨.slice (some (lc.addr (if lc.cap - skip = h2' then off else off + h2' * i.size))) 0 (lc.cap - skip - h2'), by simp only [den, hlc], ?_⟩
          rw [Nat.sub_self]
          by_cases eq : lc.cap - skip = h2'
          · rw [if_pos eq, if_pos eq]
          · rw [if_neg eq, if_neg eq]; simp only [Option.map_some, addr_add]
  · exact nomatch (show (none : Option AV) = some v from h1)
end
end Go.Proofs.YtgemonlknehegaaGreatDoor.AI
namespace Go.Proofs.YtgemonlknehegaaGreatDoor.AI
open Go
set_option linter.unusedVariables false
set_option linter.unusedSimpArgs false
section
variable {P : Program} {N : Nat} {σ : Sig} {h : H} {w : World} {t : Tm} {a : Act}
theorem run_getObj {r : Nat} {o : Obj} (hr : w.heap[r]? = some o) (hn : ∀ c e f, o ≠ .cells c e f) : (getObj r).run P w = .ok o w := by
  cases o with
  | cells c e f => exact absurd rfl (hn _ _ _)
  | _ => simp only [getObj, Sem.run, hr]
theorem cellsBytes_ok : ∀ {cs : List AV} {l : List UInt8} {us : List Value}, cellsBytes cs = some l → denL σ cs = some us → ∃ ns : List Int, us = ns.map (Value.int .u8) ∧ l = ns.map fun n => UInt8.ofNat n.toNat
  | [], l, us, h, hd => by
    cases h
    rw [denL_nil] at hd; cases hd
    exact ⟨[], rfl, rfl⟩
  | c :: cs, l, us, h, hd => by
    obtain ⟨v, r, hv, hr, e⟩ := denL_cons.1 hd
    have h1 : c.onInt none (fun k n => whenS (ikeq k .u8) (bindS (cellsBytes cs) fun r => nat1 n none fun n => some (force n fun n => UInt8.ofNat n :: r))) = some l := h
    obtain ⟨k, n, e1, h2⟩ := onInt_some h1
    obtain ⟨hk, h3⟩ := whenS_some h2
    have e2 := ikeq_iff.1 hk
    obtain ⟨l', h4, h5⟩ := bindS_some h3
    obtain ⟨ns, e3, e4⟩ := cellsBytes_ok h4 hr
    rw [e1] at hv
    cases n with
    | negSucc m => cases h5
    | ofNat m =>
      have h6 : some (force m fun n => UInt8.ofNat n :: l') = some l := h5
      rw [force_eq] at h6; cases h6
      refine ⟨Int.ofNat m :: ns, ?_, ?_⟩
      · rw [e, e3, den_int hv, e2]; rfl
      · rw [e4]; rfl
theorem hcells_ok (hh : Holds P N σ h w) {sz n : Nat} {s : AV} {cs : List AV} (hc : hcells h sz n s = some cs) {vs : Value} (hd : den σ s = some vs) :
    ∃ us, denL σ cs = some us ∧ us.length = n * sz ∧ ((vs = .slice none 0 0 ∧ n = 0) ∨ ∃ q len cap, vs = .slice (some q) len cap ∧ (loadCells q (n * sz)).run P w = .ok us.toArray w) := by
  cases n with
  | zero =>
    have zero : ∀ q : Addr, (loadCells q 0).run P w = .ok ([] : List Value).toArray w := fun q => rfl
    rcases onSl_some (x := s) hc with ⟨k, rfl, h1⟩ | ⟨b, o, l, c, rfl, h1⟩ | ⟨b, o, k, l, z, rfl, h1⟩
    · obtain ⟨hk, h2⟩ := whenS_some h1
      have := NK.no_iff.2.1.1 hk; subst this
      cases h2
      exact ⟨[], denL_nil, by simp, .inl ⟨den_nil hd, rfl⟩⟩
    · cases h1
      obtain ⟨lc, _, e⟩ := den_slice hd
      exact ⟨[], denL_nil, by simp, .inr ⟨_, _, _, e, by rw [Nat.zero_mul]; exact zero _⟩⟩
    · cases h1
      obtain ⟨lc, _, e⟩ := den_etail hd
      exact ⟨[], denL_nil, by simp, .inr ⟨_, _, _, e, by rw [Nat.zero_mul]; exact zero _⟩⟩
  | succ n =>
    obtain ⟨b, o, l, c, rfl, h1⟩ := onSlice_some (show s.onSlice none (fun b off _ _ => h.row b none fun _ cells _ _ => ltake (Nat.mul (n + 1) sz) (ldrop off cells)) = some cs from hc)
    obtain ⟨ty, cells, m, op, hb, h2⟩ := row_some h1
    obtain ⟨lc, hlc, e⟩ := den_slice hd
    obtain ⟨cc, fz, vs', r⟩ := hh.rowAt hb hlc
    obtain ⟨us, h3, h4, h5⟩ := r.reads h2
    exact ⟨us, h3, h4, .inr ⟨_, _, _, e, h5⟩⟩
theorem convert_load (hh : Holds P N σ h w) (ht : TR σ t a.tmps) {s d : TypeId} {x : Operand} (hx : okOpd x = true) {f : Tm → H → Option AV} (hc : compileConvert P s d x = .load f) {v : AV} (hv : f t h = some v) :
    ∃ u, den σ v = some u ∧ (convert s d (a.eval x)).run P w = .ok u w := by
  have dx := opd_ok (a := a) ht hx
  unfold compileConvert at hc
  split at hc
  · cases hc
  · cases hc
  · split at hc <;> cases hc
  · rename_i e hu1 hu2
    split at hc
    · rename_i hue
      cases hc
      obtain ⟨n, h1, h2⟩ := bindS_some hv
      obtain ⟨cs, h3, h4⟩ := bindS_some h2
      obtain ⟨l, h5, h6⟩ := bindS_some h4
      cases h6
      obtain ⟨us, g1, g2, g3⟩ := hcells_ok hh h3 dx
      obtain ⟨ns, e1, e2⟩ := cellsBytes_ok h5 g1
      obtain ⟨q0, c0, e3⟩ := slen_den h1 dx
      refine ⟨_, rfl, ?_⟩
      rcases g3 with ⟨e4, e5⟩ | ⟨q, len, cap, e4, e5⟩
      · rw [e4, run_convert_bytes_string w s d e _ 0 0 hu1 hue hu2]
        subst e5
        have : us = [] := List.eq_nil_of_length_eq_zero (by simpa using g2)
        subst this
        have : ns = [] := by simpa using e1.symm
        subst this; subst e2
        simp [Conv.bytesToString]
        rfl
      · rw [e4] at e3
        simp only [Value.slice.injEq] at e3
        obtain ⟨e6, e7, e8⟩ := e3
        subst e7
        rw [Nat.mul_one, e1] at e5
        rw [e4, run_convert_bytes_string w s d e _ _ _ hu1 hue hu2, run_bytesToString w q len cap ns e5, foldl_push_bytes, e2]
        simp [ByteArray.empty, ByteArray.emptyWithCapacity]
        rfl
    · cases hc
  · rename_i ti hu1 hu2
    split at hc
    · rename_i sz hs
      cases hc
      obtain ⟨inf, hinf, rfl⟩ := sizeOfT_some hs
      rcases onRef_some hv with ⟨k, ex, h1⟩ | ⟨b, off, ex, h1⟩
      · obtain ⟨hk, h2⟩ := whenS_some h1
        have := NK.no_iff.1.1 hk; subst this
        cases h2
        rw [ex] at dx
        refine ⟨.pointer none, rfl, ?_⟩
        rw [den_nil dx]
        simp [convert, Conv.unsafePointer, run_underlying hu1, run_underlying hu2, nilOf]
      · obtain ⟨ty, cells, n, o, hb, h2⟩ := row_some h1
        cases o with
        | some _ => cases h2
        | none =>
          obtain ⟨h3, h4⟩ := whenS_some h2
          cases hz : Nat.beq inf.size 0 with
          | true => rw [hz] at h4; cases h4
          | false =>
            rw [hz] at h4
            have h5 : some (AV.ptr b off) = some v := h4
            cases h5
            have hz' := beq_false.1 hz
            have hlt := blt_iff.1 h3
            rw [ex] at dx
            obtain ⟨lc, hlc, e⟩ := den_ptr dx
            obtain ⟨c, fz, vs, r⟩ := hh.rowAt hb hlc
            obtain ⟨q1, q2⟩ := r.shape
            refine ⟨_, dx, ?_⟩
            have hsh : w.shape? lc.blk = some (ty, c.size) := by simp [World.shape?, r.heap]
            rw [e]
            simp only [convert, Conv.unsafePointer, Sem.run_bind, run_underlying hu1, run_underlying hu2, Result.andThen_ok, Conv.seenAt, viewAt, cellsIn, Loc.addr, run_shape, hsh]
            simp [hz', run_sizeOfI hinf, q1, q2, hsh]
            omega
    · cases hc
  · rename_i u hu1 hu2
    split at hc
    · rename_i sz hs
      cases hc
      obtain ⟨inf, hinf, rfl⟩ := sizeOfT_some hs
      rcases onRef_some hv with ⟨k, ex, h1⟩ | ⟨b, off, ex, h1⟩
      · obtain ⟨hk, h2⟩ := whenS_some h1
        have := NK.no_iff.1.1 hk; subst this
        cases h2
        rw [ex] at dx
        refine ⟨.pointer none, rfl, ?_⟩
        rw [den_nil dx]
        simp [convert, Conv.unsafePointer, run_underlying hu1, run_underlying hu2, nilOf]
      · obtain ⟨ty, cells, n, o, hb, h2⟩ := row_some h1
        cases o with
        | some _ => cases h2
        | none =>
          obtain ⟨h3, h4⟩ := whenS_some h2
          obtain ⟨h5, h6⟩ := whenS_some h4
          obtain ⟨h7, h8⟩ := whenS_some h6
          have e1 := beq_iff.1 h3
          have e2 := beq_iff.1 h5
          have e3 := beq_iff.1 h7
          subst e1; subst e2; subst e3
          cases hz : Nat.beq inf.size 0 with
          | true => rw [hz] at h8; cases h8
          | false =>
            rw [hz] at h8
            have h9 : some (AV.ptr b 0) = some v := h8
            cases h9
            have hz' := beq_false.1 hz
            rw [ex] at dx
            obtain ⟨lc, hlc, e⟩ := den_ptr dx
            obtain ⟨c, fz, vs, r⟩ := hh.rowAt hb hlc
            obtain ⟨q1, q2⟩ := r.shape
            refine ⟨_, dx, ?_⟩
            have hsh : w.shape? lc.blk = some (ty, c.size) := by simp [World.shape?, r.heap]
            have hcz : P.cellsOf ty = inf.size := by simp [Program.cellsOf, hinf]
            have hlie : liesAt P P.depth ty (c.size / P.cellsOf ty) (lc.base + 0) ty 1 = true := by
              rw [hcz, q2, q1, Nat.div_self (by omega), show P.depth = (2 * (P.types.size + Made.depth) + 1) + 1 from rfl]
              unfold liesAt
              rw [Bool.or_eq_true]
              left
              rw [show P.depth = (2 * (P.types.size + Made.depth) + 1) + 1 from rfl]
              unfold rowAt
              simp [hcz, hz', sameLayout]
            have hview : (viewAt (lc.addr 0).block).run P w = .ok none w := by simp [viewAt, run_shape, Loc.addr, hsh]
            have hseen : (Conv.seenAt (lc.addr 0)).run P w = .ok (lc.addr 0) w := by simp [Conv.seenAt, hview]
            have hvar : (variablesAt (lc.addr 0) ty 1).run P w = .ok true w := by
              simp only [variablesAt, Sem.run_bind, run_program, Result.andThen_ok, run_shape]
              rw [show w.shape? (lc.addr 0).block = some (ty, c.size) from hsh]
              simp only [Sem.run_pure]
              rw [show (lc.addr 0).off = lc.base + 0 from rfl, hlie]
            have e9 : (sizeOf ty).run P w = .ok inf.size w := run_sizeOfI hinf w
            rw [e]
            simp only [convert, Conv.unsafePointer, Sem.run_bind, run_underlying hu1, run_underlying hu2, Result.andThen_ok, hseen, e9, hvar]
            simp
    · cases hc
  · cases hc
end
end Go.Proofs.YtgemonlknehegaaGreatDoor.AI
namespace Go.Proofs.YtgemonlknehegaaGreatDoor.AI
open Go
set_option linter.unusedVariables false
set_option linter.unusedSimpArgs false
section
variable {P : Program} {N : Nat} {σ : Sig} {h : H} {w : World} {t : Tm} {a : Act}
theorem compileEq_und {kt : TypeId} {q : EqK} {n : Nat} (hq : compileEq P n kt = some q) : ∃ d, P.underlying kt = some d := by
  cases n with
  | zero => cases hq
  | succ n =>
    unfold compileEq at hq
    split at hq <;> first | exact ⟨_, ‹_›⟩ | cases hq
/-- what is told of two entries' places -/
def Found (σ : Sig) (q : EqK) (k : AV) (es : List ME) (cs : List MapEntry) : Option (Nat × ME) → Option (Nat × MapEntry) → Prop
  | none, none => True
  | some (j, e), some (j', c) => j' = j ∧ MERep σ e c ∧ es[j]? = some e ∧ cs[j]? = some c ∧ aeq 5 q k e.k = some true
  | _, _ => False
theorem findKey_ok {kt : TypeId} {q : EqK} (hq : compileEq P 5 kt = some q) {k : AV} {vk : Value} (hk : den σ k = some vk) {es : List ME} {cs : List MapEntry} (hm : ML σ es cs) {r : Option (Nat × ME)}
    (h : afind (fun v => aeq 5 q k v) es 0 = some r) : ∃ rc, Found σ q k es cs r rc ∧ ∀ w, (Instr.findKey kt vk cs).run P w = .ok (rc.map fun p => (p.1, p.2.val)) w := by
  obtain ⟨d, hd⟩ := compileEq_und hq
  obtain ⟨rc, h1, h2, h3⟩ := findNow_ok hq hd hk hm 0 h
  refine ⟨rc, ?_, fun w => ?_⟩
  · cases r with
    | none => cases rc with
      | none => trivial
      | some p => exact h1.elim
    | some p => cases rc with
      | none => exact h1.elim
      | some p' => obtain ⟨f1, f2, f3, f4, f5, f6⟩ := h1; exact ⟨f1, f2, by simpa using f4, by simpa using f5, f6⟩
  · simp only [Instr.findKey, Sem.run_bind, run_underlying hd, Result.andThen_ok]
    cases hn : Instr.findNow d vk cs 0 with
    | some r' => rw [h3 r' hn]; rfl
    | none => exact h2 w
theorem Holds.mapAt (hh : Holds P N σ h w) {b : Pos} {es : List ME} {clock : Nat} (hb : h.objs.get b = some (.map es clock)) {l : Loc} (hl : σ b = some l) :
    ∃ cs, w.heap[l.blk]? = some (.map cs clock) ∧ ML σ es cs.toList := by
  obtain ⟨l', ob, h1, h2, cs, h3, h4⟩ := hh.rep b _ hb
  rw [hl] at h1; cases h1
  exact ⟨cs, h3 ▸ h2, h4⟩
theorem lookup_ok (hh : Holds P N σ h w) {ti kt e : TypeId} {q : EqK} (hu : P.underlying ti = some (.map kt e)) (hq : compileEq P 5 kt = some q) {z : AV} (hz : zeroOf P e = some z)
    {m k : AV} {vm vk : Value} (dm : den σ m = some vm) (dk : den σ k = some vk) {r : Option (Nat × ME)} (hr : mapGet q h m k = some r) (ok : Bool) :
    ∃ u, den σ (match r with | some (_, en) => pick ok (.tuple [en.v, .bool true]) en.v | none => pick ok (.tuple [z, .bool false]) z) = some u ∧ (Instr.lookup ti vm vk ok).run P w = .ok u w := by
  obtain ⟨hok, h1⟩ := whenS_some hr
  have hck : ∀ em, (Instr.checkKey em 10000 kt vk).run P w = .ok () w := fun em => okKey_ok 5 10000 4 kt q hq (by omega) k vk hok dk em w
  obtain ⟨zi, zv, hi, hzv, dz⟩ := zeroOf_some hz σ
  have none_ : ∃ u, den σ (pick ok (AV.tuple [z, .bool false]) z) = some u ∧ (if ok then Value.tuple #[zv, .bool false] else zv) = u := by
    cases ok with
    | true => exact ⟨.tuple #[zv, .bool false], by simp [den, denL, dz], rfl⟩
    | false => exact ⟨zv, dz, rfl⟩
  rcases onMp_some (x := m) h1 with ⟨n, rfl, h2⟩ | ⟨b, rfl, h2⟩
  · obtain ⟨hn, h3⟩ := whenS_some h2
    have := NK.no_iff.2.2.1.1 hn; subst this
    cases h3
    obtain ⟨u, hu1, hu2⟩ := none_
    refine ⟨u, hu1, ?_⟩
    rw [den_nil dm]
    obtain ⟨d, hd⟩ := compileEq_und hq
    simp only [Instr.lookup, nilOf, Sem.run_bind, run_underlying hu, Result.andThen_ok, Sem.run_pure, hck, Instr.findKey, run_underlying hd, Instr.findNow, run_zeroI hi hzv]
    rw [← hu2]
  · obtain ⟨es, clock, hb, h3⟩ := mapo_some h2
    obtain ⟨l, hl, rfl⟩ := den_map dm
    obtain ⟨cs, hcs, hml⟩ := hh.mapAt hb hl
    obtain ⟨rc, hf, hrun⟩ := findKey_ok hq dk hml h3
    have hg : (getObj l.blk).run P w = .ok (.map cs clock) w := run_getObj hcs (by simp)
    cases r with
    | none =>
      cases rc with
      | some p => exact hf.elim
      | none =>
        obtain ⟨u, hu1, hu2⟩ := none_
        refine ⟨u, hu1, ?_⟩
        simp only [Instr.lookup, Sem.run_bind, run_underlying hu, Result.andThen_ok, hg, Sem.run_pure, hck, hrun, Option.map_none, run_zeroI hi hzv]
        rw [← hu2]
    | some p =>
      obtain ⟨j, en⟩ := p
      cases rc with
      | none => exact hf.elim
      | some p' =>
        obtain ⟨j', c⟩ := p'
        obtain ⟨f1, f2, f3, f4, f5⟩ := hf
        refine ⟨if ok then .tuple #[c.val, .bool true] else c.val, ?_, ?_⟩
        · cases ok with
          | true => simp [den, denL, f2.2.1]
          | false => exact f2.2.1
        · simp only [Instr.lookup, Sem.run_bind, run_underlying hu, Result.andThen_ok, hg, Sem.run_pure, hck, hrun, Option.map_some]
theorem lastL_eq : ∀ l : List Nat, lastL l = l.getLast?
  | [] => rfl
  | [a] => rfl
  | a :: b :: l => by
    have := lastL_eq (b :: l)
    unfold lastL
    rw [this]
    cases h : (b :: l).getLast? with
    | none => simp at h
    | some c => simp [List.getLast?_cons_cons, h]
theorem findBorn_ok {σ : Sig} {s : Nat} : ∀ {es : List ME} {cs : List MapEntry} {e : ME}, ML σ es cs → findBorn s es = some e → ∃ c, cs.find? (fun x => x.born == s) = some c ∧ MERep σ e c := by
  intro es cs e hm
  induction hm with
  | nil => intro h; cases h
  | cons he hes ih =>
    rename_i e' c es cs
    intro h
    unfold findBorn at h
    split at h
    · rename_i hb
      cases h
      have := beq_iff.1 hb
      exact ⟨c, by simp [List.find?, he.2.2, this], he⟩
    · rename_i hb
      have := beq_false.1 hb
      obtain ⟨c', h1, h2⟩ := ih h
      have hb' : (e'.born == s) = false := by simpa using this
      exact ⟨c', by simp [List.find?, he.2.2, hb', h1], h2⟩
theorem Holds.iterAt (hh : Holds P N σ h w) {b : Pos} {m : Option Pos} {since stepped : Nat} {seen : List Nat} (hb : h.objs.get b = some (.iter m since seen stepped)) {l : Loc} (hl : σ b = some l) :
    l.base = 0 ∧ match m with
      | none => w.heap[l.blk]? = some (.mapIter none since seen.toArray stepped)
      | some b => ∃ lb, σ b = some lb ∧ w.heap[l.blk]? = some (.mapIter (some lb.blk) since seen.toArray stepped) := by
  obtain ⟨l', ob, h1, h2, h0, h3⟩ := hh.rep b _ hb
  rw [hl] at h1; cases h1
  refine ⟨h0, ?_⟩
  cases m with
  | none => exact h3 ▸ h2
  | some b' => obtain ⟨lb, h4, h5⟩ := h3; exact ⟨lb, h4, h5 ▸ h2⟩
theorem entry_ok (hh : Holds P N σ h w) {it v : AV} {vi : Value} (di : den σ it = some vi) (hv : aEntry h it = some v) : ∃ u, den σ v = some u ∧ (Instr.entry vi).run P w = .ok u w := by
  obtain ⟨r, off, rfl, h1⟩ := onPtr_some (x := it) hv
  obtain ⟨h2, h3⟩ := whenS_some h1
  have := beq_iff.1 h2; subst this
  obtain ⟨o, ho, h4⟩ := bindS_some h3
  obtain ⟨m, s, seen, stepped, rfl, h5⟩ := iter_some h4
  obtain ⟨m', hm', h6⟩ := bindS_some h5
  subst hm'
  obtain ⟨stamp, h7, h8⟩ := bindS_some h6
  obtain ⟨es, clock, hb, h9⟩ := mapo_some h8
  obtain ⟨h10, h11⟩ := whenS_some h9
  obtain ⟨e, h12, h13⟩ := bindS_some h11
  cases h13
  obtain ⟨l, hl, rfl⟩ := den_ptr di
  obtain ⟨hb0, lb, hlb, hit⟩ := hh.iterAt ho hl
  obtain ⟨cs, hcs, hml⟩ := hh.mapAt hb hlb
  obtain ⟨c, hc, hec⟩ := findBorn_ok hml h12
  have hck := beq_iff.1 h10
  refine ⟨.tuple #[c.key, c.val], by simp [den, denL, hec.1, hec.2.1], ?_⟩
  have hg1 : (getObj l.blk).run P w = .ok (.mapIter (some lb.blk) s seen.toArray stepped) w := run_getObj hit (by simp)
  have hg2 : (getObj lb.blk).run P w = .ok (.map cs clock) w := run_getObj hcs (by simp)
  have hba : seen.toArray.back? = some stamp := by rw [← h7, lastL_eq]; simp
  have hf : cs.find? (fun x => x.born == stamp) = some c := by rw [← Array.find?_toList]; exact hc
  simp only [Instr.entry, Loc.addr, hb0, Nat.add_zero, Sem.run_bind, hg1, Result.andThen_ok, hba, hg2, hck, bne_self_eq_false, Bool.false_eq_true, if_false, hf, Sem.run_pure]
theorem ML.size {es : List ME} {cs : Array MapEntry} (hm : ML σ es cs.toList) : cs.size = es.length := by
  have := hm.length; simpa using this
theorem run_sliceData (ats : Array TypeId) (ty : TypeId) (q : Addr) (n c : Nat) (hc : c ≠ 0) : (Builtin.unsafeSliceData_ ats ty #[.slice (some q) n c]).run P w = .ok (.pointer (some q)) w := by
  have e : Builtin.unsafeSliceData_ ats ty #[.slice (some q) n c] = (if c ≠ 0 then pure (.pointer (some q)) else (do
      if (← viewAt q.block).isSome then
        pure (.pointer (some q))
      else
        pure (.pointer (some ⟨← newObj (.view q (← elemOf ty)), 0, none⟩))) : Sem Value) := rfl
  rw [e, if_pos hc]; rfl
theorem run_sliceData0 (ats : Array TypeId) (ty : TypeId) (n c : Nat) : (Builtin.unsafeSliceData_ ats ty #[.slice none n c]).run P w = .ok (.pointer none) w := rfl
/-- WHAT THE INTERPRETER GIVES OF AN OPERATION THAT READS MEMORY, THE MODEL GIVES. -/
theorem load_ok (hE : ExtOk P) {o : Oper} {f : Tm → H → Option AV} (hc : compileOp P o = .load f) (hok : ∀ x ∈ o.op.operands.toList, okOpd x = true) (ht : TR σ t a.tmps) (hh : Holds P N σ h w) {v : AV} (hv : f t h = some v) :
    ∃ u, den σ v = some u ∧ (execOp a.eval o).run P w = .ok (.value u) w := by
  obtain ⟨dst, op, ty, pos, after, guard⟩ := o
  have val : ∀ {s : Sem Value} {u : Value}, s.run P w = .ok u w → (do pure (Next.value (← s)) : Sem Next).run P w = .ok (.value u) w := fun h => by simp [h]
  cases op with
  | load ti x =>
    simp only [compileOp] at hc
    split at hc
    · rename_i d sz hu hs
      obtain ⟨inf, hinf, rfl⟩ := sizeOfT_some hs
      have dx := opd_ok (a := a) ht (hok x (by simp [Op.operands]))
      split at hc
      · rename_i hg; cases hc
        obtain ⟨u, h1, h2⟩ := loadA_ok hh dx hu hinf hg hv
        exact ⟨u, h1, val h2⟩
      · rename_i hg; cases hc
        obtain ⟨u, h1, h2⟩ := loadC_ok hh dx hv hu hg
        exact ⟨u, h1, val h2⟩
    · cases hc
  | convert s d x =>
    obtain ⟨u, h1, h2⟩ := convert_load hh ht (hok x (by simp [Op.operands])) hc hv
    exact ⟨u, h1, val h2⟩
  | slice ti x lo hi mx =>
    simp only [compileOp, compileSlice] at hc
    split at hc
    · split at hc <;> cases hc
    · rename_i e hu
      split at hc
      · rename_i sz hs
        obtain ⟨inf, hinf, rfl⟩ := sizeOfT_some hs
        split at hc
        · cases hc
          obtain ⟨u, h1, h2⟩ := slice_ok hh ht hu hinf (hok x (by simp [Op.operands])) (fun y hy => hok y (by subst hy; simp [Op.operands])) (fun y hy => hok y (by subst hy; simp [Op.operands])) (fun y hy => hok y (by subst hy; simp [Op.operands])) hv
          exact ⟨u, h1, val h2⟩
        · cases hc
      · cases hc
    · cases hc
  | lookup ti m k ok =>
    simp only [compileOp, compileLookup] at hc
    split at hc
    · rename_i kt e hu
      split at hc
      · rename_i z q hz hq
        cases hc
        obtain ⟨r, h1, h2⟩ := bindS_some hv
        obtain ⟨u, h3, h4⟩ := lookup_ok hh hu hq hz (opd_ok (a := a) ht (hok m (by simp [Op.operands]))) (opd_ok (a := a) ht (hok k (by simp [Op.operands]))) h1 ok
        refine ⟨u, ?_, val h4⟩
        rw [← h3]
        cases r with
        | none => cases h2; rfl
        | some p => cases h2; rfl
      · cases hc
    · cases hc
  | entry it =>
    cases hc
    obtain ⟨u, h1, h2⟩ := entry_ok hh (opd_ok (a := a) ht (hok it (by simp [Op.operands]))) hv
    exact ⟨u, h1, val h2⟩
  | call c =>
    obtain ⟨callee, args, ats⟩ := c
    cases callee with
    | invoke r m => cases hc
    | value g =>
      cases g with
      | func g =>
        simp only [compileOp, compileCall] at hc
        (repeat' split at hc) <;> cases hc
      | _ => cases hc
    | builtin b =>
      have hc' : compileBuiltin P b ats.toList args.toList = .load f := hc
      cases b <;> simp only [compileBuiltin] at hc' <;> (try (cases hc'; done))
      case len =>
        split at hc'
        · rename_i ti x hat harg
          have e1 := arr1 hat; have e2 := arr1 harg; subst e1; subst e2
          have dx := opd_ok (a := a) ht (hok x (by simp [Op.operands, Call.operands]))
          unfold compileLen at hc'
          split at hc'
          · cases hc'
          · cases hc'
          · rename_i kt e hu
            cases hc'
            have run : ∀ {n : Nat}, (Builtin.len_ #[ti] ty #[a.eval x]).run P w = .ok (.int .i64 n) w → (execOp a.eval ⟨dst, .call { callee := .builtin .len, args := #[x], argTypes := #[ti] }, ty, pos, after, guard⟩).run P w = .ok (.value (.int .i64 n)) w := fun h => by
              simp [execOp, resolve, invoke, builtin, h]
            rcases onMp_some hv with ⟨k, ex, h1⟩ | ⟨b, ex, h1⟩
            · obtain ⟨hk, h2⟩ := whenS_some h1
              have := NK.no_iff.2.2.1.1 hk; subst this
              cases h2
              rw [ex] at dx
              refine ⟨.int .i64 (Int.ofNat 0), rfl, run (n := 0) ?_⟩
              rw [den_nil dx]
              simp [Builtin.len_, run_underlying hu, nilOf, goInt]
            · obtain ⟨es, clock, hb, h2⟩ := mapo_some h1
              rw [force_eq] at h2; cases h2
              rw [ex] at dx
              obtain ⟨l, hl, e3⟩ := den_map dx
              obtain ⟨cs, hcs, hml⟩ := hh.mapAt hb hl
              have hg : (getObj l.blk).run P w = .ok (.map cs clock) w := run_getObj hcs (by simp)
              refine ⟨.int .i64 (Int.ofNat es.length), by rw [llen_eq]; rfl, run (n := es.length) ?_⟩
              rw [e3]
              simp [Builtin.len_, run_underlying hu, goInt, hg, hml.size]
          · cases hc'
        · cases hc'
      case cap => (repeat' split at hc') <;> cases hc'
      case min => split at hc' <;> cases hc'
      case max => split at hc' <;> cases hc'
      case append =>
        split at hc'
        · split at hc'
          · unfold compileAppend at hc'
            (repeat' split at hc') <;> cases hc'
          · cases hc'
        · cases hc'
      case copy =>
        split at hc'
        · split at hc'
          · unfold compileCopy at hc'
            (repeat' split at hc') <;> cases hc'
          · cases hc'
        · cases hc'
      case clear => (repeat' split at hc') <;> cases hc'
      case delete => (repeat' split at hc') <;> cases hc'
      case unsafeString => (repeat' split at hc') <;> cases hc'
      case unsafeSliceData =>
        split at hc'
        · rename_i x harg
          have e2 := arr1 harg; subst e2
          cases hc'
          have dx := opd_ok (a := a) ht (hok x (by simp [Op.operands, Call.operands]))
          have run : ∀ {u : Value}, (Builtin.unsafeSliceData_ ats ty #[a.eval x]).run P w = .ok u w → (execOp a.eval ⟨dst, .call { callee := .builtin .unsafeSliceData, args := #[x], argTypes := ats }, ty, pos, after, guard⟩).run P w = .ok (.value u) w := fun h => by
            simp [execOp, resolve, invoke, builtin, h]
          rcases onSl_some hv with ⟨k, ex, h1⟩ | ⟨b, off, len, cap, ex, h1⟩ | ⟨b, o, k, l, z, ex, h1⟩
          · obtain ⟨hk, h2⟩ := whenS_some h1
            have := NK.no_iff.2.1.1 hk; subst this
            cases h2
            rw [ex] at dx
            refine ⟨.pointer none, rfl, run ?_⟩
            rw [den_nil dx]
            exact run_sliceData0 _ _ _ _
          · rw [ex] at dx
            obtain ⟨l, hl, e3⟩ := den_slice dx
            cases cap with
            | known c =>
              have h2 : pick (Nat.beq c 0) none (some (AV.ptr b off)) = some v := h1
              cases hz : Nat.beq c 0 with
              | true => rw [hz] at h2; cases h2
              | false =>
                rw [hz] at h2; cases h2
                refine ⟨.pointer (some (l.addr off)), by simp only [den, hl], run ?_⟩
                rw [e3]
                exact run_sliceData _ _ _ _ _ (beq_false.1 hz)
            | opn skip =>
              obtain ⟨ty', cells, n, o, hb, h2⟩ := row_some (show h.row b none (fun _ _ _ o => bindS o fun least => whenS (Nat.blt skip least) (some (AV.ptr b off))) = some v from h1)
              obtain ⟨least, ho, h3⟩ := bindS_some h2
              subst ho
              obtain ⟨h4, h5⟩ := whenS_some h3
              cases h5
              have hlt := blt_iff.1 h4
              obtain ⟨c, fz, vs, r⟩ := hh.rowAt hb hl
              obtain ⟨q1, q2, q3, q4⟩ := r.shape
              refine ⟨.pointer (some (l.addr off)), by simp only [den, hl], run ?_⟩
              rw [e3]
              exact run_sliceData _ _ _ _ _ (show l.cap - skip ≠ 0 by omega)
          · exact nomatch (show (none : Option AV) = some v from h1)
        · cases hc'
  | move x => cases hc
  | assign x => cases hc
  | pick c x y => cases hc
  | build ti parts => simp only [compileOp] at hc; (repeat' split at hc) <;> cases hc
  | nilCheck x => cases hc
  | binOp op ti x y yt => cases op <;> simp only [compileOp, compileBin] at hc <;> first | (cases hc; done) | (split at hc <;> cases hc)
  | unOp op ti x => simp only [compileOp] at hc; split at hc <;> cases hc
  | makeFunc fn first captured => simp only [compileOp] at hc; split at hc <;> cases hc
  | fieldAddr s x f => simp only [compileOp] at hc; (repeat' split at hc) <;> cases hc
  | indexAddr ti x i => simp only [compileOp, compileIndexAddr] at hc; (repeat' split at hc) <;> cases hc
  | index ti x i => simp only [compileOp, compileIndex] at hc; (repeat' split at hc) <;> cases hc
  | extract x i => cases hc
  | alloc e => simp only [compileOp] at hc; (repeat' split at hc) <;> cases hc
  | box e x => cases hc
  | buildSlice ti len parts => simp only [compileOp] at hc; (repeat' split at hc) <;> cases hc
  | store ti x y => simp only [compileOp] at hc; (repeat' split at hc) <;> cases hc
  | makeMap ti r => simp only [compileOp] at hc; (repeat' split at hc) <;> cases hc
  | makeSlice ti l c => simp only [compileOp] at hc; (repeat' split at hc) <;> cases hc
  | mapUpdate ti m k x => simp only [compileOp] at hc; (repeat' split at hc) <;> cases hc
  | insert ti m k x => simp only [compileOp] at hc; (repeat' split at hc) <;> cases hc
  | mapEntry ti m k => simp only [compileOp, compileMapEntry] at hc; (repeat' split at hc) <;> cases hc
  | entryStore ti m s x => cases hc
  | range ti x => simp only [compileOp] at hc; (repeat' split at hc) <;> cases hc
  | next it b => simp only [compileOp] at hc; (repeat' split at hc) <;> cases hc
  | ready g => cases hc
  | waits g => cases hc
  | sliceToArrayPointer d x => cases hc
  | makeInterface ti x => cases hc
  | makeChan ti s => cases hc
  | field ti x f => cases hc
  | typeAssert x xt as_ ok => cases hc
  | go c => cases hc
  | defer c => cases hc
  | panic x => cases hc
  | send ch x => cases hc
  | recv ct ch ok => cases hc
  | select cs b => cases hc
end
end Go.Proofs.YtgemonlknehegaaGreatDoor.AI
namespace Go.Proofs.YtgemonlknehegaaGreatDoor.AI
open Go
set_option linter.unusedVariables false
set_option linter.unusedSimpArgs false
section
variable {P : Program} {N : Nat} {σ : Sig} {h : H} {w : World} {t : Tm} {a : Act}
/-- WHAT AN OPERATION THAT MAKES A BLOCK GIVES: the block ob, the value vv; wherever the new block's number leads there. -/
def Makes (P : Program) (σ : Sig) (s : Sem Next) (w : World) (aa : AA) : Prop :=
  ∃ ob d cap vv, s.run P w = .ok (.value vv) { w with heap := w.heap.push ob, drawn := d } ∧
    ∀ σ' b, σ.le σ' → σ' b = some ⟨w.heap.size, 0, cap⟩ → den σ' (aa.val b) = some vv ∧ Rep P σ' ⟨w.heap.size, 0, cap⟩ aa.obj ob
theorem Makes.of (s : Sem Value) {aa : AA} (h : ∃ ob d cap vv, s.run P w = .ok vv { w with heap := w.heap.push ob, drawn := d } ∧
    ∀ σ' b, σ.le σ' → σ' b = some ⟨w.heap.size, 0, cap⟩ → den σ' (aa.val b) = some vv ∧ Rep P σ' ⟨w.heap.size, 0, cap⟩ aa.obj ob) : Makes P σ (do pure (.value (← s))) w aa := by
  obtain ⟨ob, d, cap, vv, h1, h2⟩ := h
  exact ⟨ob, d, cap, vv, by simp [h1], h2⟩
theorem rowRep {σ' : Sig} {l : Loc} (hl : l.base = 0) {ty : TypeId} {cells : List AV} {vs : List Value} (hd : denL σ' cells = some vs) {n : Nat} (hn : n = cells.length) :
    Rep P σ' l (.row ty cells n none) (.cells vs.toArray ty) := by
  refine ⟨vs.toArray, (0, 0), vs, rfl, hd, by rw [denL_length hd, hn], fun i hi => by rw [hl]; simp, .inl rfl, hl, by simp [denL_length hd, hn]⟩
theorem zero_range (zs : Array Value) (n : Nat) : ((Array.range (n * zs.size)).map fun i => zs[i % zs.size]!) = ((List.replicate n zs.toList).flatten).toArray := by
  apply Array.ext'
  simp
  induction n with
  | zero => simp
  | succ n ih =>
    rw [List.replicate_succ', List.flatten_append, ← ih, Nat.succ_mul, List.range_add, List.map_append]
    congr 1
    simp
    apply List.ext_getElem
    · simp
    · intro i h1 h2
      have hi : i < zs.size := by simpa using h1
      simp [Nat.mod_eq_of_lt hi, hi]
theorem denL_reps {l : List AV} {vs : List Value} (h : denL σ l = some vs) (n : Nat) : denL σ (reps l n) = some (List.replicate n vs).flatten := by
  rw [reps_eq]
  induction n with
  | zero => simpa using denL_nil
  | succ n ih => simpa [List.replicate_succ] using denL_append.2 ⟨_, _, h, ih, rfl⟩
theorem reps_length (l : List AV) (n : Nat) : (reps l n).length = n * l.length := by
  rw [reps_eq]; simp
theorem rng_ok (zs : Array Value) {sz : Nat} (hz : zs.size = sz) (n : Nat) : ((Array.range (n * sz)).map fun i => ((if n * sz = 0 then (#[] : Array Value) else zs))[i % (if n * sz = 0 then (#[] : Array Value) else zs).size]!) = ((List.replicate n zs.toList).flatten).toArray := by
  by_cases h0 : n * sz = 0
  · rw [if_pos h0, h0]
    have : (List.replicate n zs.toList).flatten = [] := by
      apply List.eq_nil_of_length_eq_zero
      simp [hz, h0]
    rw [this]; simp
  · rw [if_neg h0, ← hz, zero_range]
theorem zero_ok {e : TypeId} {i : TypeInfo} {zv : Value} (hi : P.info? e = some i) (hz : i.zero = some zv) (k : Nat) (w : World) :
    (if k = 0 then (pure #[] : Sem (Array Value)) else do pure (← zeroValue e).cells).run P w = .ok (if k = 0 then (#[] : Array Value) else zv.cells) w := by
  split
  · rfl
  · simp [run_zeroI hi hz]
theorem run_buildSliceI {ti e : TypeId} {i : TypeInfo} {zv : Value} (hu : P.underlying ti = some (.slice e)) (hi : P.info? e = some i) (hz : i.zero = some zv) (hzs : zv.cells.size = i.size) {len : Nat} (hlt : len * i.size < 65536)
    {parts : Array (Nat × Value)} {cells : Array Value} (hf : Instr.fill (fun j => some (j * i.size, i.size)) ((List.replicate len zv.cells.toList).flatten).toArray parts.toList = some cells) (w : World) :
    (Instr.buildSlice ti len parts).run P w = .ok (.slice (some ⟨w.heap.size, 0, none⟩) len len) { w with heap := w.heap.push (.cells cells e) } := by
  have hbig : ¬ len * i.size > 16777216 := by omega
  have hbig' : ¬ len * i.size > 2 ^ 24 := hbig
  simp only [Instr.buildSlice, Sem.run_bind, run_underlying hu, Result.andThen_ok, run_sizeOfI hi]
  rw [if_neg hbig']
  by_cases h0 : len * i.size = 0
  · have h1 : ((List.replicate len zv.cells.toList).flatten).toArray = #[] := by
      apply Array.ext'
      apply List.eq_nil_of_length_eq_zero
      simp [hzs, h0]
    rw [h1] at hf
    have h2 : Array.range 0 = #[] := rfl
    simp [h0, h2, hf, newRow]
  · rw [if_neg h0]
    simp only [Sem.run_bind, run_zeroI hi hz, Result.andThen_ok, Sem.run_pure]
    rw [← hzs] at hf ⊢
    rw [zero_range, hf]
    simp [newRow]
theorem run_makeSliceI {ti e : TypeId} {i : TypeInfo} {zv : Value} (hu : P.underlying ti = some (.slice e)) (hi : P.info? e = some i) (hz : i.zero = some zv) (hzs : zv.cells.size = i.size) {k1 k2 : IntKind} {ln cn : Nat} (hle : ln ≤ cn) (hsm : cn < 1048576) (hbt : i.bytes < 65536) (w : World) :
    (Instr.makeSlice ti (.int k1 (Int.ofNat ln)) (.int k2 (Int.ofNat cn))).run P w = .ok (.slice (some ⟨w.heap.size, 0, none⟩) ln cn) { w with heap := w.heap.push (.cells ((List.replicate cn zv.cells.toList).flatten).toArray e) } := by
  have w1 : IntKind.i64.wrap (Int.ofNat ln) = (ln : Int) := wrap_small (k := .i64) (by simp [bnd]; omega)
  have w2 : IntKind.i64.wrap (Int.ofNat cn) = (cn : Int) := wrap_small (k := .i64) (by simp [bnd]; omega)
  have hnot : ¬ ((decide ((cn : Int) < 0) || decide ((i.bytes : Int) * (cn : Int) > 2 ^ 48)) || decide ((ln : Int) < 0) || decide ((ln : Int) > (cn : Int))) = true := by
    simp
    refine ⟨?_, by omega⟩
    have : i.bytes * cn ≤ 65536 * 1048576 := Nat.mul_le_mul (by omega) (by omega)
    have h9 : (i.bytes : Int) * cn = ((i.bytes * cn : Nat) : Int) := by simp
    rw [h9]; omega
  simp only [Instr.makeSlice, Sem.run_bind, run_underlying hu, Result.andThen_ok, asInt, asIntOf, Sem.run_pure, typeInfo, run_program, hi, w1, w2]
  rw [if_neg hnot]
  simp only [Sem.run_bind, run_askRoom, Result.andThen_ok, run_sizeOfI hi, Int.toNat_natCast]
  by_cases h0 : cn * i.size = 0
  · have h1 : ((List.replicate cn zv.cells.toList).flatten).toArray = #[] := by
      apply Array.ext'
      apply List.eq_nil_of_length_eq_zero
      simp [hzs, h0]
    rw [h1]
    have h2 : Array.range 0 = #[] := rfl
    simp [h0, h2, newRow]
  · rw [if_neg h0]
    simp only [Sem.run_bind, run_zeroI hi hz, Result.andThen_ok, Sem.run_pure]
    rw [← hzs, zero_range]
    simp [newRow]
def strCellsA (s : List UInt8) (cap : Nat) : Array Value := (s.toArray.map fun b => Value.int .u8 b.toNat) ++ Array.replicate (cap - s.length) (Value.int .u8 0)
theorem run_strBytesI {s d e : TypeId} (hu1 : P.underlying s = some .string) (hu2 : P.underlying d = some (.slice e)) (hue : P.underlying e = some (.int .u8)) (q : List UInt8) (w : World) :
    ∃ cap, q.length ≤ cap ∧ (convert s d (.string ⟨q.toArray⟩)).run P w = .ok (.slice (some ⟨w.heap.size, 0, none⟩) q.length cap)
      { w with heap := w.heap.push (.cells (strCellsA q cap) e ((strCellsA q cap).size, (strCellsA q cap).size + 1)), drawn := w.drawn + 1 } := by
  refine ⟨(Question.appendCap q.length 0 e).cut (w.tape w.drawn (.appendCap q.length 0 e)), by show q.length ≤ q.length + _; omega, ?_⟩
  have hf : (Question.appendCap q.length 0 e).forced = false := rfl
  simp only [convert, Sem.run_bind, run_underlying hu1, run_underlying hu2, Result.andThen_ok, run_underlying hue, Conv.stringToBytes, str_size, run_choose, hf, Bool.false_eq_true, if_false]
  simp only [newRow, Sem.run_bind, run_newObj, Result.andThen_ok, Sem.run_pure, markStringish, run_shape]
  have hsh : ∀ (c : Array Value) (w : World), (({ w with heap := w.heap.push (.cells c e) } : World).shape? w.heap.size) = some (e, c.size) := fun c w => by simp [World.shape?]
  rw [hsh _ { w with drawn := w.drawn + 1 }]
  simp only [run_freeze, Result.andThen_ok, strCellsA]
  congr 1
  simp only [World.freeze]
  rw [if_neg (by simp)]
  congr 1
  apply Array.ext
  · simp
  · intro i h1 h2
    rw [Array.getElem_modify]
    simp only [Array.getElem_push]
    by_cases hlt : i < w.heap.size
    · rw [if_neg (by omega), dif_pos hlt, dif_pos hlt]
    · have : w.heap.size = i := by simp at h1; omega
      rw [if_pos this, dif_neg hlt, dif_neg hlt]
      simp
theorem fill_len {t : Tm} : ∀ (ps : List (Nat × Nat × Operand)) (c c' : List AV), afill t ps c = some c' → c'.length = c.length := by
  intro ps
  induction ps with
  | nil => intro c c' h; have : some c = some c' := h; cases this; rfl
  | cons p ps ih =>
    intro c c' h
    have h' : whenS (Nat.beq (llen (opd p.2.2 t).cells) p.2.1) (bindS (lput p.1 (opd p.2.2 t).cells c) fun cs => afill t ps cs) = some c' := h
    obtain ⟨_, h4⟩ := whenS_some h'
    obtain ⟨c1, h5, h6⟩ := bindS_some h4
    obtain ⟨h7, h8⟩ := lput_some h5
    rw [ih c1 c' h6, h8]; simp; omega
end
end Go.Proofs.YtgemonlknehegaaGreatDoor.AI
