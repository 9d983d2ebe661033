/- The chain of TopRefuses, part 8. -/
import Derived.Test.YtgemonlknehegaaGreatDoorK07
import Derived.RangeFuncCalls
namespace Go.Proofs.YtgemonlknehegaaGreatDoor.AI
open Go
set_option linter.unusedVariables false
set_option linter.unusedSimpArgs false
section
variable {P : Program} {N : Nat} {σ : Sig} {h : H} {w w' : World} {t : Tm} {a : Act}
/-- A BLOCK OF WHICH NOTHING MORE IS KNOWN: it may have turned. -/
theorem Ext.lose (hh : Holds P N σ h w) {b : Pos} {o : AObj} {l : Loc} (hb : h.objs.get b = some o) (hl : σ b = some l) (hw : ∀ k, k ≠ l.blk → w'.heap[k]? = w.heap[k]?) (hz : w'.heap.size = w.heap.size)
    (hos : w'.os = w.os) (htape : w'.tape = w.tape) (hout : w'.output = w.output) : Ext P N σ h w σ (h.del b) w' := by
  have hgd : ∀ x ox, (h.del b).objs.get x = some ox → x ≠ b ∧ h.objs.get x = some ox := fun x ox hx => by
    have : (h.objs.del b).get x = some ox := hx
    rw [T.get_del] at this
    split at this
    · cases this
    · rename_i e; exact ⟨e, this⟩
  refine ⟨⟨fun x ox hx => ?_, fun x x' ox ox' lx lx' hx hx' => ?_, fun x hx => hh.fresh x hx, fun x ox lx hx => hh.low x ox lx (hgd x ox hx).2, hz ▸ hh.bound⟩, Sig.le_refl _, fun x ox lx hx hlx => .inl ⟨x, ox, lx, (hgd x ox hx).2, hlx, rfl⟩, fun k hk hf => hw k (fun e => hf b o l hb hl e.symm), by omega, hos, htape, hout, fun _ _ => rfl, Nat.le_refl _⟩
  · obtain ⟨hne, hx⟩ := hgd x ox hx
    obtain ⟨lx, obx, h1, h2, h3⟩ := hh.rep x ox hx
    exact ⟨lx, obx, h1, by rw [hw _ (fun e => hne (hh.inj x b ox o lx l hx hb h1 hl e)), h2], h3⟩
  · exact hh.inj x x' ox ox' lx lx' (hgd x ox hx).2 (hgd x' ox' hx').2
theorem liesAt_at {e : TypeId} (hc : P.cellsOf e = 1) (count off n : Nat) (hn : off + n ≤ count) : liesAt P P.depth e count off e n = true := by
  have hd : P.depth = (2 * (P.types.size + Made.depth) + 1) + 1 := rfl
  rw [hd]
  simp only [liesAt, Bool.or_eq_true]
  left
  rw [hd]
  simp [rowAt, hc, hn, sameLayout, Nat.mod_one]
theorem addr_add' (x : Addr) (m n : Nat) : (x.add m).add n = x.add (m + n) := by
  unfold Addr.add
  by_cases hm : m = 0
  · subst hm; simp
  · by_cases hn : n = 0
    · subst hn; simp [hm]
    · simp [hm, hn]; omega
theorem run_loadBytesI : ∀ (ns : List Int) (p : Addr) (acc : ByteArray), (∀ j x, ns[j]? = some x → w.cell? (p.add j) = some (.int .u8 x)) →
    (loadBytes p acc ns.length).run P w = .ok ⟨acc.data ++ (ns.map fun n => UInt8.ofNat n.toNat).toArray⟩ w
  | [], p, acc, _ => by simp [loadBytes]
  | x :: l, p, acc, hc => by
    have h0 : w.cell? p = some (.int .u8 x) := by
      have := hc 0 x rfl
      simpa [Addr.add] using this
    have ih := run_loadBytesI l (p.add 1) (acc.push (UInt8.ofNat x.toNat)) (fun j y hy => by
      rw [addr_add', Nat.add_comm]
      exact hc (j + 1) y (by simpa using hy))
    have hx : (x.toNat).toUInt8 = UInt8.ofNat x.toNat := rfl
    simp only [List.length_cons, loadBytes, Sem.run_bind, run_load, h0, Result.andThen, hx]
    rw [ih]
    congr 1
    apply ByteArray.ext
    simp [ByteArray.push]
theorem onRef_ne {β : Type} {x : AV} {f : NK → List β} {g : Pos → Nat → List β} (h : x.onRef [] f g ≠ []) : (∃ k, x = .nil k ∧ x.onRef [] f g = f k) ∨ (∃ b o, x = .ptr b o ∧ x.onRef [] f g = g b o) := by
  cases x with
  | nil k => exact .inl ⟨k, rfl, rfl⟩
  | ptr b o => exact .inr ⟨b, o, rfl, rfl⟩
  | _ => exact absurd rfl h
theorem unsafeString_none (ats : Array TypeId) (ty tp : TypeId) (hat : ats[0]? = some tp) (k : IntKind) (q : Option Addr) (w : World) : (Builtin.unsafeString_ ats ty #[.pointer q, .int k (Int.ofNat 0)]).run P w = .ok (.string .empty) w := by
  have hdef : ∀ q, Builtin.unsafeString_ ats ty #[.pointer q, .int k (Int.ofNat 0)] = (do
      let n ← asInt (.int k (Int.ofNat 0))
      let some pt := ats[0]? | stuck "unsafe.String: no argument types"
      if n < 0 then runtimePanic (.error "unsafe.String: len out of range")
      if n > IntKind.i64.max then unsupported (.unsafePointer "String: a length above the largest int")
      match q with
      | none =>
        if n = 0 then pure (.string .empty)
        else runtimePanic (.error "unsafe.String: ptr is nil and len is not zero")
      | some a =>
        if n = 0 then pure (.string .empty)
        else if ← variablesAt a (← elemOf pt) n.toNat then do
          let s ← loadBytes a .empty n.toNat
          freeze a n.toNat
          pure (.string s)
        else unsupported (.unsafePointer "String: not so many bytes at ptr")) := fun q => rfl
  have hmax : IntKind.i64.max = 9223372036854775807 := rfl
  rw [hdef]
  cases q <;> simp [hat, asInt, asIntOf, hmax]
theorem unsafeString_some (ats : Array TypeId) (ty tp e : TypeId) (hat : ats[0]? = some tp) (hu : P.underlying tp = some (.pointer e)) (k : IntKind) (q : Addr) (n : Nat) (hn : n + 1 < 1048576) (w : World) {e0 : TypeId} {cs : Nat} (hsh : w.shape? q.block = some (e0, cs))
    (hl : liesAt P P.depth e0 (cs / P.cellsOf e0) q.off e (n + 1) = true) {bs : ByteArray} (hb : (loadBytes q .empty (n + 1)).run P w = .ok bs w) :
    (Builtin.unsafeString_ ats ty #[.pointer (some q), .int k (Int.ofNat (n + 1))]).run P w = .ok (.string bs) (w.freeze q (n + 1)) := by
  have hdef : Builtin.unsafeString_ ats ty #[.pointer (some q), .int k (Int.ofNat (n + 1))] = (do
      let n ← asInt (.int k (Int.ofNat (n + 1)))
      let some pt := ats[0]? | stuck "unsafe.String: no argument types"
      if n < 0 then runtimePanic (.error "unsafe.String: len out of range")
      if n > IntKind.i64.max then unsupported (.unsafePointer "String: a length above the largest int")
      if n = 0 then pure (.string .empty)
      else if ← variablesAt q (← elemOf pt) n.toNat then do
        let s ← loadBytes q .empty n.toNat
        freeze q n.toNat
        pure (.string s)
      else unsupported (.unsafePointer "String: not so many bytes at ptr")) := rfl
  have hmax : IntKind.i64.max = 9223372036854775807 := rfl
  rw [hdef]
  have hneg : ¬ ((n : Int) + 1 < 0) := by omega
  have h63 : ¬ (9223372036854775807 : Int) < (n : Int) + 1 := by omega
  have hnz : ¬ ((n : Int) + 1 = 0) := by omega
  have htn : ((n : Int) + 1).toNat = n + 1 := by omega
  simp [hat, asInt, asIntOf, hmax, h63, hneg, hnz, htn, variablesAt, hsh, elemOf, run_underlying hu, hl, hb]
theorem unsafeStr_ok (hh : Holds P N σ h w) {tp e : TypeId} (hu : P.underlying tp = some (.pointer e)) (hc : P.cellsOf e = 1) {x nv : AV} {vx vn : Value} (dx : den σ x = some vx) (dn : den σ nv = some vn) {n : Nat} (hn : natOf nv = some n)
    (hne : aUnsafeStr e h x n ≠ []) {ats : Array TypeId} (hat : ats[0]? = some tp) (ty : TypeId) : Plain P N σ h w (Builtin.unsafeString_ ats ty #[vx, vn]) (aUnsafeStr e h x n) := by
  obtain ⟨k, en⟩ := den_natOf hn dn
  rw [en]
  have hmax : IntKind.i64.max = 9223372036854775807 := rfl
  cases n with
  | zero =>
    have h0 : aUnsafeStr e h x 0 = x.onRef [] (fun k => whenL (Nat.beq k.no 0) [⟨.str [], h⟩]) (fun _ _ => [⟨.str [], h⟩]) := rfl
    rw [h0] at hne ⊢
    rcases onRef_ne hne with ⟨nk, ex, e1⟩ | ⟨b, o, ex, e1⟩
    · rw [e1] at hne ⊢
      obtain ⟨hk, e2⟩ := whenL_ne hne
      rw [e2]
      have := NK.no_iff.1.1 hk; subst this
      subst ex
      rw [den_nil dx]
      refine ⟨_, List.mem_singleton.2 rfl, σ, w, .string .empty, ?_, rfl, Ext.refl hh⟩
      exact unsafeString_none ats ty tp hat k none w
    · rw [e1]
      subst ex
      obtain ⟨l, hl, rfl⟩ := den_ptr dx
      refine ⟨_, List.mem_singleton.2 rfl, σ, w, .string .empty, ?_, rfl, Ext.refl hh⟩
      exact unsafeString_none ats ty tp hat k _ w
  | succ n =>
    have h0 : aUnsafeStr e h x (n + 1) = x.onPtr [] fun b off => h.row b [] fun ty cells _ _ => whenL (Nat.beq ty e) (whenL (small (n + 1))
      (liftO (ltake (n + 1) (ldrop off cells)) fun cs => liftO (cellsBytes cs) fun l => [⟨.str l, h.del b⟩])) := rfl
    rw [h0] at hne ⊢
    obtain ⟨b, off, ex, e1⟩ := onPtr_ne hne
    rw [e1] at hne ⊢
    obtain ⟨ty0, cells, n0, o0, hb, e2⟩ := row_ne hne
    rw [e2] at hne ⊢
    obtain ⟨h3, e3⟩ := whenL_ne hne
    rw [e3] at hne ⊢
    obtain ⟨h4, e4⟩ := whenL_ne hne
    rw [e4] at hne ⊢
    obtain ⟨cs, hcs, e5⟩ := liftO_ne hne
    rw [e5] at hne ⊢
    obtain ⟨bs, hbs, e6⟩ := liftO_ne hne
    rw [e6]
    subst ex
    have := beq_iff.1 h3
    subst this
    obtain ⟨l, hl, rfl⟩ := den_ptr dx
    obtain ⟨cc, fz, vs, r⟩ := hh.rowAt hb hl
    obtain ⟨us, u1, u2, _⟩ := r.reads hcs
    obtain ⟨ns, n1, n2⟩ := cellsBytes_ok hbs u1
    obtain ⟨q1, q2⟩ := ltake_some hcs
    have hsm : n + 1 < 1048576 := blt_iff.1 h4
    have hlen : ns.length = n + 1 := by rw [n1] at u2; simpa using u2
    have hle : off + (n + 1) ≤ n0 := by
      have := r.cells_len
      rw [ldrop_eq] at q1
      have q1' : n + 1 ≤ (cells.drop off).length := q1
      simp at q1'; omega
    have hrl := r.le
    have husv : us = (vs.drop off).take (n + 1) := by
      have := denL_take (n + 1) (denL_drop off r.den)
      rw [← ldrop_eq, ← q2, u1] at this
      exact Option.some.inj this
    have hcell : ∀ j x, ns[j]? = some x → w.cell? ((l.addr off).add j) = some (.int .u8 x) := fun j x hx => by
      rw [addr_add]
      refine r.read ?_
      have hj : j < n + 1 := by rw [← hlen]; exact (List.getElem?_eq_some_iff.1 hx).1
      have : us[j]? = some (.int .u8 x) := by rw [n1]; simp [hx]
      rw [husv, List.getElem?_take, if_pos hj, List.getElem?_drop] at this
      exact this
    have hlb := run_loadBytesI (P := P) ns (l.addr off) .empty hcell
    rw [hlen] at hlb
    have hsh : w.shape? (l.addr off).block = some (ty0, cc.size) := by
      show w.shape? l.blk = _
      simp [World.shape?, r.heap]
    have hlies := liesAt_at (P := P) hc (cc.size / P.cellsOf ty0) (l.base + off) (n + 1) (by rw [hc, Nat.div_one]; omega)
    have hlies' : liesAt P P.depth ty0 (cc.size / P.cellsOf ty0) (l.addr off).off ty0 (n + 1) = true := hlies
    have hstr : (⟨(ByteArray.empty).data ++ (ns.map fun n => UInt8.ofNat n.toNat).toArray⟩ : ByteArray) = ⟨bs.toArray⟩ := by rw [n2]; simp
    rw [hstr] at hlb
    refine ⟨_, List.mem_singleton.2 rfl, σ, w.freeze (l.addr off) (n + 1), .string ⟨bs.toArray⟩, ?_, rfl, ?_⟩
    · exact unsafeString_some ats ty tp ty0 hat hu k (l.addr off) n hsm w hsh hlies' hlb
    · refine Ext.lose hh hb hl (fun j hj => ?_) ?_ ?_ ?_ ?_
      · unfold World.freeze
        rw [if_neg (by omega)]
        simp only [Array.getElem?_modify]
        rw [if_neg (fun e => hj e.symm)]
      all_goals (unfold World.freeze; rw [if_neg (by omega)])
      simp
theorem digits_size : ∀ (n t : Nat) (acc : Array Value), (Extern.BytealgMakeNoZero.digits n t acc).size = acc.size + n
  | 0, t, acc => rfl
  | n + 1, t, acc => by
    unfold Extern.BytealgMakeNoZero.digits
    rw [digits_size n]; simp; omega
theorem mnz_ok (hh : Holds P N σ h w) {tr e : TypeId} (hu : P.underlying tr = some (.slice e)) (hc : P.cellsOf e = 1) {n : Nat} (hn : n < 1048576) :
    Plain P N σ h w (Extern.BytealgMakeNoZero.makeNoZero #[] #[tr] #[.int .i64 (Int.ofNat n)]) (newRowOpen h e [] 0 n) := by
  have hq1 : (Question.appendCap n 0 e).forced = false := rfl
  have hq2 : (Question.extern "internal/bytealg.MakeNoZero.bytes" 0).forced = false := rfl
  have h48 : ¬ ((n : Int) < 0 ∨ (281474976710656 : Int) < n) := by omega
  have hcut : n ≤ (Question.appendCap n 0 e).cut (w.tape w.drawn (.appendCap n 0 e)) := by show n ≤ n + _; omega
  obtain ⟨r, hr, σ', u, eu, e3, e4⟩ := newRowOpen_ok (P := P) (cells := []) (n := 0) (least := n) (nc := (Question.appendCap n 0 e).cut (w.tape w.drawn (.appendCap n 0 e))) hh (denL_nil) rfl (fun i hi => by omega) (by omega)
    (cs := Extern.BytealgMakeNoZero.digits ((Question.appendCap n 0 e).cut (w.tape w.drawn (.appendCap n 0 e))) ((Question.extern "internal/bytealg.MakeNoZero.bytes" 0).cut (w.tape (w.drawn + 1) (.extern "internal/bytealg.MakeNoZero.bytes" 0))) #[])
    (by rw [digits_size, hc]; simp) hcut (Nat.zero_le _)
    (w' := { w with heap := w.heap.push (.cells (Extern.BytealgMakeNoZero.digits ((Question.appendCap n 0 e).cut (w.tape w.drawn (.appendCap n 0 e))) ((Question.extern "internal/bytealg.MakeNoZero.bytes" 0).cut (w.tape (w.drawn + 1) (.extern "internal/bytealg.MakeNoZero.bytes" 0))) #[]) e), drawn := w.drawn + 2 }) rfl rfl rfl rfl
  refine ⟨r, hr, σ', _, u, ?_, e3, e4⟩
  rw [eu]
  have hdef : Extern.BytealgMakeNoZero.makeNoZero #[] #[tr] #[.int .i64 (Int.ofNat n)] = (do
      let n : Int := Int.ofNat n
      let .slice elem ← underlying tr | stuck "bytealg.MakeNoZero: slice type expected"
      if n < 0 || n > 2 ^ 48 then runtimePanic (.error "makeslice: len out of range")
      let cap ← choose (.appendCap n.toNat 0 elem)
      askRoom cap
      let bytes ← choose (.extern "internal/bytealg.MakeNoZero.bytes" 0)
      let a ← newRow elem (Extern.BytealgMakeNoZero.digits cap bytes #[])
      pure (.slice (some a) n.toNat cap)) := rfl
  rw [hdef]
  simp [run_underlying hu, h48, hq1, hq2, newRow]
  rfl
end
end Go.Proofs.YtgemonlknehegaaGreatDoor.AI
namespace Go.Proofs.YtgemonlknehegaaGreatDoor.AI
open Go
set_option linter.unusedVariables false
set_option linter.unusedSimpArgs false
def FW (ro : Option Nat) : Fence := { Fence.wide with round := ro }
/-- what a task that ends gives -/
def Ret (P : Program) (N : Nat) (σ : Sig) (h : H) (w : World) (rs : List VR) : Ending → World → Prop
  | .returned v, w' => ∃ r ∈ rs, ∃ σ', den σ' r.v = some v ∧ Ext P N σ h w σ' r.h w'
  | _, _ => False
/-- WHAT IS ASKED OF THE INTERPRETER's TASKS. -/
structure SoundRec (P : Program) (rec : Rec) : Prop where
  body : ∀ g args h, rec (.call g args) h ≠ [] → ∃ fn c, P.funcs[g]? = some fn ∧ fn.body = some c
  call : ∀ g args h, rec (.call g args) h ≠ [] → ∀ N σ w vs, Holds P N σ h w → denL σ args = some vs → CallsIn Fence.wide 0 P g vs.toArray w (Ret P N σ h w (rec (.call g args) h))
  round : ∀ b args h, rec (.round b args) h ≠ [] → ∀ N σ w vs l, Holds P N σ h w → denL σ args = some vs → σ b = some l →
    ∃ fn tmps assign body, (Instr.yield l.blk vs.toArray).run P w = .ok (.round l.blk fn tmps assign body) w ∧ RoundIn Fence.wide 0 P l.blk fn tmps assign body w (Ret P N σ h w (rec (.round b args) h))
section
variable {P : Program} {N : Nat} {σ : Sig} {h : H} {w w' : World} {t : Tm} {a : Act}
def HeavyOk (P : Program) (N : Nat) (σ : Sig) (h : H) (w : World) (a : Act) (o : Oper) (rs : List VR) : Prop :=
  ∀ (ro : Option Nat) (next : Act → World → Prop) (Q : Exit → Act → World → Prop), (∀ r ∈ rs, ∀ σ' v w', den σ' r.v = some v → Ext P N σ h w σ' r.h w' → next (a.put o.dst v) w') → o.wpIn (FW ro) 0 P a w next Q
theorem heavy_v {o : Oper} {rs : List VR} (hd : ∀ c, o.op ≠ .defer c) {s : Sem Value} (he : execOp a.eval o = (do pure (.value (← s)))) (hp : Plain P N σ h w s rs) : HeavyOk P N σ h w a o rs := by
  intro ro next Q hn
  obtain ⟨r, hr, σ', w', u, h1, h2, h3⟩ := hp
  refine ⟨fun _ _ => trivial, ?_⟩
  rw [Oper.semAt_eq _ _ _ hd, he]
  simp only [Sem.run_bind, h1, Result.andThen_ok, Sem.run_pure, Oper.uponIn_value]
  exact hn r hr σ' u w' h2 h3
theorem heavy_u {o : Oper} {rs : List VR} (hd : ∀ c, o.op ≠ .defer c) {s : Sem Unit} (he : execOp a.eval o = (do s; pure .skip)) (hp : PlainU P N σ h w s rs) : HeavyOk P N σ h w a o rs := by
  intro ro next Q hn
  obtain ⟨r, hr, hv, σ', w', h1, h3⟩ := hp
  refine ⟨fun _ _ => trivial, ?_⟩
  rw [Oper.semAt_eq _ _ _ hd, he]
  simp only [Sem.run_bind, h1, Result.andThen_ok, Sem.run_pure, Oper.uponIn_skip]
  exact hn r hr σ' undef w' (by rw [hv]; exact den_undef σ') h3
theorem heavy_nv {o : Oper} {rs : List VR} (hd : ∀ c, o.op ≠ .defer c) {s : Sem Value} (he : ∀ w, (execOp a.eval o).run P w = (s.run P w).andThen fun v w => .ok (.value v) w) (hp : Plain P N σ h w s rs) : HeavyOk P N σ h w a o rs := by
  intro ro next Q hn
  obtain ⟨r, hr, σ', w', u, h1, h2, h3⟩ := hp
  refine ⟨fun _ _ => trivial, ?_⟩
  rw [Oper.semAt_eq _ _ _ hd, he, h1]
  exact hn r hr σ' u w' h2 h3
theorem heavy_call {o : Oper} {rs : List VR} (hd : ∀ c, o.op ≠ .defer c) {g : FuncId} {vs : Array Value} (he : (execOp a.eval o).run P w = .ok (.enter g vs) w) (hc : CallsIn Fence.wide 0 P g vs w (Ret P N σ h w rs)) : HeavyOk P N σ h w a o rs := by
  intro ro next Q hn
  refine ⟨fun _ _ => trivial, ?_⟩
  rw [Oper.semAt_eq _ _ _ hd, he, Oper.uponIn_enter]
  refine ⟨fun h => by simp [FW, Fence.wide] at h, ?_⟩
  have hc' : CallsIn (FW ro) (0 - 1) P g vs w (Ret P N σ h w rs) := hc
  refine hc'.mono fun e w'' hr => ?_
  cases e with
  | returned v => obtain ⟨r, hr, σ', h2, h3⟩ := hr; exact hn r hr σ' v w'' h2 h3
  | panicked _ => exact hr.elim
  | outgrown => exact hr.elim
theorem heavy_round {o : Oper} {rs : List VR} (hd : ∀ c, o.op ≠ .defer c) {l fn : Nat} {tmps : Array Value} {assign body : Code} (he : (execOp a.eval o).run P w = .ok (.round l fn tmps assign body) w) (hc : RoundIn Fence.wide 0 P l fn tmps assign body w (Ret P N σ h w rs)) : HeavyOk P N σ h w a o rs := by
  intro ro next Q hn
  refine ⟨fun _ _ => trivial, ?_⟩
  rw [Oper.semAt_eq _ _ _ hd, he, Oper.uponIn_round]
  refine ⟨fun h => by simp [FW, Fence.wide] at h, ?_⟩
  have hc' : RoundIn (FW ro) (0 - 1) P l fn tmps assign body w (Ret P N σ h w rs) := hc
  refine hc'.mono fun e w'' hr => ?_
  cases e with
  | returned v => obtain ⟨r, hr, σ', h2, h3⟩ := hr; exact hn r hr σ' v w'' h2 h3
  | panicked _ => exact hr.elim
  | outgrown => exact hr.elim
end
end Go.Proofs.YtgemonlknehegaaGreatDoor.AI
namespace Go.Proofs.YtgemonlknehegaaGreatDoor.AI
open Go
set_option linter.unusedVariables false
set_option linter.unusedSimpArgs false
section
variable {P : Program} {N : Nat} {σ : Sig} {h : H} {w w' : World} {t : Tm} {a : Act}
theorem heavy_b {dst ty pos after guard} {b : Builtin} {args : Array Operand} {ats : Array TypeId} {rs : List VR} {s : Sem Value}
    (hb : ∀ cs, builtin b ats ty cs (args.map a.eval) = (do pure (.value (← s)))) (hp : Plain P N σ h w s rs) : HeavyOk P N σ h w a ⟨dst, .call { callee := .builtin b, args, argTypes := ats }, ty, pos, after, guard⟩ rs := by
  refine heavy_nv (s := s) (fun c h => by cases h) (fun w => ?_) hp
  simp only [execOp, resolve, Sem.run_bind, Sem.run_pure, Result.andThen_ok, invoke]
  rw [hb]
  simp
theorem builtin_heavy (hh : Holds P N σ h w) (ht : TR σ t a.tmps) {b : Builtin} {ats : Array TypeId} {args : Array Operand} (hok : ∀ x ∈ args.toList, okOpd x = true) {f : Rec → Tm → H → List VR}
    (hc : compileBuiltin P b ats.toList args.toList = .heavy f) (rec : Rec) (hne : f rec t h ≠ []) (dst ty pos after guard) :
    HeavyOk P N σ h w a ⟨dst, .call { callee := .builtin b, args, argTypes := ats }, ty, pos, after, guard⟩ (f rec t h) := by
  cases b <;> simp only [compileBuiltin, compileLen] at hc <;> (try (cases hc; done)) <;> (try ((repeat' split at hc) <;> cases hc; done))
  case append =>
    split at hc
    · rename_i ti tu s x hat harg
      have e1 := arr2 hat; have e2 := arr2 harg; subst e1; subst e2
      split at hc
      · rename_i e ud hti htu
        exact heavy_b (s := Builtin.append_ #[ti, tu] ty #[a.eval s, a.eval x]) (fun cs => by simp [builtin]) (compileAppend_ok hh ht hti htu (hok s (by simp)) (hok x (by simp)) hc rec hne ty)
      · cases hc
    · cases hc
  case copy =>
    split at hc
    · rename_i ti tu s x hat harg
      have e1 := arr2 hat; have e2 := arr2 harg; subst e1; subst e2
      split at hc
      · rename_i e ud hti htu
        exact heavy_b (s := Builtin.copy_ #[ti, tu] ty #[a.eval s, a.eval x]) (fun cs => by simp [builtin]) (compileCopy_ok hh ht hti htu (hok s (by simp)) (hok x (by simp)) hc rec hne ty)
      · cases hc
    · cases hc
  case clear =>
    split at hc
    · rename_i ti x hat harg
      have e1 := arr1 hat; have e2 := arr1 harg; subst e1; subst e2
      split at hc
      · rename_i e hti
        split at hc
        · rename_i z hz
          cases hc
          obtain ⟨n, hn, e1⟩ := liftO_ne hne
          simp only [e1] at hne ⊢
          obtain ⟨h', hp, e2⟩ := liftO_ne hne
          simp only [e2]
          obtain ⟨w', s1, s2⟩ := clear_ok hh hti hz (opd_ok (a := a) ht (hok x (by simp))) hn hp ty
          exact heavy_b (s := Builtin.clear_ #[ti] ty #[a.eval x]) (fun cs => by simp [builtin]) ⟨_, List.mem_singleton.2 rfl, σ, w', .tuple #[], s1, by simp [den, denL], s2⟩
        · cases hc
      · cases hc
    · cases hc
  case delete =>
    split at hc
    · rename_i ti l m k hat harg
      have e2 := arr2 harg; subst e2
      split at hc
      · rename_i kt e hti
        split at hc
        · rename_i q hq
          cases hc
          have hat0 : ats[0]? = some ti := by rw [← Array.getElem?_toList, hat]; rfl
          exact heavy_b (s := Builtin.delete_ ats ty #[a.eval m, a.eval k]) (fun cs => by simp [builtin]) (delete_ok hh hti hq (opd_ok (a := a) ht (hok m (by simp))) (opd_ok (a := a) ht (hok k (by simp))) rfl hne ats hat0 ty)
        · cases hc
      · cases hc
    · cases hc
  case unsafeString =>
    split at hc
    · rename_i ti l x n hat harg
      have e2 := arr2 harg; subst e2
      split at hc
      · rename_i e hti
        split at hc
        · rename_i hue
          split at hc
          · rename_i hs
            cases hc
            obtain ⟨i, hi, es⟩ := sizeOfT_some hs
            obtain ⟨k, hk, e1⟩ := liftO_ne hne
            simp only [e1] at hne ⊢
            have hat0 : ats[0]? = some ti := by rw [← Array.getElem?_toList, hat]; rfl
            exact heavy_b (s := Builtin.unsafeString_ ats ty #[a.eval x, a.eval n]) (fun cs => by simp [builtin]) (unsafeStr_ok hh hti (by rw [cellsOf_eq hi, es]) (opd_ok (a := a) ht (hok x (by simp))) (opd_ok (a := a) ht (hok n (by simp))) hk hne hat0 ty)
          · cases hc
        · cases hc
      · cases hc
    · cases hc
theorem onCall_ne {β : Type} {x : AV} {f : FuncId → List AV → List AV → List β} {g : Pos → List β} (h : x.onCall [] f g ≠ []) : (∃ q c d, x = .func q c d ∧ x.onCall [] f g = f q c d) ∨ (∃ b, x = .yield b ∧ x.onCall [] f g = g b) := by
  cases x with
  | func q c d => exact .inl ⟨q, c, d, rfl, rfl⟩
  | yield b => exact .inr ⟨b, rfl, rfl⟩
  | _ => exact absurd rfl h
theorem onInt_ne {β : Type} {x : AV} {f : IntKind → Int → List β} (h : x.onInt [] f ≠ []) : ∃ k n, x = .int k n ∧ x.onInt [] f = f k n := by
  cases x with
  | int k n => exact ⟨k, n, rfl, rfl⟩
  | _ => exact absurd rfl h
/-- what is asked of what can be called: functions that a call leads to have bodies -/
theorem call_enter (hE : ExtOk P) {g : FuncId} {fn : Func} {c : Code} (hg : P.funcs[g]? = some fn) (hb : fn.body = some c) (vs : Array Value) (w : World) : (callFunc g vs).run P w = .ok (.enter g vs) w := by
  have hn := hE.body g fn c hg hb
  simp [callFunc, hg, hn, hb]
theorem call_heavy (hE : ExtOk P) (hh : Holds P N σ h w) (ht : TR σ t a.tmps) {c : Call} (hok : ∀ x ∈ (Op.call c).operands.toList, okOpd x = true) {f : Rec → Tm → H → List VR}
    (hc : compileCall P c c.args.toList = .heavy f) {rec : Rec} (hR : SoundRec P rec) (hne : f rec t h ≠ []) (dst ty pos after guard) :
    HeavyOk P N σ h w a ⟨dst, .call c, ty, pos, after, guard⟩ (f rec t h) := by
  obtain ⟨callee, args, ats⟩ := c
  have hargs : ∀ x ∈ args.toList, okOpd x = true := fun x hx => hok x (by
    cases callee <;> simp [Op.operands, Call.operands] <;> first | exact Array.mem_toList_iff.1 hx | exact .inl (Array.mem_toList_iff.1 hx) | exact .inr (Array.mem_toList_iff.1 hx))
  have dargs := opds_ok (a := a) ht (xs := args.toList) hargs
  unfold compileCall at hc
  simp only at hc
  cases callee with
  | builtin b => exact builtin_heavy hh ht hargs hc rec hne dst ty pos after guard
  | invoke _ _ => simp only at hc; cases hc
  | value fo =>
    simp only at hc
    have gen : (∀ x, fo = x → okOpd x = true) → AOp.heavy (fun rec tm h => aCall rec (opd fo tm) (opds args.toList tm) h) = .heavy f → HeavyOk P N σ h w a ⟨dst, .call { callee := .value fo, args, argTypes := ats }, ty, pos, after, guard⟩ (f rec t h) := by
      intro hfo he
      cases he
      have df := opd_ok (a := a) ht (hfo fo rfl)
      simp only [aCall] at hne ⊢
      rcases onCall_ne hne with ⟨g, fst, cap, ef, e1⟩ | ⟨b, ef, e1⟩
      · rw [e1] at hne ⊢
        rw [ef] at df
        obtain ⟨va, vc, d1, d2, ev⟩ := den_func df
        obtain ⟨fn, c, hg, hb⟩ := hR.body _ _ _ hne
        have hd : denL σ (lapp fst (lapp (opds args.toList t) cap)) = some (va ++ (args.toList.map a.eval ++ vc)) := by
          rw [lapp_eq, lapp_eq]
          exact denL_append.2 ⟨_, _, d1, denL_append.2 ⟨_, _, dargs, d2, rfl⟩, rfl⟩
        refine heavy_call (g := g) (fun c h => by cases h) ?_ (hR.call g _ h hne N σ w _ hh hd)
        simp only [execOp, resolve, ev, Deferred.ofValue, Sem.run_bind, Sem.run_pure, Result.andThen_ok, invoke]
        have e9 : (va.toArray ++ args.map a.eval) ++ vc.toArray = (va ++ (args.toList.map a.eval ++ vc)).toArray := by
          apply Array.ext'
          simp
        rw [e9]
        exact call_enter hE hg hb _ w
      · rw [e1] at hne ⊢
        rw [ef] at df
        obtain ⟨l, hl, ev⟩ := den_yield df
        obtain ⟨fn, tmps, assign, body, y1, y2⟩ := hR.round b _ h hne N σ w _ l hh dargs hl
        refine heavy_round (fun c h => by cases h) ?_ y2
        simp only [execOp, resolve, ev, Deferred.ofValue, Sem.run_bind, Sem.run_pure, Result.andThen_ok, invoke]
        have e9 : (#[] : Array Value) ++ args.map a.eval = (args.toList.map a.eval).toArray := by
          apply Array.ext'
          simp
        rw [e9]
        exact y1
    cases fo with
    | func g =>
      simp only at hc
      have ev : a.eval (.func g) = .func (.func g) #[] #[] := rfl
      split at hc
      · rename_i fn hg
        split at hc
        · rename_i c hb
          cases hc
          refine heavy_call (g := g) (fun c h => by cases h) ?_ (hR.call g _ h hne N σ w _ hh dargs)
          simp only [execOp, resolve, ev, Deferred.ofValue, Sem.run_bind, Sem.run_pure, Result.andThen_ok, invoke]
          have e9 : ((#[] : Array Value) ++ args.map a.eval) ++ #[] = (args.toList.map a.eval).toArray := by
            apply Array.ext'
            simp
          rw [e9]
          exact call_enter hE hg hb _ w
        · rename_i hb
          split at hc
          · split at hc <;> cases hc
          · split at hc
            · rename_i hnm
              split at hc
              · rename_i x tr hax hrt
                split at hc
                · rename_i e hu
                  split at hc
                  · rename_i hs
                    cases hc
                    obtain ⟨i, hi, es⟩ := sizeOfT_some hs
                    have eax := arr1 hax; subst eax
                    obtain ⟨n, hn, e1⟩ := liftO_ne hne
                    simp only [e1] at hne ⊢
                    obtain ⟨k, m, ei, e2⟩ := onInt_ne hne
                    simp only [e2] at hne ⊢
                    obtain ⟨h3, e3⟩ := whenL_ne hne
                    simp only [e3] at hne ⊢
                    obtain ⟨h4, e4⟩ := whenL_ne hne
                    simp only [e4] at hne ⊢
                    have ek := ikeq_iff.1 h3
                    subst ek
                    have dx := opd_ok (a := a) ht (hargs x (by simp))
                    rw [ei] at dx hn
                    have hmn : m = Int.ofNat n := by
                      have : nat1 m none (fun n => some n) = some n := hn
                      unfold nat1 at this
                      cases m with
                      | ofNat q => have := Option.some.inj this; rw [this]
                      | negSucc q => cases this
                    have evx := den_int dx
                    have hp := mnz_ok (P := P) hh hu (by rw [cellsOf_eq hi, es]) (n := n) (blt_iff.1 h4)
                    refine heavy_nv (fun c h => by cases h) (fun w => ?_) hp
                    simp only [execOp, resolve, ev, Deferred.ofValue, Sem.run_bind, Sem.run_pure, Result.andThen_ok, invoke]
                    have e9 : ((#[] : Array Value) ++ (#[x] : Array Operand).map a.eval) ++ #[] = #[.int .i64 (Int.ofNat n)] := by
                      simp [evx, hmn]
                    rw [e9]
                    exact hE.mnz g fn tr hg hb hnm hrt _ w
                  · cases hc
                · cases hc
              · cases hc
            · cases hc
      · cases hc
    | tmp i => exact gen (fun x hx => hok x (by subst hx; simp [Op.operands, Call.operands])) hc
    | const v => exact gen (fun x hx => hok x (by subst hx; simp [Op.operands, Call.operands])) hc
    | global v => exact gen (fun x hx => hok x (by subst hx; simp [Op.operands, Call.operands])) hc
theorem heavy_ok (hE : ExtOk P) {o : Oper} {f : Rec → Tm → H → List VR} (hc : compileOp P o = .heavy f) (hok : ∀ x ∈ o.op.operands.toList, okOpd x = true) (ht : TR σ t a.tmps) (hh : Holds P N σ h w) {rec : Rec} (hR : SoundRec P rec) (hne : f rec t h ≠ []) :
    HeavyOk P N σ h w a o (f rec t h) := by
  obtain ⟨dst, op, ty, pos, after, guard⟩ := o
  cases op with
  | store ti x v =>
    simp only [compileOp] at hc
    split at hc
    · rename_i sz hs
      cases hc
      obtain ⟨i, hi, rfl⟩ := sizeOfT_some hs
      obtain ⟨h', hst, e1⟩ := liftO_ne hne
      simp only [e1]
      obtain ⟨w', s1, s2⟩ := hstore_ok hh hi hst (opd_ok (a := a) ht (hok x (by simp [Op.operands]))) (opd_ok (a := a) ht (hok v (by simp [Op.operands])))
      exact heavy_u (s := Instr.storeAt ti (a.eval x) (a.eval v)) (fun c h => by cases h) rfl ⟨_, List.mem_singleton.2 rfl, rfl, σ, w', s1, s2⟩
    · cases hc
  | mapUpdate ti m k x =>
    simp only [compileOp] at hc
    split at hc
    · rename_i kt e hu
      split at hc
      · rename_i q hq
        cases hc
        exact heavy_u (s := Instr.mapUpdate ti (a.eval m) (a.eval k) (a.eval x)) (fun c h => by cases h) rfl (mapPut_ok hh hu hq (opd_ok (a := a) ht (hok m (by simp [Op.operands]))) (opd_ok (a := a) ht (hok k (by simp [Op.operands]))) (opd_ok (a := a) ht (hok x (by simp [Op.operands]))) hne)
      · cases hc
    · cases hc
  | insert ti m k x =>
    simp only [compileOp] at hc
    split at hc
    · rename_i kt e hu
      split at hc
      · rename_i q hq
        cases hc
        exact heavy_u (s := Instr.mapUpdate ti (a.eval m) (a.eval k) (a.eval x)) (fun c h => by cases h) rfl (mapPut_ok hh hu hq (opd_ok (a := a) ht (hok m (by simp [Op.operands]))) (opd_ok (a := a) ht (hok k (by simp [Op.operands]))) (opd_ok (a := a) ht (hok x (by simp [Op.operands]))) hne)
      · cases hc
    · cases hc
  | mapEntry ti m k =>
    simp only [compileOp, compileMapEntry] at hc
    split at hc
    · rename_i kt e hu
      split at hc
      · rename_i z q hz hq
        cases hc
        exact heavy_v (s := Instr.mapEntry ti (a.eval m) (a.eval k)) (fun c h => by cases h) rfl (mapEntry_ok hh hu hq hz (opd_ok (a := a) ht (hok m (by simp [Op.operands]))) (opd_ok (a := a) ht (hok k (by simp [Op.operands]))) rfl hne)
      · cases hc
    · cases hc
  | entryStore ti m s x =>
    simp only [compileOp] at hc
    cases hc
    exact heavy_u (s := Instr.entryStore ti (a.eval m) (a.eval s) (a.eval x)) (fun c h => by cases h) rfl (entryStore_ok hh (opd_ok (a := a) ht (hok m (by simp [Op.operands]))) (opd_ok (a := a) ht (hok s (by simp [Op.operands]))) (opd_ok (a := a) ht (hok x (by simp [Op.operands]))) rfl hne)
  | range ti x =>
    simp only [compileOp] at hc
    split at hc
    · rename_i kt e hu
      cases hc
      exact heavy_v (s := Instr.range ti (a.eval x)) (fun c h => by cases h) rfl (range_ok hh hu (opd_ok (a := a) ht (hok x (by simp [Op.operands]))) rfl hne)
    · cases hc
  | next it isS =>
    simp only [compileOp] at hc
    split at hc
    · cases hc
      exact heavy_v (s := Instr.next (a.eval it) false ty) (fun c h => by cases h) rfl (next_ok hh (opd_ok (a := a) ht (hok it (by simp [Op.operands]))) hne ty)
    · cases hc
  | call c => exact call_heavy hE hh ht hok hc hR hne dst ty pos after guard
  | _ =>
    simp only [compileOp, compileBin, compileConvert, compileSlice, compileIndexAddr, compileIndex, compileLookup] at hc
    (repeat' split at hc) <;> cases hc
end
end Go.Proofs.YtgemonlknehegaaGreatDoor.AI
