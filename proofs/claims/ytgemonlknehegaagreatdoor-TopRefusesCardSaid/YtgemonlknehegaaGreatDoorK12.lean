/- The chain of TopRefuses, part 12. -/
import Derived.Test.YtgemonlknehegaaGreatDoorK11
namespace Go.Proofs.YtgemonlknehegaaGreatDoor.AI
open Go
set_option linter.unusedVariables false
set_option linter.unusedSimpArgs false
section
variable {P : Program} {N nt : Nat} {rec : Rec} {σ : Sig} {h : H} {t : Tm} {ms : List Pos} {a : Act} {w : World}
theorem setLoop_some {b : Pos} {st : LoopState} {pending : Option Code} {h' : H} (hs : setLoop h b st pending = some h') : ∃ st0 p0 fn tm ps as bd d, h.objs.get b = some (.loop st0 p0 fn tm ps as bd d) ∧ h' = h.set b (.loop st pending fn tm ps as bd d) := by
  unfold setLoop at hs
  split at hs
  · rename_i st0 p0 fn tm ps as bd d hg
    cases hs
    exact ⟨st0, p0, fn, tm, ps, as, bd, d, hg, rfl⟩
  · cases hs
theorem Holds.loopAt (hh : Holds P N σ h w) {b : Pos} {st : LoopState} {p : Option Code} {fn : FuncId} {tm : Tm} {ps : List Nat} {as bd : Code} {d : Pos} (hb : h.objs.get b = some (.loop st p fn tm ps as bd d)) {l : Loc} (hl : σ b = some l) :
    ∃ ts ld fn', σ d = some ld ∧ ts.size = ntOf P fn ∧ TR σ tm ts ∧ w.heap[l.blk]? = some (.loop { state := st, pending := p, fn := fn', tmps := ts, params := ps.toArray, assign := as, body := bd, defers := ld.blk }) := by
  obtain ⟨l', ob, h1, h2, ts, ld, fn', h3, h4, h5, h6⟩ := hh.rep b _ hb
  rw [hl] at h1; cases h1
  exact ⟨ts, ld, fn', h3, h4, h5, h6 ▸ h2⟩
/-- a loop's record written anew -/
theorem putLoop_ok (hh : Holds P N σ h w) {b : Pos} {st st0 : LoopState} {p p0 : Option Code} {fn fn' : FuncId} {tm : Tm} {ps : List Nat} {as bd : Code} {d : Pos} (hb : h.objs.get b = some (.loop st0 p0 fn tm ps as bd d)) {l ld : Loc} (hl : σ b = some l) {ts : Array Value}
    (hd : σ d = some ld) (hts : ts.size = ntOf P fn) (htr : TR σ tm ts) : Ext P N σ h w σ (h.set b (.loop st p fn tm ps as bd d)) (w.putObj l.blk (.loop { state := st, pending := p, fn := fn', tmps := ts, params := ps.toArray, assign := as, body := bd, defers := ld.blk })) := by
  have hlt := hh.lt hb hl
  refine Ext.upd hh hb hl (ob' := .loop { state := st, pending := p, fn := fn', tmps := ts, params := ps.toArray, assign := as, body := bd, defers := ld.blk }) ⟨ts, ld, fn', hd, hts, htr, rfl⟩ (fun k => ?_) (by simp) rfl rfl rfl
  by_cases ek : k = l.blk
  · subst ek; rw [if_pos rfl, World.putObj_heap_same hlt]
  · rw [if_neg ek, World.putObj_heap_other ek]
theorem onFunc_ne {β : Type} {x : AV} {f : FuncId → List AV → List AV → List β} (h : x.onFunc [] f ≠ []) : ∃ g a c, x = .func g a c ∧ x.onFunc [] f = f g a c := by
  cases x with
  | func g a c => exact ⟨g, a, c, rfl, rfl⟩
  | _ => exact absurd rfl h
theorem rangeEnd_ne {d b : Pos} (hne : rangeEnd t d ms b h ≠ []) : ∃ st p fn tm ps as bd dd, h.objs.get b = some (.loop st p fn tm ps as bd dd) ∧ (st == .busy) = false ∧
    ((p = none ∧ rangeEnd t d ms b h = [⟨.normal, t, d :: ms, h.set b (.loop .exhausted p fn tm ps as bd dd)⟩]) ∨ (p = some .ret ∧ rangeEnd t d ms b h = [⟨.ret, t, d :: ms, h.set b (.loop .exhausted p fn tm ps as bd dd)⟩]) ∨
      (∃ id, p = some (.exit id) ∧ rangeEnd t d ms b h = [⟨.exit id, t, d :: ms, h.set b (.loop .exhausted p fn tm ps as bd dd)⟩])) := by
  unfold rangeEnd at hne ⊢
  cases hg : h.objs.get b with
  | none => rw [hg] at hne; exact absurd rfl hne
  | some o =>
    cases o with
    | loop st p fn tm ps as bd dd =>
      have hsl : setLoop h b .exhausted p = some (h.set b (.loop .exhausted p fn tm ps as bd dd)) := by unfold setLoop; rw [hg]
      rw [hg] at hne
      simp only at hne
      refine ⟨st, p, fn, tm, ps, as, bd, dd, rfl, ?_, ?_⟩
      · cases st with
        | busy => exact absurd rfl hne
        | _ => rfl
      · cases st with
        | busy => exact absurd rfl hne
        | _ =>
          simp only [hsl] at hne ⊢
          cases p with
          | none => exact .inl ⟨rfl, rfl⟩
          | some c =>
            cases c with
            | ret => exact .inr (.inl ⟨rfl, rfl⟩)
            | exit id => exact .inr (.inr ⟨id, rfl, rfl⟩)
            | _ => exact absurd rfl hne
    | _ => rw [hg] at hne; exact absurd rfl hne
theorem range_func_ok (hE : ExtOk P) (hR : SoundRec P rec) {f : FuncId} (hnt : nt = ntOf P f) {g : Operand} {ps : Array Tmp} {as bd : Code} {σ : Sig} {t : Tm} {ms : List Pos} {h : H} {a : Act} {w : World} {Q : Exit → Act → World → Prop}
    (sr : SR P N nt σ t h a w) (mk : MK σ ms a.defers) (hne : runRange f ps.toList as bd rec (opd g t) t ms h ≠ []) (hq : CodeEnd P N nt σ h w (runRange f ps.toList as bd rec (opd g t) t ms h) Q) : (Code.rangeFunc g ps as bd).wpIn (FW none) 0 P Q a w := by
  unfold runRange at hne hq
  obtain ⟨gf, fst, cap, eg, e1⟩ := onFunc_ne hne
  rw [e1] at hne hq
  obtain ⟨h1, h2⟩ := bindO_ne hne
  have hgo : okOpd g = true := by
    cases g with
    | tmp i => rfl
    | const v => show okAV (ofValue v) = true; rw [show ofValue v = .func gf fst cap from eg]; rfl
    | global v => cases eg
    | func v => rfl
  have dg := opd_ok (a := a) sr.tr hgo
  rw [eg] at dg
  obtain ⟨va, vc, d1, d2, ev⟩ := den_func dg
  have E1 : Ext P N σ h w (σ.put h.next ⟨w.heap.size, 0, 0⟩) (h.alloc .dfr) (w.alloc (.deferred (some []))) := Ext.alloc sr.holds rfl rfl rfl rfl rfl rfl
  refine wpIn_rangeFunc fun fn' _ => ?_
  have hsz1 : (w.alloc (.deferred (some []))).heap.size = w.heap.size + 1 := by show (w.heap.push _).size = _; simp
  have E2 : Ext P N (σ.put h.next ⟨w.heap.size, 0, 0⟩) (h.alloc .dfr) (w.alloc (.deferred (some []))) ((σ.put h.next ⟨w.heap.size, 0, 0⟩).put h.next.succ ⟨w.heap.size + 1, 0, 0⟩) ((h.alloc .dfr).alloc (.loop .ready none f t ps.toList as bd h.next))
      ((w.alloc (.deferred (some []))).alloc (.loop { state := .ready, pending := none, fn := fn', tmps := a.tmps, params := ps, assign := as, body := bd, defers := w.heap.size })) := by
    refine Ext.alloc E1.holds (by rw [hsz1]) ?_ rfl rfl rfl rfl
    have hnn := E1.holds.next_none
    refine ⟨a.tmps, ⟨w.heap.size, 0, 0⟩, fn', ?_, by rw [sr.size, hnt], (sr.tr.mono E1.le).mono (Sig.le_put hnn _), by simp⟩
    exact Sig.le_put hnn _ _ _ (Sig.put_same _ _ _)
  have E := E1.trans E2
  have hb : ((σ.put h.next ⟨w.heap.size, 0, 0⟩).put h.next.succ ⟨w.heap.size + 1, 0, 0⟩) h.next.succ = some ⟨w.heap.size + 1, 0, 0⟩ := Sig.put_same _ _ _
  have hd0 : ((σ.put h.next ⟨w.heap.size, 0, 0⟩).put h.next.succ ⟨w.heap.size + 1, 0, 0⟩) h.next = some ⟨w.heap.size, 0, 0⟩ := E2.le _ _ (Sig.put_same _ _ _)
  have dargs : denL ((σ.put h.next ⟨w.heap.size, 0, 0⟩).put h.next.succ ⟨w.heap.size + 1, 0, 0⟩) (lapp fst (.yield h.next.succ :: cap)) = some (va ++ (.func (.yield (w.heap.size + 1)) #[] #[] :: vc)) := by
    rw [lapp_eq]
    exact denL_append.2 ⟨_, _, denL_mono E.le d1, denL_cons.2 ⟨_, _, by simp only [den, hb], denL_mono E.le d2, rfl⟩, rfl⟩
  obtain ⟨fnr, cr, hfg, hfb⟩ := hR.body _ _ _ h1
  refine ⟨w.heap.size + 1, [{ target := .collected w.heap.size, args := #[] }], (w.alloc (.deferred (some []))).alloc (.loop { state := .ready, pending := none, fn := fn', tmps := a.tmps, params := ps, assign := as, body := bd, defers := w.heap.size }),
    { target := .fn (.func gf) vc.toArray, args := va.toArray ++ #[.func (.yield (w.heap.size + 1)) #[] #[]] }, (w.alloc (.deferred (some []))).alloc (.loop { state := .ready, pending := none, fn := fn', tmps := a.tmps, params := ps, assign := as, body := bd, defers := w.heap.size }), gf, (va ++ (.func (.yield (w.heap.size + 1)) #[] #[] :: vc)).toArray,
    (w.alloc (.deferred (some []))).alloc (.loop { state := .ready, pending := none, fn := fn', tmps := a.tmps, params := ps, assign := as, body := bd, defers := w.heap.size }), run_enterLoop_outer fn' a.tmps ps as bd, ?_, fun _ _ => trivial, ?_, fun h => by simp [FW, Fence.wide] at h, ?_⟩
  · have em : (#[Operand.const (Value.func (Fn.yield (w.heap.size + 1)) #[] #[])] : Array Operand).map a.eval = #[.func (.yield (w.heap.size + 1)) #[] #[]] := by simp [Act.eval]
    simp only [resolve, rangeCall, ev, Deferred.ofValue, Sem.run_pure, em]
  · simp only [invoke]
    have e9 : (va.toArray ++ #[.func (.yield (w.heap.size + 1)) #[] #[]]) ++ vc.toArray = (va ++ (.func (.yield (w.heap.size + 1)) #[] #[] :: vc)).toArray := by
      apply Array.ext'
      simp
    rw [e9]
    exact call_enter hE hfg hfb _ _
  · have hcall := hR.call _ _ _ h1 N _ _ _ E.holds dargs
    have hcall' : CallsIn (FW none) (0 - 1) P gf _ _ _ := hcall
    refine hcall'.mono fun e w3 hr => ?_
    cases e with
    | panicked _ => exact hr.elim
    | outgrown => exact hr.elim
    | returned v =>
      obtain ⟨r, hrm, σ', _, E3⟩ := hr
      obtain ⟨h3, h4⟩ := h2 r hrm
      obtain ⟨st, p, fn, tm, ps', as', bd', dd, hg, hst, hor⟩ := rangeEnd_ne h3
      have hb' := E3.le _ _ hb
      obtain ⟨ts, ld, fn'', g1, g2, g3, g4⟩ := E3.holds.loopAt hg hb'
      have E4 := putLoop_ok (st := .exhausted) (p := p) (fn' := fn'') E3.holds hg hb' g1 g2 g3
      have hE4 := (E.trans E3).trans E4
      have hend := run_endLoop (P := P) (l := w.heap.size + 1) g4 (fun e9 => by
        have e8 : st = .busy := e9
        subst e8; cases hst)
      have hd' := E3.le _ _ hd0
      have sr' : ∀ {h' : H} {w' : World}, Ext P N σ h w σ' h' w' → SR P N nt σ' t h' { a with defers := { target := .collected w.heap.size, args := #[] } :: a.defers } w' := fun e => ⟨sr.tr.mono e.le, sr.size, e.holds⟩
      have mk' : MK σ' (h.next :: ms) ({ target := .collected w.heap.size, args := #[] } :: a.defers) := ⟨_, _, hd', rfl, mk.mono hE4.le⟩
      have fin : ∀ (e : AExit), rangeEnd t h.next ms h.next.succ r.h = [⟨e, t, h.next :: ms, r.h.set h.next.succ (.loop .exhausted p fn tm ps' as' bd' dd)⟩] → Q (exOf e) { a with defers := { target := .collected w.heap.size, args := #[] } :: a.defers } (w3.putObj (w.heap.size + 1) (.loop { state := .exhausted, pending := p, fn := fn'', tmps := ts, params := ps'.toArray, assign := as', body := bd', defers := ld.blk })) := fun e he =>
        hq ⟨e, t, h.next :: ms, r.h.set h.next.succ (.loop .exhausted p fn tm ps' as' bd' dd)⟩ (h4 _ (by rw [he]; exact List.mem_singleton.2 rfl)) σ' _ _ (sr' hE4) mk' hE4
      refine ⟨p, _, hend, ?_⟩
      rcases hor with ⟨hp, he⟩ | ⟨hp, he⟩ | ⟨id, hp, he⟩
      · rw [hp]; simp only; rw [← hp]; exact fin _ he
      · rw [hp]; simp only; rw [← hp]; exact wpIn_ret (fin _ he)
      · rw [hp]; simp only; rw [← hp]; exact wpIn_exit (fin _ he)
theorem onBool_ne {β : Type} {x : AV} {f : Bool → List β} (h : x.onBool [] f ≠ []) : ∃ b, x = .bool b ∧ x.onBool [] f = f b := by
  cases x with
  | bool b => exact ⟨b, rfl, rfl⟩
  | _ => exact absurd rfl h
attribute [local irreducible] loopFuel
theorem code_ok (hE : ExtOk P) (hm : P.follows .mixedOrders = true) (hR : SoundRec P rec) {f : FuncId} (hnt : nt = ntOf P f) {inR : Bool} {ro : Option Nat} (hro : inR = false → ro = none) : ∀ (c : Code), CodeOk P N nt rec ro c (fun rec => (compileCode P f nt inR c).run rec)
  | .skip => fun σ t ms h a w Q sr mk _ hq => wpIn_skip (hq ⟨.normal, t, ms, h⟩ (List.mem_singleton.2 rfl) σ a w sr mk (Ext.refl sr.holds))
  | .exit id => fun σ t ms h a w Q sr mk _ hq => wpIn_exit (hq ⟨.exit id, t, ms, h⟩ (List.mem_singleton.2 rfl) σ a w sr mk (Ext.refl sr.holds))
  | .ret => fun σ t ms h a w Q sr mk _ hq => wpIn_ret (hq ⟨.ret, t, ms, h⟩ (List.mem_singleton.2 rfl) σ a w sr mk (Ext.refl sr.holds))
  | .region id ops false => fun σ t ms h a w Q sr mk hne hq => by
    have hne' : (bindO (runItems rec (compileItems P nt ops ops.toList) t h) fun r => [(⟨.normal, r.t, ms, r.h⟩ : EO)]) ≠ [] := hne
    have hq' : CodeEnd P N nt σ h w (bindO (runItems rec (compileItems P nt ops ops.toList) t h) fun r => [(⟨.normal, r.t, ms, r.h⟩ : EO)]) Q := hq
    obtain ⟨h1, h2⟩ := bindO_ne hne'
    refine region_ok hE hR ro sr h1 fun r hr σ' a' w' s' d' e' => ?_
    exact hq' ⟨.normal, r.t, ms, r.h⟩ ((h2 r hr).2 _ (List.mem_singleton.2 rfl)) σ' a' w' s' (by rw [d']; exact mk.mono e'.le) e'
  | .region id ops true => fun σ t ms h a w Q sr mk hne hq => by
    have hne' : (liftO (plan P nt ops) fun pl => bindO (runPlan rec pl [] [] t h) fun r => [(⟨.normal, r.t, ms, r.h⟩ : EO)]) ≠ [] := hne
    have hq' : CodeEnd P N nt σ h w (liftO (plan P nt ops) fun pl => bindO (runPlan rec pl [] [] t h) fun r => [(⟨.normal, r.t, ms, r.h⟩ : EO)]) Q := hq
    obtain ⟨pl, hpl, e1⟩ := liftO_ne hne'
    rw [e1] at hne' hq'
    obtain ⟨h1, h2⟩ := bindO_ne hne'
    refine region_draw_ok hE hm hR ro hpl sr h1 fun r hr σ' a' w' s' d' e' => ?_
    exact hq' ⟨.normal, r.t, ms, r.h⟩ ((h2 r hr).2 _ (List.mem_singleton.2 rfl)) σ' a' w' s' (by rw [d']; exact mk.mono e'.le) e'
  | .seq x y => fun σ t ms h a w Q sr mk hne hq => by
    have hne' : (bindO ((compileCode P f nt inR x).run rec t ms h) fun o => o.andThen ((compileCode P f nt inR y).run rec)) ≠ [] := hne
    have hq' : CodeEnd P N nt σ h w (bindO ((compileCode P f nt inR x).run rec t ms h) fun o => o.andThen ((compileCode P f nt inR y).run rec)) Q := hq
    obtain ⟨h1, h2⟩ := bindO_ne hne'
    refine wpIn_seq (code_ok hE hm hR hnt hro x σ t ms h a w _ sr mk h1 fun o ho σ' a' w' s' m' e' => ?_)
    obtain ⟨h3, h4⟩ := h2 o ho
    rcases andThen_cases o ((compileCode P f nt inR y).run rec) with ⟨en, e1⟩ | ⟨en, e1⟩
    · rw [e1] at h3 h4
      rw [en]
      exact code_ok hE hm hR hnt hro y σ' o.t o.ms o.h a' w' Q s' m' h3 (hq'.step e' h4)
    · rw [e1] at h4
      exact exOf_then en (hq' o (h4 o (List.mem_singleton.2 rfl)) σ' a' w' s' m' e')
  | .cond c x y => fun σ t ms h a w Q sr mk hne hq => by
    have hne' : ((opd c t).onBool [] fun r => pick r ((compileCode P f nt inR x).run rec t ms h) ((compileCode P f nt inR y).run rec t ms h)) ≠ [] := hne
    have hq' : CodeEnd P N nt σ h w ((opd c t).onBool [] fun r => pick r ((compileCode P f nt inR x).run rec t ms h) ((compileCode P f nt inR y).run rec t ms h)) Q := hq
    obtain ⟨b, eb, e1⟩ := onBool_ne hne'
    rw [e1] at hne' hq'
    have hev : a.eval c = .bool b := opd_eval sr.tr (by rw [eb]; rfl)
    cases b with
    | true => exact wpIn_cond_true hev (code_ok hE hm hR hnt hro x σ t ms h a w Q sr mk hne' hq')
    | false => exact wpIn_cond_false hev (code_ok hE hm hR hnt hro y σ t ms h a w Q sr mk hne' hq')
  | .block id c => fun σ t ms h a w Q sr mk hne hq => by
    have hne' : (bindO ((compileCode P f nt inR c).run rec t ms h) fun o => o.e.on [o] (fun id' => pick (Nat.beq id' id) [(⟨.normal, o.t, o.ms, o.h⟩ : EO)] [o]) [o]) ≠ [] := hne
    have hq' : CodeEnd P N nt σ h w (bindO ((compileCode P f nt inR c).run rec t ms h) fun o => o.e.on [o] (fun id' => pick (Nat.beq id' id) [(⟨.normal, o.t, o.ms, o.h⟩ : EO)] [o]) [o]) Q := hq
    obtain ⟨h1, h2⟩ := bindO_ne hne'
    refine wpIn_block (code_ok hE hm hR hnt hro c σ t ms h a w _ sr mk h1 fun o ho σ' a' w' s' m' e' => ?_)
    obtain ⟨_, h4⟩ := h2 o ho
    obtain ⟨oe, ot, oms, oh⟩ := o
    cases oe with
    | normal => exact hq' ⟨.normal, ot, oms, oh⟩ (h4 _ (List.mem_singleton.2 rfl)) σ' a' w' s' m' e'
    | ret => exact hq' ⟨.ret, ot, oms, oh⟩ (h4 _ (List.mem_singleton.2 rfl)) σ' a' w' s' m' e'
    | exit id' =>
      have h5 : ∀ z ∈ pick (Nat.beq id' id) [(⟨.normal, ot, oms, oh⟩ : EO)] [⟨.exit id', ot, oms, oh⟩], z ∈ _ := h4
      show if id' = id then Q .normal a' w' else Q (.exit id') a' w'
      cases hb : Nat.beq id' id with
      | true =>
        rw [if_pos (beq_iff.1 hb)]
        rw [hb] at h5
        exact hq' ⟨.normal, ot, oms, oh⟩ (h5 _ (List.mem_singleton.2 rfl)) σ' a' w' s' m' e'
      | false =>
        rw [if_neg (beq_false.1 hb)]
        rw [hb] at h5
        exact hq' ⟨.exit id', ot, oms, oh⟩ (h5 _ (List.mem_singleton.2 rfl)) σ' a' w' s' m' e'
  | .loop c => fun σ t ms h a w Q sr mk hne hq => loop_ok (code_ok hE hm hR hnt hro c) loopFuel σ t ms h a w Q sr mk hne hq
  | .rangeFunc g ps as bd => fun σ t ms h a w Q sr mk hne hq => by
    cases inR with
    | true => exact absurd rfl hne
    | false =>
      have e := hro rfl
      subst e
      exact range_func_ok hE hR hnt sr mk hne hq
  | .goto l => fun σ t ms h a w Q sr mk hne hq => absurd rfl hne
  | .label l => fun σ t ms h a w Q sr mk hne hq => absurd rfl hne
  | .scope l => fun σ t ms h a w Q sr mk hne hq => absurd rfl hne
  | .refuse l => fun σ t ms h a w Q sr mk hne hq => absurd rfl hne
end
end Go.Proofs.YtgemonlknehegaaGreatDoor.AI
namespace Go.Proofs.YtgemonlknehegaaGreatDoor.AI
open Go
set_option linter.unusedVariables false
set_option linter.unusedSimpArgs false
section
variable {P : Program} {N nt : Nat} {rec : Rec} {σ : Sig} {h : H} {t : Tm} {ms : List Pos} {a : Act} {w : World}
theorem initTm_get : ∀ (l : List AV) (i : Nat) (t : Tm) (j : Nat), tget (initTm l i t) j = if i ≤ j ∧ j < i + l.length then l.getD (j - i) .undef else tget t j := by
  intro l
  induction l with
  | nil => intro i t j; rw [if_neg (by simp)]; rfl
  | cons a l ih =>
    intro i t j
    have e : initTm (a :: l) i t = initTm l (i + 1) (t.set (posOf i) a) := rfl
    rw [e, ih, tget_set]
    by_cases h1 : j = i
    · subst h1
      rw [if_neg (by omega), if_pos rfl, if_pos (by simp)]
      simp
    · by_cases h2 : i + 1 ≤ j ∧ j < i + 1 + l.length
      · rw [if_pos h2, if_pos (by simp; omega)]
        have : j - i = (j - (i + 1)) + 1 := by omega
        rw [this, List.getD_cons_succ]
      · rw [if_neg h2, if_neg h1, if_neg (by simp; omega)]
theorem tget_leaf (j : Nat) : tget .leaf j = .undef := rfl
theorem initTm_ok {args : List AV} {vs : List Value} (hd : denL σ args = some vs) (nt : Nat) : TR σ (initTm args 0 .leaf) (vs.toArray ++ Array.replicate (nt - vs.length) undef) := by
  intro i
  rw [initTm_get]
  have hl := denL_length hd
  by_cases h1 : i < args.length
  · rw [if_pos (by omega)]
    have hg : args[i]? = some (args.getD (i - 0) .undef) := by simp [h1]
    obtain ⟨v, hv, hi⟩ := denL_get hd hg
    rw [hv]
    congr 1
    rw [Array.getD_eq_getD_getElem?, Array.getElem?_append_left (by simp; omega)]
    simp [hi]
  · rw [if_neg (by omega), tget_leaf, den_undef]
    congr 1
    rw [Array.getD_eq_getD_getElem?, Array.getElem?_append_right (by simp; omega)]
    simp [Array.getElem?_replicate]
    split <;> rfl
/-- what the marks' blocks are shut to -/
theorem shut_ok {fn : Func} {tmps : Array Value} {R : Ending → World → Prop} : ∀ (ms : List Pos) (ds : List Deferred) (σ : Sig) (h : H) (w : World) (h' : H), Holds P N σ h w → MK σ ms ds → shut ms h = some h' →
    (∀ w', Ext P N σ h w σ h' w' → ∃ v, (results fn tmps).run P w' = .ok v w' ∧ R (.returned v) w') → LeavesInM (FW none) 0 P fn tmps R ds .returning w
  | [], ds, σ, h, w, h', hh, mk, hs, hr => by
    have e1 : ds = [] := mk
    subst e1
    cases hs
    obtain ⟨v, h1, h2⟩ := hr w (Ext.refl hh)
    exact ⟨v, h1, h2⟩
  | d :: ms, ds, σ, h, w, h', hh, mk, hs, hr => by
    obtain ⟨l, r, h1, h2, h3⟩ := mk
    subst h2
    unfold shut at hs
    split at hs
    · rename_i o ho
      split at hs
      · obtain ⟨l', ob, q1, q2, q3⟩ := hh.rep d _ ho
        rw [h1] at q1; cases q1
        have q4 : ob = .deferred (some []) := q3
        rw [q4] at q2
        have hlt := hh.lt ho h1
        have E : Ext P N σ h w σ (h.del d) (w.putObj l.blk (.deferred none)) := Ext.lose hh ho h1 (fun k hk => World.putObj_heap_other hk) (by simp) rfl rfl rfl
        refine ⟨by simp, .inl ⟨l.blk, _, rfl, run_takeDeferred q2, ?_⟩⟩
        exact shut_ok ms r σ (h.del d) _ h' E.holds h3 hs fun w' e' => hr w' (E.trans e')
      · cases hs
    · cases hs
/-- one result -/
theorem res_ok (hh : Holds P N σ h w) {ts : Array Value} (ht : TR σ t ts) {r : ResultVar} {v : AV} (hv : (compileRes P r).get t h = some v) :
    ∃ u, den σ v = some u ∧ (match r with | .tmp t => (pure (ts.getD t undef) : Sem Value) | .cell a ty => do loadVar ty (← asAddr (ts.getD a undef))).run P w = .ok u w := by
  cases r with
  | tmp i =>
    have e : some (tget t i) = some v := hv
    cases e
    exact ⟨_, ht i, rfl⟩
  | cell i ty =>
    unfold compileRes at hv
    simp only at hv
    have ha := ht i
    split at hv
    · rename_i d sz hu hs
      obtain ⟨inf, hinf, rfl⟩ := sizeOfT_some hs
      split at hv
      · rename_i hg
        have hv' : hloadA h inf.size (tget t i) = some v := hv
        obtain ⟨u, h1, h2⟩ := loadA_ok hh ha hu hinf hg hv'
        obtain ⟨b, off, e, _⟩ := onPtr_some (x := tget t i) hv'
        rw [e] at ha
        obtain ⟨l, hl, el⟩ := den_ptr ha
        refine ⟨u, h1, ?_⟩
        show (do loadVar ty (← asAddr (ts.getD i undef)) : Sem Value).run P w = _
        rw [el] at h2 ⊢
        simpa [Instr.loadAt, Instr.sureAddr, asAddr] using h2
      · rename_i hg
        have hv' : hloadC h (tget t i) = some v := hv
        obtain ⟨u, h1, h2⟩ := loadC_ok hh ha hv' hu hg
        obtain ⟨b, off, e, _⟩ := onPtr_some (x := tget t i) hv'
        rw [e] at ha
        obtain ⟨l, hl, el⟩ := den_ptr ha
        refine ⟨u, h1, ?_⟩
        show (do loadVar ty (← asAddr (ts.getD i undef)) : Sem Value).run P w = _
        rw [el] at h2 ⊢
        simpa [Instr.loadAt, Instr.sureAddr, asAddr] using h2
    · cases hv
theorem resAll_ok (hh : Holds P N σ h w) {ts : Array Value} (ht : TR σ t ts) : ∀ {rs : List ResultVar} {vs : List AV}, resAll P h t rs = some vs →
    ∃ us, denL σ vs = some us ∧ (rs.mapM fun (r : ResultVar) => (match r with | .tmp t => (pure (ts.getD t undef) : Sem Value) | .cell a ty => do loadVar ty (← asAddr (ts.getD a undef)))).run P w = .ok us w
  | [], vs, hr => by cases hr; exact ⟨[], denL_nil, rfl⟩
  | r :: rs, vs, hr => by
    have hr' : bindS ((compileRes P r).get t h) (fun v => bindS (resAll P h t rs) fun vs => some (v :: vs)) = some vs := hr
    obtain ⟨v, h1, h2⟩ := bindS_some hr'
    obtain ⟨vs', h3, h4⟩ := bindS_some h2
    cases h4
    obtain ⟨u, d1, d2⟩ := res_ok hh ht h1
    obtain ⟨us, e1, e2⟩ := resAll_ok hh ht h3
    refine ⟨u :: us, denL_cons.2 ⟨u, us, d1, e1, rfl⟩, ?_⟩
    rw [List.mapM_cons]
    simp only [Sem.run_bind, d2, Result.andThen_ok, e2, Sem.run_pure]
theorem results_ok (hh : Holds P N σ h w) {ts : Array Value} (ht : TR σ t ts) {fn : Func} {vs : List AV} (hr : resAll P h t fn.results.toList = some vs) : ∃ u, den σ (tupled vs) = some u ∧ (results fn ts).run P w = .ok u w := by
  obtain ⟨us, h1, h2⟩ := resAll_ok hh ht hr
  have hm : (results fn ts).run P w = .ok (if h : us.toArray.size = 1 then us.toArray[0] else .tuple us.toArray) w := by
    unfold results
    rw [Array.mapM_eq_mapM_toList]
    simp only [map_eq_pure_bind, Sem.run_bind, Sem.run_pure]
    have key : ∀ X : Sem (List Value), X.run P w = .ok us w → ((X.run P w).andThen fun a w' => Result.ok a.toArray w').andThen (fun a w' => Result.ok (if h : a.size = 1 then a[0] else Value.tuple a) w') = .ok (if h : us.toArray.size = 1 then us.toArray[0] else .tuple us.toArray) w := fun X hX => by rw [hX]; rfl
    exact key _ h2
  refine ⟨_, ?_, hm⟩
  cases vs with
  | nil => rw [denL_nil] at h1; cases h1; simp [tupled, den, denL]
  | cons v vs =>
    obtain ⟨u, us', d1, d2, rfl⟩ := denL_cons.1 h1
    cases vs with
    | nil => rw [denL_nil] at d2; cases d2; simpa [tupled] using d1
    | cons v' vs =>
      obtain ⟨u', us'', d3, d4, rfl⟩ := denL_cons.1 d2
      show den σ (.tuple (v :: v' :: vs)) = _
      simp [den, h1]
theorem finish_ne {rs : List ResultVar} {o : EO} (hne : finish P rs o ≠ []) : (o.e = .normal ∨ o.e = .ret) ∧ ∃ h' vs, shut o.ms o.h = some h' ∧ resAll P h' o.t rs = some vs ∧ finish P rs o = [⟨tupled vs, h'⟩] := by
  obtain ⟨e, t, ms, h⟩ := o
  have gen : (liftO (shut ms h) fun h => liftO (resAll P h t rs) fun vs => [(⟨tupled vs, h⟩ : VR)]) ≠ [] → ∃ h' vs, shut ms h = some h' ∧ resAll P h' t rs = some vs ∧ (liftO (shut ms h) fun h => liftO (resAll P h t rs) fun vs => [(⟨tupled vs, h⟩ : VR)]) = [⟨tupled vs, h'⟩] := fun hn => by
    obtain ⟨h', h1, e1⟩ := liftO_ne hn
    rw [e1] at hn
    obtain ⟨vs, h2, e2⟩ := liftO_ne hn
    exact ⟨h', vs, h1, h2, by rw [e1, e2]⟩
  cases e with
  | normal => exact ⟨.inl rfl, gen hne⟩
  | ret => exact ⟨.inr rfl, gen hne⟩
  | exit id => exact absurd rfl hne
theorem fn_ok (hE : ExtOk P) (hm : P.follows .mixedOrders = true) (hR : SoundRec P rec) {f : FuncId} {args : List AV} {h : H} (hne : (compileFn P f).run rec args h ≠ []) :
    (∃ fn c, P.funcs[f]? = some fn ∧ fn.body = some c) ∧ ∀ N σ w vs, Holds P N σ h w → denL σ args = some vs → CallsIn Fence.wide 0 P f vs.toArray w (Ret P N σ h w ((compileFn P f).run rec args h)) := by
  unfold compileFn at hne ⊢
  cases hf : P.funcs[f]? with
  | none => rw [hf] at hne; exact absurd rfl hne
  | some fn =>
    rw [hf] at hne
    simp only at hne ⊢
    cases hb : fn.body with
    | none => rw [hb] at hne; exact absurd rfl hne
    | some c =>
      rw [hb] at hne
      simp only at hne ⊢
      refine ⟨⟨fn, c, rfl, hb⟩, fun N σ w vs hh hd => ?_⟩
      obtain ⟨hle, e1⟩ := whenL_ne hne
      rw [e1] at hne ⊢
      obtain ⟨h1, h2⟩ := bindO_ne hne
      have hvl := denL_length hd
      have hle' : args.length ≤ fn.ntmps := by rw [llen_eq] at hle; exact ble_iff.1 hle
      have hnt : fn.ntmps = ntOf P f := by unfold ntOf; rw [hf]
      refine callsIn_of_wp_marks (F := FW none) hf hb trivial ?_
      have htr := initTm_ok hd fn.ntmps
      have hsz : (vs.toArray ++ Array.replicate (fn.ntmps - vs.toArray.size) undef).size = fn.ntmps := by simp; omega
      have sr : SR P N fn.ntmps σ (initTm args 0 .leaf) h { tmps := vs.toArray ++ Array.replicate (fn.ntmps - vs.toArray.size) undef, defers := [] } w := ⟨by simpa using htr, hsz, hh⟩
      refine code_ok hE hm hR hnt (inR := false) (fun _ => rfl) c σ _ [] h _ w _ sr rfl h1 fun o ho σ' a' w' s' m' e' => ?_
      obtain ⟨h3, h4⟩ := h2 o ho
      obtain ⟨he, h', vs', hs, hr, ef⟩ := finish_ne h3
      have goal : LeavesInM (FW none) 0 P fn a'.tmps (Ret P N σ h w (bindO ((compileCode P f fn.ntmps false c).run rec (initTm args 0 .leaf) [] h) fun o => finish P fn.results.toList o)) a'.defers .returning w' := by
        refine shut_ok o.ms a'.defers σ' o.h w' h' s'.holds m' hs fun w'' e'' => ?_
        obtain ⟨u, d1, d2⟩ := results_ok e''.holds s'.tr hr
        exact ⟨u, d2, ⟨tupled vs', h'⟩, h4 _ (by rw [ef]; exact List.mem_singleton.2 rfl), σ', d1, e'.trans e''⟩
      rcases he with he | he
      · rw [he]; exact goal
      · rw [he]; exact goal
end
end Go.Proofs.YtgemonlknehegaaGreatDoor.AI
namespace Go.Proofs.YtgemonlknehegaaGreatDoor.AI
open Go
set_option linter.unusedVariables false
set_option linter.unusedSimpArgs false
section
variable {P : Program} {N nt : Nat} {rec : Rec} {σ : Sig} {h : H} {t : Tm} {ms : List Pos} {a : Act} {w : World}
theorem setParams_ok : ∀ (ps : List Nat) (as : List AV) (t t' : Tm) (ts : Array Value) (vs : List Value), setParams ps as t = some t' → TR σ t ts → denL σ as = some vs → (∀ p ∈ ps, p < ts.size) →
    as.length = ps.length ∧ TR σ t' ((ps.zip vs).foldl (fun tmps (t, a) => tmps.setIfInBounds t a) ts) ∧ ((ps.zip vs).foldl (fun tmps (t, a) => tmps.setIfInBounds t a) ts).size = ts.size
  | [], [], t, t', ts, vs, hs, ht, hd, _ => by
    cases hs; rw [denL_nil] at hd; cases hd
    exact ⟨rfl, ht, rfl⟩
  | p :: ps, a :: as, t, t', ts, vs, hs, ht, hd, hp => by
    obtain ⟨v, r, hv, hr, rfl⟩ := denL_cons.1 hd
    have hs' : setParams ps as (t.set (posOf p) a) = some t' := hs
    obtain ⟨i1, i2, i3⟩ := setParams_ok ps as _ t' (ts.setIfInBounds p v) r hs' (ht.set (hp p (by simp)) hv) hr (fun q hq => by simp; exact hp q (by simp [hq]))
    exact ⟨by simp [i1], i2, by simpa using i3⟩
  | [], a :: as, t, t', ts, vs, hs, _, _, _ => by cases hs
  | p :: ps, [], t, t', ts, vs, hs, _, _, _ => by cases hs
theorem roundBody_ne {b : Pos} {f : FuncId} {body : Code} {o : EO} (hne : roundBody P rec b f body o ≠ []) : o.e = .normal ∧ ∃ st p fn tm ps as bd d, o.h.objs.get b = some (.loop st p fn tm ps as bd d) ∧ st = .ready ∧
    roundBody P rec b f body o = bindO ((compileCode P f (ntOf P f) true body).run rec o.t o.ms (o.h.set b (.loop .busy p fn tm ps as bd d))) (fun o => o.e.on
          (liftO (setLoop o.h b .ready none) fun h => [(⟨.bool true, h⟩ : VR)])
          (fun id => liftO (setLoop o.h b .done (some (.exit id))) fun h => [⟨.bool false, h⟩])
          (liftO (setLoop o.h b .done (some .ret)) fun h => [⟨.bool false, h⟩])) := by
  obtain ⟨e, t, ms, h⟩ := o
  cases e with
  | exit _ => exact absurd rfl hne
  | ret => exact absurd rfl hne
  | normal =>
    refine ⟨rfl, ?_⟩
    unfold roundBody at hne ⊢
    simp only at hne ⊢
    cases hg : h.objs.get b with
    | none => rw [hg] at hne; exact absurd rfl hne
    | some ob =>
      cases ob with
      | loop st p fn tm ps as bd d =>
        have hsl : setLoop h b .busy p = some (h.set b (.loop .busy p fn tm ps as bd d)) := by unfold setLoop; rw [hg]
        rw [hg] at hne
        have hne' : whenL (isReady st) (liftO (setLoop h b .busy p) fun h => bindO ((compileCode P f (ntOf P f) true body).run rec t ms h) fun o => o.e.on
          (liftO (setLoop o.h b .ready none) fun h => [(⟨.bool true, h⟩ : VR)])
          (fun id => liftO (setLoop o.h b .done (some (.exit id))) fun h => [⟨.bool false, h⟩])
          (liftO (setLoop o.h b .done (some .ret)) fun h => [⟨.bool false, h⟩])) ≠ [] := hne
        obtain ⟨h1, e1⟩ := whenL_ne hne'
        refine ⟨st, p, fn, tm, ps, as, bd, d, rfl, ?_, ?_⟩
        · cases st <;> first | rfl | cases h1
        · show whenL (isReady st) _ = _
          rw [e1, hsl]; rfl
      | _ => rw [hg] at hne; exact absurd rfl hne
theorem round_ok (hE : ExtOk P) (hm : P.follows .mixedOrders = true) (hR : SoundRec P rec) {b : Pos} {args : List AV} {h : H} (hne : runRound P rec b args h ≠ []) (N : Nat) (σ : Sig) (w : World) (vs : List Value) (l : Loc) (hh : Holds P N σ h w) (hd : denL σ args = some vs) (hl : σ b = some l) :
    ∃ fn tmps assign body, (Instr.yield l.blk vs.toArray).run P w = .ok (.round l.blk fn tmps assign body) w ∧ RoundIn Fence.wide 0 P l.blk fn tmps assign body w (Ret P N σ h w (runRound P rec b args h)) := by
  unfold runRound at hne ⊢
  cases hg : h.objs.get b with
  | none => rw [hg] at hne; exact absurd rfl hne
  | some ob =>
    cases ob with
    | loop st p f tm ps as bd d =>
      rw [hg] at hne
      simp only at hne ⊢
      obtain ⟨t', hsp, e1⟩ := liftO_ne hne
      rw [e1] at hne ⊢
      obtain ⟨hlt, e2⟩ := whenL_ne hne
      rw [e2] at hne ⊢
      obtain ⟨h1, h2⟩ := bindO_ne hne
      obtain ⟨ts, ld, fn', g1, g2, g3, g4⟩ := hh.loopAt hg hl
      obtain ⟨i1, i2, i3⟩ := setParams_ok ps args tm t' ts vs hsp g3 hd (fun q hq => by rw [g2]; exact blt_iff.1 (lall_iff.1 hlt q hq))
      have hy := run_yield (P := P) (args := vs.toArray) g4 (by simp; rw [denL_length hd, i1])
      have ez : ((ps.toArray.zip vs.toArray).foldl (fun tmps (t, a) => tmps.setIfInBounds t a) ts) = ((ps.zip vs).foldl (fun tmps (t, a) => tmps.setIfInBounds t a) ts) := by
        rw [← Array.foldl_toList, Array.toList_zip]
      refine ⟨fn', _, as, bd, hy, ?_⟩
      simp only [ez]
      refine roundIn_of_wpIn (F := Fence.wide) trivial ?_
      have sr : SR P N (ntOf P f) σ t' h { tmps := (ps.zip vs).foldl (fun tmps (t, a) => tmps.setIfInBounds t a) ts, defers := [] } w := ⟨i2, by rw [i3, g2], hh⟩
      have hcode := code_ok hE hm hR (nt := ntOf P f) (N := N) (f := f) rfl (inR := true) (ro := some l.blk) (fun h => by cases h)
      refine hcode as σ t' [] h _ w _ sr rfl h1 fun o ho σ' a' w' s' m' e' => ?_
      obtain ⟨h3, h4⟩ := h2 o ho
      obtain ⟨en, st', p', fn2, tm2, ps2, as2, bd2, d2, q1, q2, q3⟩ := roundBody_ne h3
      rw [q3] at h3 h4
      obtain ⟨h5, h6⟩ := bindO_ne h3
      have hl' := e'.le _ _ hl
      obtain ⟨ts2, ld2, fn3, r1, r2, r3, r4⟩ := s'.holds.loopAt q1 hl'
      rw [en]
      have E1 := putLoop_ok (st := .busy) (p := p') (fn' := fn3) s'.holds q1 hl' r1 r2 r3
      refine ⟨_, run_beginRound r4 q2, ?_⟩
      have s1 : SR P N (ntOf P f) σ' o.t (o.h.set b (.loop .busy p' fn2 tm2 ps2 as2 bd2 d2)) a' _ := ⟨s'.tr, s'.size, E1.holds⟩
      refine hcode bd σ' o.t o.ms _ a' _ _ s1 (m'.mono E1.le) h5 fun o2 ho2 σ2 a2 w2 s2 m2 e2 => ?_
      obtain ⟨h7, h8⟩ := h6 o2 ho2
      have hl2 := e2.le _ _ hl'
      have eAll := (e'.trans E1).trans e2
      obtain ⟨oe, ot, oms, oh⟩ := o2
      have done : ∀ (st9 : LoopState) (pn : Option Code) (v : AV) (u : Value), (∀ σ, den σ v = some u) → (liftO (setLoop oh b st9 pn) fun h => [(⟨v, h⟩ : VR)]) ≠ [] → (∀ x ∈ (liftO (setLoop oh b st9 pn) fun h => [(⟨v, h⟩ : VR)]), x ∈ (bindO ((compileCode P f (ntOf P f) true as).run rec t' [] h) fun o => roundBody P rec b f bd o)) →
          (st9 = if pn.isNone then .ready else .done) → u = .bool pn.isNone → ∃ v' w', (Instr.endRound l.blk pn).run P w2 = .ok v' w' ∧ Ret P N σ h w (bindO ((compileCode P f (ntOf P f) true as).run rec t' [] h) fun o => roundBody P rec b f bd o) (.returned v') w' := by
        intro st9 pn v u hv hn9 hm9 hst hu
        obtain ⟨h9, hs9, e9⟩ := liftO_ne hn9
        rw [e9] at hm9
        obtain ⟨st0, p0, fn0, tm0, ps0, as0, bd0, d0, k1, k2⟩ := setLoop_some hs9
        obtain ⟨ts3, ld3, fn4, y1, y2, y3, y4⟩ := s2.holds.loopAt k1 hl2
        have E2 := putLoop_ok (st := st9) (p := pn) (fn' := fn4) s2.holds k1 hl2 y1 y2 y3
        have hend := run_endRound (P := P) pn y4
        refine ⟨.bool pn.isNone, _, hend, ⟨v, h9⟩, hm9 _ (List.mem_singleton.2 rfl), σ2, by rw [hv, hu], ?_⟩
        rw [k2, hst] 
        rw [hst] at E2
        exact eAll.trans E2
      cases oe with
      | normal => exact done .ready none (.bool true) (.bool true) (fun _ => rfl) h7 (fun x hx => h4 x (h8 x hx)) rfl rfl
      | exit id => exact done .done (some (.exit id)) (.bool false) (.bool false) (fun _ => rfl) h7 (fun x hx => h4 x (h8 x hx)) rfl rfl
      | ret => exact done .done (some .ret) (.bool false) (.bool false) (fun _ => rfl) h7 (fun x hx => h4 x (h8 x hx)) rfl rfl
    | _ => rw [hg] at hne; exact absurd rfl hne
end
end Go.Proofs.YtgemonlknehegaaGreatDoor.AI
namespace Go.Proofs.YtgemonlknehegaaGreatDoor.AI
open Go
set_option linter.unusedVariables false
set_option linter.unusedSimpArgs false
theorem ME.same_eq {e f : ME} (h : e.same f = true) : e = f := by
  obtain ⟨k, v, b⟩ := e
  obtain ⟨k', v', b'⟩ := f
  have h' : pick (k.same k') (pick (v.same v') (Nat.beq b b') false) false = true := h
  obtain ⟨h1, h2⟩ := pickF.1 h'
  obtain ⟨h3, h4⟩ := pickF.1 h2
  rw [AI.same_eq h1, AI.same_eq h3, beq_iff.1 h4]
theorem sameME_eq : ∀ {l m : List ME}, sameME l m = true → l = m := by
  intro l
  induction l with
  | nil => intro m h; exact (isNil_eq.1 (show isNil m = true from h)).symm
  | cons a l ih =>
    intro m h
    cases m with
    | nil => cases h
    | cons b m =>
      have h' : Bool.rec false (sameME l m) (a.same b) = true := h
      cases hf : a.same b with
      | false => rw [hf] at h'; cases h'
      | true => rw [hf] at h'; rw [ME.same_eq hf, ih h']
theorem sameO_eq {a b : Option Nat} (h : sameO a b = true) : a = b := by
  cases a <;> cases b
  · rfl
  · cases h
  · cases h
  · rename_i x y
    have h' : Nat.beq x y = true := h
    rw [beq_iff.1 h']
theorem AObj.same_eq {a b : AObj} (h : a.same b = true) : a = b := by
  cases a <;> cases b <;> try (cases h; done)
  · rename_i t l n o t' l' n' o'
    have h' : pick (Nat.beq t t') (pick (Nat.beq n n') (pick (sameO o o') (sameL1 l l') false) false) false = true := h
    obtain ⟨h1, h2⟩ := pickF.1 h'
    obtain ⟨h3, h4⟩ := pickF.1 h2
    obtain ⟨h5, h6⟩ := pickF.1 h4
    rw [beq_iff.1 h1, beq_iff.1 h3, sameO_eq h5, sameL1_eq h6]
  · rename_i es c es' c'
    have h' : pick (Nat.beq c c') (sameME es es') false = true := h
    obtain ⟨h1, h2⟩ := pickF.1 h'
    rw [beq_iff.1 h1, sameME_eq h2]
theorem meetO_some {a b : Option AObj} {o : AObj} (h : meetO a b = some o) : a = some o ∧ b = some o := by
  unfold meetO at h
  obtain ⟨x, h1, h2⟩ := bindS_some h
  obtain ⟨y, h3, h4⟩ := bindS_some h2
  obtain ⟨h5, h6⟩ := whenS_some h4
  cases h6
  rw [h1, h3, AObj.same_eq h5]
  exact ⟨rfl, rfl⟩
theorem T.meet_get : ∀ (t t' : T AObj) (k : Pos) (o : AObj), (t.meet t').get k = some o → t.get k = some o ∧ t'.get k = some o := by
  intro t
  induction t with
  | leaf => intro t' k o h; cases h
  | node l v r ihl ihr =>
    intro t' k o h
    cases t' with
    | leaf => cases h
    | node l' v' r' =>
      cases k with
      | h => exact meetO_some (show meetO v v' = some o from h)
      | o k => exact ihl l' k o h
      | i k => exact ihr r' k o h
def Weaker (r' r : VR) : Prop := r'.v = r.v ∧ r'.h.next = r.h.next ∧ ∀ k o, r'.h.objs.get k = some o → r.h.objs.get k = some o
theorem meet2_ok {r s : VR} (hne : meet2 r s ≠ []) : ∃ x, meet2 r s = [x] ∧ Weaker x r ∧ Weaker x s := by
  unfold meet2 at hne ⊢
  obtain ⟨h1, e1⟩ := whenL_ne hne
  rw [e1] at hne ⊢
  obtain ⟨h2, e2⟩ := whenL_ne hne
  rw [e2]
  refine ⟨_, rfl, ⟨rfl, rfl, fun k o hk => (T.meet_get _ _ k o hk).1⟩, ⟨AI.same_eq h1, Pos.eq_of_beq h2, fun k o hk => (T.meet_get _ _ k o hk).2⟩⟩
theorem meetAll_ok : ∀ {rs : List VR}, meetAll rs ≠ [] → ∀ r ∈ rs, ∃ x ∈ meetAll rs, Weaker x r := by
  intro rs
  induction rs with
  | nil => intro hne; exact absurd rfl hne
  | cons a l ih =>
    intro hne r hr
    cases l with
    | nil =>
      rcases List.mem_cons.1 hr with rfl | hr
      · exact ⟨r, List.mem_singleton.2 rfl, rfl, rfl, fun _ _ h => h⟩
      · cases hr
    | cons b l =>
      have e : meetAll (a :: b :: l) = bindO (meetAll (b :: l)) fun x => meet2 a x := rfl
      rw [e] at hne ⊢
      obtain ⟨h1, h2⟩ := bindO_ne hne
      have one : ∀ x ∈ meetAll (b :: l), ∃ y, meet2 a x = [y] ∧ Weaker y a ∧ Weaker y x ∧ y ∈ bindO (meetAll (b :: l)) fun x => meet2 a x := fun x hx => by
        obtain ⟨h3, h4⟩ := h2 x hx
        obtain ⟨y, e1, w1, w2⟩ := meet2_ok h3
        exact ⟨y, e1, w1, w2, h4 y (by rw [e1]; exact List.mem_singleton.2 rfl)⟩
      rcases List.mem_cons.1 hr with rfl | hr
      · cases hm : meetAll (b :: l) with
        | nil => rw [hm] at h1; exact absurd rfl h1
        | cons x xs =>
          obtain ⟨y, _, w1, _, hy⟩ := one x (by rw [hm]; simp)
          rw [hm] at hy
          exact ⟨y, hy, w1⟩
      · obtain ⟨x, hx, w⟩ := ih h1 r hr
        obtain ⟨y, _, _, w2, hy⟩ := one x hx
        exact ⟨y, hy, w2.1.trans w.1, w2.2.1.trans w.2.1, fun k o hk => w.2.2 k o (w2.2.2 k o hk)⟩
section
variable {P : Program}
theorem Ret.weak {N : Nat} {σ : Sig} {h : H} {w : World} {rs rs' : List VR} (hw : ∀ r ∈ rs, ∃ x ∈ rs', Weaker x r) {e : Ending} {w' : World} (hr : Ret P N σ h w rs e w') : Ret P N σ h w rs' e w' := by
  cases e with
  | panicked _ => exact hr.elim
  | outgrown => exact hr.elim
  | returned v =>
    obtain ⟨r, hr, σ', d, E⟩ := hr
    obtain ⟨x, hx, w1, w2, w3⟩ := hw r hr
    exact ⟨x, hx, σ', by rw [w1]; exact d, E.weak w3 (by rw [w2]; exact Nat.le_refl _)⟩
/-- THE INTERPRETER IS SOUND. -/
theorem run_sound (hE : ExtOk P) (hm : P.follows .mixedOrders = true) (mg : Nat → Bool) : ∀ n, SoundRec P (run P mg n)
  | 0 => ⟨fun _ _ _ h => absurd rfl h, fun _ _ _ h => absurd rfl h, fun _ _ _ h => absurd rfl h⟩
  | n + 1 => by
    have ih := run_sound hE hm mg n
    have ec : ∀ f args h, run P mg (n + 1) (.call f args) h = pick (mg f) (meetAll ((compileFn P f).run (run P mg n) args h)) ((compileFn P f).run (run P mg n) args h) := fun _ _ _ => rfl
    have er : ∀ b args h, run P mg (n + 1) (.round b args) h = runRound P (run P mg n) b args h := fun _ _ _ => rfl
    have key : ∀ f args h, run P mg (n + 1) (.call f args) h ≠ [] → (compileFn P f).run (run P mg n) args h ≠ [] ∧ ∀ r ∈ (compileFn P f).run (run P mg n) args h, ∃ x ∈ run P mg (n + 1) (.call f args) h, Weaker x r := fun f args h hne => by
      rw [ec] at hne ⊢
      rcases pick_ne hne with ⟨_, e1⟩ | ⟨_, e1⟩
      · rw [e1] at hne ⊢
        refine ⟨fun h0 => ?_, meetAll_ok hne⟩
        rw [h0] at hne; exact absurd rfl hne
      · rw [e1] at hne ⊢
        exact ⟨hne, fun r hr => ⟨r, hr, rfl, rfl, fun _ _ h => h⟩⟩
    refine ⟨fun f args h hne => (fn_ok hE hm ih (key f args h hne).1).1, fun f args h hne N σ w vs hh hd => ?_, fun b args h hne N σ w vs l hh hd hl => ?_⟩
    · obtain ⟨k1, k2⟩ := key f args h hne
      exact ((fn_ok hE hm ih k1).2 N σ w vs hh hd).mono fun e w' hr => Ret.weak k2 hr
    · rw [er] at hne ⊢
      exact round_ok hE hm ih hne N σ w vs l hh hd hl
end
end Go.Proofs.YtgemonlknehegaaGreatDoor.AI
