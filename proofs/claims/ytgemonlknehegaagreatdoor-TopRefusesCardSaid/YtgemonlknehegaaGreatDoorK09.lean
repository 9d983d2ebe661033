/- The chain of TopRefuses, part 9. -/
import Derived.Test.YtgemonlknehegaaGreatDoorK08
namespace Go.Proofs.YtgemonlknehegaaGreatDoor.AI
open Go
set_option linter.unusedVariables false
set_option linter.unusedSimpArgs false
section
variable {P : Program} {N : Nat} {σ : Sig} {h : H} {w w' : World} {t : Tm} {a : Act}
theorem TR.put {σ : Sig} {t : Tm} {a : Act} (h : TR σ t a.tmps) {dst : Option Tmp} (hd : ∀ d, dst = some d → d < a.tmps.size) {v : AV} {u : Value} (hv : den σ v = some u) : TR σ (tput t dst v) (a.put dst u).tmps := by
  cases dst with
  | none => exact h
  | some d => exact h.set (hd d rfl) hv
theorem TR.put_undef {σ : Sig} {t : Tm} {a : Act} (h : TR σ t a.tmps) (dst : Option Tmp) : TR σ (tput t dst .undef) (a.put dst undef).tmps := by
  cases dst with
  | none => exact h
  | some d =>
    by_cases hd : d < a.tmps.size
    · exact h.set hd (den_undef σ)
    · intro i
      show den σ (tget (t.set (posOf d) .undef) i) = some ((a.tmps.setIfInBounds d undef).getD i undef)
      rw [tget_set]
      have hs : a.tmps.setIfInBounds d undef = a.tmps := by
        apply Array.ext'
        simp [Array.setIfInBounds, hd]
      rw [hs]
      by_cases e : i = d
      · subst e
        rw [if_pos rfl, den_undef]
        congr 1
        simp [Array.getD, hd]
      · rw [if_neg e]; exact h i
theorem put_size (a : Act) (dst : Option Tmp) (v : Value) : (a.put dst v).tmps.size = a.tmps.size := by cases dst <;> simp [Act.put]
theorem put_defers (a : Act) (dst : Option Tmp) (v : Value) : (a.put dst v).defers = a.defers := by cases dst <;> rfl
/-- the state within a region -/
structure SR (P : Program) (N nt : Nat) (σ : Sig) (t : Tm) (h : H) (a : Act) (w : World) : Prop where
  tr : TR σ t a.tmps
  size : a.tmps.size = nt
  holds : Holds P N σ h w
theorem SR.next {nt : Nat} {σ' : Sig} {h' : H} (s : SR P N nt σ t h a w) (e : Ext P N σ h w σ' h' w') {dst : Option Tmp} (hd : ∀ d, dst = some d → d < nt) {v : AV} {u : Value} (hv : den σ' v = some u) : SR P N nt σ' (tput t dst v) h' (a.put dst u) w' :=
  ⟨(s.tr.mono e.le).put (by rw [s.size]; exact hd) hv, by rw [put_size, s.size], e.holds⟩
theorem SR.skip {nt : Nat} (s : SR P N nt σ t h a w) (dst : Option Tmp) : SR P N nt σ (tput t dst .undef) h (a.put dst undef) w := ⟨s.tr.put_undef dst, by rw [put_size, s.size], s.holds⟩
section
variable {nt : Nat} {ops : Array Oper} {o : Oper}
theorem item_op {op : AOp} (hc : (compileItem P nt ops o).op = op) (hb : op ≠ .bad) : (∀ x ∈ o.op.operands.toList, okOpd x = true) ∧ (∀ d, o.dst = some d → d < nt) ∧ compileOp P o = op := by
  unfold compileItem at hc
  simp only at hc
  split at hc
  · rename_i hok
    have hok' : ∀ x ∈ o.op.operands.toList, okOpd x = true := fun x hx => List.all_eq_true.1 hok x hx
    split at hc
    · rename_i d hd
      split at hc
      · rename_i hlt
        exact ⟨hok', fun d' hd' => by rw [hd] at hd'; cases hd'; exact blt_iff.1 hlt, hc⟩
      · exact absurd hc.symm hb
    · rename_i hd
      exact ⟨hok', fun d' hd' => (by rw [hd] at hd'; cases hd'), hc⟩
  · exact absurd hc.symm hb
theorem value_wp {u : Value} (hd : ∀ c, o.op ≠ .defer c) {w' : World} (hr : (execOp a.eval o).run P w = .ok (.value u) w') (ro : Option Nat) {next : Act → World → Prop} {Q : Exit → Act → World → Prop} (hn : next (a.put o.dst u) w') : o.wpIn (FW ro) 0 P a w next Q := by
  refine ⟨fun _ _ => trivial, ?_⟩
  rw [Oper.semAt_eq _ _ _ hd, hr]
  exact hn
theorem not_defer {op : AOp} (hc : compileOp P o = op) (hb : op ≠ .bad) : ∀ c, o.op ≠ .defer c := fun c e => by
  apply hb
  rw [← hc]
  unfold compileOp
  rw [e]
theorem item_pure (hE : ExtOk P) (s : SR P N nt σ t h a w) {f : Tm → Option AV} (hc : (compileItem P nt ops o).op = .pure f) {v : AV} (hv : f t = some v) :
    ∃ u, den σ v = some u ∧ (∀ d, o.dst = some d → d < nt) ∧ ∀ (ro : Option Nat) (next : Act → World → Prop) (Q : Exit → Act → World → Prop) (w : World), next (a.put o.dst u) w → o.wpIn (FW ro) 0 P a w next Q := by
  obtain ⟨h1, h2, h3⟩ := item_op hc (by intro e; cases e)
  obtain ⟨u, h4, h5⟩ := pure_ok hE h3 h1 s.tr hv
  exact ⟨u, h4, h2, fun ro next Q w hn => value_wp (not_defer h3 (by intro e; cases e)) (h5 w) ro hn⟩
theorem item_load (hE : ExtOk P) (s : SR P N nt σ t h a w) {f : Tm → H → Option AV} (hc : (compileItem P nt ops o).op = .load f) {v : AV} (hv : f t h = some v) :
    ∃ u, den σ v = some u ∧ (∀ d, o.dst = some d → d < nt) ∧ ∀ (ro : Option Nat) (next : Act → World → Prop) (Q : Exit → Act → World → Prop), next (a.put o.dst u) w → o.wpIn (FW ro) 0 P a w next Q := by
  obtain ⟨h1, h2, h3⟩ := item_op hc (by intro e; cases e)
  obtain ⟨u, h4, h5⟩ := load_ok hE h3 h1 s.tr s.holds hv
  exact ⟨u, h4, h2, fun ro next Q hn => value_wp (not_defer h3 (by intro e; cases e)) h5 ro hn⟩
theorem item_alloc (hE : ExtOk P) (s : SR P N nt σ t h a w) {f : Tm → Option AA} (hc : (compileItem P nt ops o).op = .alloc f) {aa : AA} (hv : f t = some aa) :
    ∃ σ' w' u, den σ' (aa.val h.next) = some u ∧ Ext P N σ h w σ' (h.alloc aa.obj) w' ∧ (∀ d, o.dst = some d → d < nt) ∧ ∀ (ro : Option Nat) (next : Act → World → Prop) (Q : Exit → Act → World → Prop), next (a.put o.dst u) w' → o.wpIn (FW ro) 0 P a w next Q := by
  obtain ⟨h1, h2, h3⟩ := item_op hc (by intro e; cases e)
  obtain ⟨ob, d, cap, vv, h4, h5⟩ := alloc_ok (w := w) hE h3 h1 s.tr hv
  have hle := Sig.le_put s.holds.next_none ⟨w.heap.size, 0, cap⟩
  obtain ⟨h6, h7⟩ := h5 _ h.next hle (Sig.put_same _ _ _)
  exact ⟨_, { w with heap := w.heap.push ob, drawn := d }, vv, h6, Ext.alloc s.holds rfl h7 rfl rfl rfl rfl, h2, fun ro next Q hn => value_wp (not_defer h3 (by intro e; cases e)) h4 ro hn⟩
theorem item_heavy (hE : ExtOk P) (s : SR P N nt σ t h a w) {rec : Rec} (hR : SoundRec P rec) {f : Rec → Tm → H → List VR} (hc : (compileItem P nt ops o).op = .heavy f) (hne : f rec t h ≠ []) :
    (∀ d, o.dst = some d → d < nt) ∧ HeavyOk P N σ h w a o (f rec t h) := by
  obtain ⟨h1, h2, h3⟩ := item_op hc (by intro e; cases e)
  exact ⟨h2, heavy_ok hE h3 h1 s.tr s.holds hR hne⟩
theorem wanted_ok (ht : TR σ t a.tmps) {b : Bool} (hw : wantedA t (compileItem P nt ops o).guard = some b) : Region.wanted o (yielded ops a.tmps) = b := by
  have hg : (compileItem P nt ops o).guard = match o.guard with | none => none | some (j, w) => some ((ops[j]?).bind (·.dst), w) := rfl
  rw [hg] at hw
  unfold Region.wanted
  cases hgo : o.guard with
  | none => rw [hgo] at hw; cases hw; rfl
  | some p =>
    obtain ⟨j, wv⟩ := p
    rw [hgo] at hw
    unfold wantedA at hw
    simp only at hw
    unfold yielded
    cases hd : (ops[j]?).bind (·.dst) with
    | none => rw [hd] at hw; cases hw; simp [hd]
    | some d =>
      rw [hd] at hw
      simp only [hd] at hw ⊢
      have htd := ht d
      simp only [Option.bind_some]
      cases hv : tget t d with
      | bool c =>
        rw [hv] at hw htd
        have e1 : some (beqv c wv) = some b := hw
        have e2 := den_bool htd
        have hlt : d < a.tmps.size := by
          apply Classical.byContradiction
          intro hn
          have : a.tmps.getD d undef = undef := by simp [Array.getD, hn]
          rw [this] at e2; cases e2
        have e3 : a.tmps[d]? = some (.bool c) := by
          rw [← e2]; simp [Array.getD, hlt]
        rw [e3]
        cases e1
        rw [beqv_iff]
        rfl
      | tuple l =>
        rw [hv] at hw htd
        have e1 : whenS (isNil l) (some false) = some b := hw
        obtain ⟨e4, e5⟩ := whenS_some e1
        cases e5
        have := isNil_eq.1 e4
        subst this
        have e2 : a.tmps.getD d undef = .tuple #[] := by simpa [den, denL, eq_comm] using htd
        have e6 : ∀ c, a.tmps[d]? ≠ some (.bool c) := fun c e => by
          have : a.tmps.getD d undef = .bool c := by rw [Array.getD_eq_getD_getElem?, e]; rfl
          rw [this] at e2; cases e2
        split
        · rename_i c e7; exact absurd e7 (e6 c)
        · rfl
      | _ => rw [hv] at hw; cases hw
end
end
end Go.Proofs.YtgemonlknehegaaGreatDoor.AI
namespace Go.Proofs.YtgemonlknehegaaGreatDoor.AI
open Go
set_option linter.unusedVariables false
set_option linter.unusedSimpArgs false
section
variable {P : Program} {N : Nat} {σ : Sig} {h : H} {w w' : World} {t : Tm} {a : Act} {nt : Nat} {ops : Array Oper} {o : Oper}
theorem stepOp_ne {dst : Option Tmp} {op : AOp} {rec : Rec} {K : Tm → H → List TH} (hne : (stepOp dst op).run rec K t h ≠ []) :
    (∃ f v, op = .pure f ∧ f t = some v ∧ (stepOp dst op).run rec K t h = K (tput t dst v) h) ∨
    (∃ f v, op = .load f ∧ f t h = some v ∧ (stepOp dst op).run rec K t h = K (tput t dst v) h) ∨
    (∃ f v, op = .alloc f ∧ f t = some v ∧ (stepOp dst op).run rec K t h = K (tput t dst (v.val h.next)) (h.alloc v.obj)) ∨
    (∃ f, op = .heavy f ∧ f rec t h ≠ [] ∧ ∀ r ∈ f rec t h, K (tput t dst r.v) r.h ≠ [] ∧ ∀ x ∈ K (tput t dst r.v) r.h, x ∈ (stepOp dst op).run rec K t h) := by
  cases op with
  | bad => cases dst <;> exact absurd rfl hne
  | pure f =>
    cases dst with
    | none =>
      have e : (stepOp none (.pure f)).run rec K t h = liftO (f t) fun _ => K t h := rfl
      rw [e] at hne
      obtain ⟨v, hv, e1⟩ := liftO_ne hne
      exact .inl ⟨f, v, rfl, hv, by rw [e, e1]; rfl⟩
    | some d =>
      have e : (stepOp (some d) (.pure f)).run rec K t h = liftO (f t) fun v => K (t.set (posOf d) v) h := rfl
      rw [e] at hne
      obtain ⟨v, hv, e1⟩ := liftO_ne hne
      exact .inl ⟨f, v, rfl, hv, by rw [e, e1]; rfl⟩
  | load f =>
    cases dst with
    | none =>
      have e : (stepOp none (.load f)).run rec K t h = liftO (f t h) fun _ => K t h := rfl
      rw [e] at hne
      obtain ⟨v, hv, e1⟩ := liftO_ne hne
      exact .inr (.inl ⟨f, v, rfl, hv, by rw [e, e1]; rfl⟩)
    | some d =>
      have e : (stepOp (some d) (.load f)).run rec K t h = liftO (f t h) fun v => K (t.set (posOf d) v) h := rfl
      rw [e] at hne
      obtain ⟨v, hv, e1⟩ := liftO_ne hne
      exact .inr (.inl ⟨f, v, rfl, hv, by rw [e, e1]; rfl⟩)
  | alloc f =>
    cases dst with
    | none =>
      have e : (stepOp none (.alloc f)).run rec K t h = liftO (f t) fun a => K t (h.alloc a.obj) := rfl
      rw [e] at hne
      obtain ⟨v, hv, e1⟩ := liftO_ne hne
      exact .inr (.inr (.inl ⟨f, v, rfl, hv, by rw [e, e1]; rfl⟩))
    | some d =>
      have e : (stepOp (some d) (.alloc f)).run rec K t h = liftO (f t) fun a => K (t.set (posOf d) (a.val h.next)) (h.alloc a.obj) := rfl
      rw [e] at hne
      obtain ⟨v, hv, e1⟩ := liftO_ne hne
      exact .inr (.inr (.inl ⟨f, v, rfl, hv, by rw [e, e1]; rfl⟩))
  | heavy f =>
    have e : (stepOp dst (.heavy f)).run rec K t h = bindO (f rec t h) fun r => K (tput t dst r.v) r.h := by cases dst <;> rfl
    rw [e] at hne
    obtain ⟨h1, h2⟩ := bindO_ne hne
    exact .inr (.inr (.inr ⟨f, rfl, h1, fun r hr => by rw [e]; exact h2 r hr⟩))
theorem stepItem_ne {i : AItem} {rec : Rec} {K : Tm → H → List TH} (hne : (stepItem i).run rec K t h ≠ []) :
    ∃ b, wantedA t i.guard = some b ∧ ((b = true ∧ (stepItem i).run rec K t h = (stepOp i.dst i.op).run rec K t h) ∨ (b = false ∧ (stepItem i).run rec K t h = K (tput t i.dst .undef) h)) := by
  obtain ⟨g, dst, op⟩ := i
  cases g with
  | none => exact ⟨true, rfl, .inl ⟨rfl, rfl⟩⟩
  | some g =>
    have e : (stepItem ⟨some g, dst, op⟩).run rec K t h = liftO (wantedA t (some g)) fun w => pick w ((stepOp dst op).run rec K t h) (K (tput t dst .undef) h) := rfl
    rw [e] at hne
    obtain ⟨b, hb, e1⟩ := liftO_ne hne
    refine ⟨b, hb, ?_⟩
    rw [e, e1]
    cases b with
    | true => exact .inl ⟨rfl, rfl⟩
    | false => exact .inr ⟨rfl, rfl⟩
/-- what a region that ends must give -/
def RegEnd (P : Program) (N nt : Nat) (σ : Sig) (h : H) (w : World) (ds : List Deferred) (rs : List TH) (Q : Exit → Act → World → Prop) : Prop :=
  ∀ r ∈ rs, ∀ σ' a' w', SR P N nt σ' r.t r.h a' w' → a'.defers = ds → Ext P N σ h w σ' r.h w' → Q .normal a' w'
theorem RegEnd.step {σ' : Sig} {h' : H} {ds : List Deferred} {rs rs' : List TH} {Q : Exit → Act → World → Prop} (hq : RegEnd P N nt σ h w ds rs Q) (e : Ext P N σ h w σ' h' w') (hs : ∀ r ∈ rs', r ∈ rs) : RegEnd P N nt σ' h' w' ds rs' Q :=
  fun r hr σ'' a' w'' s hd e' => hq r (hs r hr) σ'' a' w'' s hd (e.trans e')
theorem seq_ok (hE : ExtOk P) {rec : Rec} (hR : SoundRec P rec) (ro : Option Nat) {Q : Exit → Act → World → Prop} : ∀ (l : List Oper) (k : Nat) (σ : Sig) (t : Tm) (h : H) (a : Act) (w : World), (∀ i, i < l.length → ops[k + i]? = l[i]?) →
    SR P N nt σ t h a w → runItems rec (compileItems P nt ops l) t h ≠ [] → RegEnd P N nt σ h w a.defers (runItems rec (compileItems P nt ops l) t h) Q → wpOpsIn (FW ro) 0 P ops Q (List.range' k l.length) a w
  | [], k, σ, t, h, a, w, _, s, _, hq => hq ⟨t, h⟩ (List.mem_singleton.2 rfl) σ a w s rfl (Ext.refl s.holds)
  | o :: l, k, σ, t, h, a, w, hl, s, hne, hq => by
    have e0 : runItems rec (compileItems P nt ops (o :: l)) t h = (stepItem (compileItem P nt ops o)).run rec (runItems rec (compileItems P nt ops l)) t h := rfl
    rw [e0] at hne hq
    have ih := seq_ok hE hR ro (Q := Q) l (k + 1)
    have hl' : ∀ i, i < l.length → ops[k + 1 + i]? = l[i]? := fun i hi => by
      have := hl (i + 1) (by simpa using hi)
      rw [show k + 1 + i = k + (i + 1) by omega, this]; simp
    have hk : ops[k]? = some o := by simpa using hl 0 (by simp)
    rw [List.length_cons, List.range'_succ]
    unfold wpOpsIn
    simp only [hk]
    obtain ⟨b, hb, hor⟩ := stepItem_ne hne
    have hw := wanted_ok s.tr hb
    rcases hor with ⟨rfl, e1⟩ | ⟨rfl, e1⟩
    · rw [if_pos hw]
      rw [e1] at hne hq
      rcases stepOp_ne hne with ⟨f, v, hf, hv, e2⟩ | ⟨f, v, hf, hv, e2⟩ | ⟨f, v, hf, hv, e2⟩ | ⟨f, hf, hfn, h2⟩
      · rw [e2] at hne hq
        obtain ⟨u, d1, d2, d3⟩ := item_pure hE s hf hv
        refine d3 ro _ Q w (ih σ _ h _ w hl' (s.next (Ext.refl s.holds) d2 d1) hne ?_)
        rw [put_defers]; exact hq
      · rw [e2] at hne hq
        obtain ⟨u, d1, d2, d3⟩ := item_load hE s hf hv
        refine d3 ro _ Q (ih σ _ h _ w hl' (s.next (Ext.refl s.holds) d2 d1) hne ?_)
        rw [put_defers]; exact hq
      · rw [e2] at hne hq
        obtain ⟨σ', w', u, d1, dE, d2, d3⟩ := item_alloc hE s hf hv
        refine d3 ro _ Q (ih σ' _ _ _ w' hl' (s.next dE d2 d1) hne ?_)
        rw [put_defers]; exact hq.step dE (fun r hr => hr)
      · obtain ⟨d2, d3⟩ := item_heavy hE s hR hf hfn
        refine d3 ro _ Q fun r hr σ' v w' hv dE => ?_
        obtain ⟨h3, h4⟩ := h2 r hr
        refine ih σ' _ _ _ w' hl' (s.next dE d2 hv) h3 ?_
        rw [put_defers]; exact hq.step dE h4
    · rw [if_neg (by rw [hw]; exact Bool.false_ne_true)]
      rw [e1] at hne hq
      refine ⟨fun _ _ => trivial, ih σ _ h _ w hl' (s.skip o.dst) hne ?_⟩
      rw [put_defers]; exact hq
theorem region_ok (hE : ExtOk P) {rec : Rec} (hR : SoundRec P rec) (ro : Option Nat) {Q : Exit → Act → World → Prop} {id : Nat} (s : SR P N nt σ t h a w) (hne : runItems rec (compileItems P nt ops ops.toList) t h ≠ [])
    (hq : RegEnd P N nt σ h w a.defers (runItems rec (compileItems P nt ops ops.toList) t h) Q) : (Code.region id ops false).wpIn (FW ro) 0 P Q a w := by
  refine wpIn_region ?_
  have := seq_ok (nt := nt) (ops := ops) hE hR ro (Q := Q) ops.toList 0 σ t h a w (fun i hi => by simp) s hne hq
  rw [List.range_eq_range']
  simpa using this
end
end Go.Proofs.YtgemonlknehegaaGreatDoor.AI
namespace Go.Proofs.YtgemonlknehegaaGreatDoor.AI
open Go
set_option linter.unusedVariables false
set_option linter.unusedSimpArgs false
section
variable {P : Program} {t t' : Tm}
def SameOn (l : List Operand) (t t' : Tm) : Prop := ∀ x ∈ l, opd x t = opd x t'
theorem opds_same {l : List Operand} (h : SameOn l t t') : opds l t = opds l t' := by
  induction l with
  | nil => rfl
  | cons x l ih =>
    show opd x t :: opds l t = opd x t' :: opds l t'
    rw [h x (by simp), ih fun y hy => h y (by simp [hy])]
theorem optmap_same {x : Option Operand} (h : ∀ y, x = some y → opd y t = opd y t') : x.map (opd · t) = x.map (opd · t') := by
  cases x with
  | none => rfl
  | some y => simp [h y rfl]
theorem afill_same : ∀ {ps : List (Nat × Nat × Operand)} (h : ∀ p ∈ ps, opd p.2.2 t = opd p.2.2 t') (cs : List AV), afill t ps cs = afill t' ps cs := by
  intro ps
  induction ps with
  | nil => intro _ cs; rfl
  | cons p ps ih =>
    intro h cs
    show whenS (Nat.beq (llen (opd p.2.2 t).cells) p.2.1) (bindS (lput p.1 (opd p.2.2 t).cells cs) fun cs => afill t ps cs) = whenS (Nat.beq (llen (opd p.2.2 t').cells) p.2.1) (bindS (lput p.1 (opd p.2.2 t').cells cs) fun cs => afill t' ps cs)
    rw [h p (by simp)]
    congr 1
    congr 1
    funext cs
    exact ih (fun q hq => h q (by simp [hq])) cs
theorem places_mem {pf : Nat → Option (Nat × Nat)} : ∀ {l : List (Nat × Operand)} {ps : List (Nat × Nat × Operand)}, places pf l = some ps → ∀ p ∈ ps, ∃ q ∈ l, q.2 = p.2.2 := by
  intro l
  induction l with
  | nil => intro ps h p hp; cases h; cases hp
  | cons x l ih =>
    intro ps h p hp
    unfold places at h
    split at h
    · rename_i q r hq hr
      cases h
      rcases List.mem_cons.1 hp with rfl | hp
      · exact ⟨x, by simp, rfl⟩
      · obtain ⟨y, hy, e⟩ := ih hr p hp
        exact ⟨y, by simp [hy], e⟩
    · cases h
def OpSame (op : AOp) (t t' : Tm) : Prop :=
  match op with
  | .bad => True
  | .pure f => f t = f t'
  | .load f => ∀ h, f t h = f t' h
  | .alloc f => f t = f t'
  | .heavy f => ∀ rec h, f rec t h = f rec t' h
theorem builtin_same (b : Builtin) (ats : List TypeId) {args : List Operand} (h : SameOn args t t') : OpSame (compileBuiltin P b ats args) t t' := by
  have one : ∀ {x : Operand} {l : List Operand}, args = x :: l → opd x t = opd x t' := fun e => h _ (by rw [e]; simp)
  have two : ∀ {x y : Operand} {l : List Operand}, args = x :: y :: l → opd x t = opd x t' ∧ opd y t = opd y t' := fun e => ⟨h _ (by rw [e]; simp), h _ (by rw [e]; simp)⟩
  have rest : ∀ {x : Operand} {l : List Operand}, args = x :: l → opds l t = opds l t' := fun e => opds_same fun y hy => h y (by rw [e]; simp [hy])
  cases b <;> simp only [compileBuiltin]
  case len =>
    split
    · rename_i ti x
      have e := one rfl
      unfold compileLen
      split <;> first | trivial | (simp only [OpSame, e, implies_true])
    · trivial
  case cap =>
    split
    · rename_i ti x
      have e := one rfl
      split <;> first | trivial | (simp only [OpSame, e, implies_true])
    · trivial
  case min =>
    split
    · have e := one rfl
      have e2 := rest rfl
      simp only [OpSame, e, e2]
    · trivial
  case max =>
    split
    · have e := one rfl
      have e2 := rest rfl
      simp only [OpSame, e, e2]
    · trivial
  case append =>
    split
    · rename_i ti u s x
      obtain ⟨e1, e2⟩ := two rfl
      split
      · unfold compileAppend
        (repeat' split) <;> first | trivial | (simp only [OpSame, e1, e2, implies_true])
      · trivial
    · trivial
  case copy =>
    split
    · rename_i ti u s x
      obtain ⟨e1, e2⟩ := two rfl
      split
      · unfold compileCopy
        (repeat' split) <;> first | trivial | (simp only [OpSame, e1, e2, implies_true])
      · trivial
    · trivial
  case clear =>
    split
    · rename_i ti x
      have e := one rfl
      (repeat' split) <;> first | trivial | (simp only [OpSame, e, implies_true])
    · trivial
  case delete =>
    split
    · rename_i ti l m k
      obtain ⟨e1, e2⟩ := two rfl
      (repeat' split) <;> first | trivial | (simp only [OpSame, e1, e2, implies_true])
    · trivial
  case unsafeSliceData =>
    split
    · rename_i x
      have e := one rfl
      simp only [OpSame, e, implies_true]
    · trivial
  case unsafeString =>
    split
    · rename_i ti l x n
      obtain ⟨e1, e2⟩ := two rfl
      (repeat' split) <;> first | trivial | (simp only [OpSame, e1, e2, implies_true])
    · trivial
  all_goals trivial
theorem op_same {o : Oper} (h : SameOn o.op.operands.toList t t') : OpSame (compileOp P o) t t' := by
  obtain ⟨dst, op, ty, pos, after, guard⟩ := o
  cases op <;> simp only [compileOp]
  case move x => simp only [OpSame]; rw [h x (by simp [Op.operands])]
  case assign x => simp only [OpSame]; rw [h x (by simp [Op.operands])]
  case pick c x y => simp only [OpSame]; rw [h x (by simp [Op.operands]), h y (by simp [Op.operands]), h c (by simp [Op.operands])]
  case alloc e => split <;> simp only [OpSame]
  case box e x => simp only [OpSame]; rw [h x (by simp [Op.operands])]
  case build ti parts =>
    split
    · split
      · split
        · rename_i ps hps
          simp only [OpSame]
          rw [afill_same fun p hp => ?_]
          obtain ⟨q, hq, e⟩ := places_mem hps p hp
          rw [← e]
          exact h q.2 (by simp [Op.operands]; exact ⟨q.1, Array.mem_toList_iff.1 hq⟩)
        · trivial
      · trivial
    · trivial
  case buildSlice ti len parts =>
    split
    · split
      · rename_i ps hz hs hps
        split
        · simp only [OpSame]
          rw [afill_same fun p hp => ?_]
          have hpf : ∃ pf, places pf parts.toList = some ps := by
            cases hpp : placeFn P (.slice _) with
            | none => rw [hpp] at hps; cases hps
            | some pf => rw [hpp] at hps; exact ⟨pf, hps⟩
          obtain ⟨pf, hpf⟩ := hpf
          obtain ⟨q, hq, e⟩ := places_mem hpf p hp
          rw [← e]
          exact h q.2 (by simp [Op.operands]; exact ⟨q.1, Array.mem_toList_iff.1 hq⟩)
        · trivial
      · trivial
    · trivial
  case load ti x =>
    split
    · split <;> (simp only [OpSame]; intro hm; rw [h x (by simp [Op.operands])])
    · trivial
  case store ti x v =>
    split
    · simp only [OpSame]; intro rec hm; rw [h x (by simp [Op.operands]), h v (by simp [Op.operands])]
    · trivial
  case nilCheck x => simp only [OpSame]; rw [h x (by simp [Op.operands])]
  case binOp op ti x y _ =>
    have hx := h x (by simp [Op.operands])
    have hy := h y (by simp [Op.operands])
    unfold compileBin
    split <;> (try (simp only [OpSame]; rw [hx, hy]))
    all_goals (split <;> first | trivial | (simp only [OpSame]; rw [hx, hy]))
  case unOp op ti x =>
    have hx := h x (by simp [Op.operands])
    split <;> first | trivial | (simp only [OpSame]; rw [hx])
  case convert s d x =>
    have hx := h x (by simp [Op.operands])
    unfold compileConvert
    (repeat' split) <;> first | trivial | (simp only [OpSame, hx, implies_true])
  case makeFunc fn fs cs =>
    have h1 := opds_same (l := fs.toList) (fun x hx => h x (by simp [Op.operands]; exact .inl (Array.mem_toList_iff.1 hx)))
    have h2 := opds_same (l := cs.toList) (fun x hx => h x (by simp [Op.operands]; exact .inr (Array.mem_toList_iff.1 hx)))
    split <;> first | trivial | (simp only [OpSame]; rw [h1, h2])
  case makeMap ti r => split <;> first | trivial | (simp only [OpSame])
  case makeSlice ti l c =>
    have h1 := h l (by simp [Op.operands])
    have h2 := h c (by simp [Op.operands])
    (repeat' split) <;> first | trivial | (simp only [OpSame]; rw [h1, h2])
  case slice ti x lo hi mx =>
    have hx := h x (by simp [Op.operands])
    have h1 := optmap_same (x := lo) (t := t) (t' := t') (fun y hy => h y (by subst hy; simp [Op.operands]))
    have h2 := optmap_same (x := hi) (t := t) (t' := t') (fun y hy => h y (by subst hy; simp [Op.operands]))
    have h3 := optmap_same (x := mx) (t := t) (t' := t') (fun y hy => h y (by subst hy; simp [Op.operands]))
    unfold compileSlice
    (repeat' split) <;> first | trivial | (simp only [OpSame, hx, h1, h2, h3, implies_true])
  case fieldAddr s x f =>
    have hx := h x (by simp [Op.operands])
    (repeat' split) <;> first | trivial | (simp only [OpSame]; rw [hx])
  case indexAddr ti x i =>
    have hx := h x (by simp [Op.operands])
    have hi := h i (by simp [Op.operands])
    unfold compileIndexAddr
    (repeat' split) <;> first | trivial | (simp only [OpSame]; rw [hx, hi])
  case index ti x i =>
    have hx := h x (by simp [Op.operands])
    have hi := h i (by simp [Op.operands])
    unfold compileIndex
    (repeat' split) <;> first | trivial | (simp only [OpSame]; rw [hx, hi])
  case lookup ti m k ok =>
    have hx := h m (by simp [Op.operands])
    have hi := h k (by simp [Op.operands])
    unfold compileLookup
    (repeat' split) <;> first | trivial | (simp only [OpSame, hx, hi, implies_true])
  case mapUpdate ti m k x =>
    have h1 := h m (by simp [Op.operands])
    have h2 := h k (by simp [Op.operands])
    have h3 := h x (by simp [Op.operands])
    (repeat' split) <;> first | trivial | (simp only [OpSame, h1, h2, h3, implies_true])
  case insert ti m k x =>
    have h1 := h m (by simp [Op.operands])
    have h2 := h k (by simp [Op.operands])
    have h3 := h x (by simp [Op.operands])
    (repeat' split) <;> first | trivial | (simp only [OpSame, h1, h2, h3, implies_true])
  case mapEntry ti m k =>
    have h1 := h m (by simp [Op.operands])
    have h2 := h k (by simp [Op.operands])
    unfold compileMapEntry
    (repeat' split) <;> first | trivial | (simp only [OpSame, h1, h2, implies_true])
  case entryStore ti m s x =>
    have h1 := h m (by simp [Op.operands])
    have h2 := h s (by simp [Op.operands])
    have h3 := h x (by simp [Op.operands])
    simp only [OpSame, h1, h2, h3, implies_true]
  case range ti x =>
    have hx := h x (by simp [Op.operands])
    (repeat' split) <;> first | trivial | (simp only [OpSame, hx, implies_true])
  case next it s =>
    have hx := h it (by simp [Op.operands])
    (repeat' split) <;> first | trivial | (simp only [OpSame, hx, implies_true])
  case entry it =>
    have hx := h it (by simp [Op.operands])
    simp only [OpSame, hx, implies_true]
  case extract x i =>
    have hx := h x (by simp [Op.operands])
    simp only [OpSame, hx]
  case call c =>
    obtain ⟨callee, args, ats⟩ := c
    have hargs : SameOn args.toList t t' := fun x hx => h x (by
      cases callee <;> simp [Op.operands, Call.operands] <;> first | exact Array.mem_toList_iff.1 hx | exact .inl (Array.mem_toList_iff.1 hx) | exact .inr (Array.mem_toList_iff.1 hx))
    have h1 := opds_same hargs
    unfold compileCall
    cases callee with
    | invoke _ _ => trivial
    | value fo =>
      have hf := h fo (by simp [Op.operands, Call.operands])
      simp only
      cases fo with
      | func g =>
        simp only
        split
        · split
          · simp only [OpSame, h1, implies_true]
          · split
            · split
              · rename_i x hx
                simp only [OpSame]; rw [hargs x (by rw [hx]; simp)]
              · trivial
            · split
              · split
                · rename_i x tr hx _
                  have e := hargs x (by rw [hx]; simp)
                  split
                  · split
                    · simp only [OpSame, e, implies_true]
                    · trivial
                  · trivial
                · trivial
              · trivial
        · trivial
      | tmp i => simp only [OpSame, h1, hf, implies_true]
      | const i => simp only [OpSame, h1, hf, implies_true]
      | global i => simp only [OpSame, h1, hf, implies_true]
    | builtin b => exact builtin_same b ats.toList hargs
  all_goals trivial
end
end Go.Proofs.YtgemonlknehegaaGreatDoor.AI
