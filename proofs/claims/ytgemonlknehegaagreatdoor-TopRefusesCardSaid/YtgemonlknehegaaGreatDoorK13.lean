/- The chain of TopRefuses, part 13. -/
import Derived.Test.YtgemonlknehegaaGreatDoorK12
import Derived.Test.YtgemonlknehegaaGreatDoorProg
import Derived.KernelRfl
import Derived.Laws.Externs
import Derived.Lib.Builder
namespace Go.Proofs.YtgemonlknehegaaGreatDoor.AI
open Go
set_option linter.unusedVariables false
set_option linter.unusedSimpArgs false
noncomputable section
/-! ### States that are written out -/
/-- an object of which no more is known than of another: the same, or a row of open capacity without its cells -/
def AObj.le (a b : AObj) : Bool :=
  Bool.rec (a.onRow false fun t l n o => b.onRow false fun t' _ _ o' => pick (Nat.beq t t') (pick (Nat.beq n 0) (pick (isNil l) (Option.rec false (fun x => Option.rec false (fun y => Nat.beq x y) o') o) false) false) false) true (a.same b)
def leH (l : List (Pos × AObj)) (h : H) : Bool := lall (fun p => Option.rec false (fun o => p.2.le o) (h.objs.get p.1)) l
def mkObjs (l : List (Pos × AObj)) : T AObj := List.rec .leaf (fun p _ ih => ih.set p.1 p.2) l
def mkTm (l : List (Nat × AV)) : Tm := List.rec .leaf (fun p _ ih => ih.set (posOf p.1) p.2) l
def sameOV (a b : Option AV) : Bool := Option.rec (Option.rec true (fun _ => false) b) (fun x => Option.rec false (fun y => x.same y) b) a
def T.sameV (t : Tm) : Tm → Bool :=
  T.rec (fun t' => T.rec true (fun _ _ _ _ _ => false) t') (fun _ v _ ihl ihr t' => T.rec false (fun l' v' r' _ _ => pick (sameOV v v') (pick (ihl l') (ihr r') false) false) t') t
structure ST where
  tm : List (Nat × AV)
  hs : List (Pos × AObj)
  next : Pos
def ST.t (s : ST) : Tm := mkTm s.tm
def ST.h (s : ST) : H := ⟨mkObjs s.hs, s.next⟩
/-- a state of which s knows no more -/
def ST.fits (s : ST) (t : Tm) (ms : List Pos) (h : H) : Bool := pick (isNil ms) (pick (s.t.sameV t) (pick (s.next.beq h.next) (leH s.hs h) false) false) false
def AExit.isN (e : AExit) : Bool := e.on true (fun _ => false) false
def okTo (s : ST) (o : EO) : Bool := pick o.e.isN (s.fits o.t o.ms o.h) false
def okEnd (id : Nat) (s : ST) (o : EO) : Bool := pick (o.e.on false (fun i => Nat.beq i id) false) (s.fits o.t o.ms o.h) false
def allE (f : EO → Bool) (l : List EO) : Bool := pick (isNil l) false (lall f l)
/-- so many turns of a loop -/
def iterK (r : Tm → List Pos → H → List EO) (k : Nat) : Tm → List Pos → H → List EO :=
  Nat.rec (fun t ms h => [⟨.normal, t, ms, h⟩]) (fun _ ih t ms h => bindO (r t ms h) fun o => o.andThen ih) k
theorem sameOV_eq {a b : Option AV} (h : sameOV a b = true) : a = b := by
  cases a <;> cases b
  · rfl
  · cases h
  · cases h
  · rename_i x y
    have h' : x.same y = true := h
    rw [AI.same_eq h']
theorem T.sameV_eq : ∀ {t t' : Tm}, t.sameV t' = true → t = t' := by
  intro t
  induction t with
  | leaf =>
    intro t' h
    cases t' with
    | leaf => rfl
    | node l v r => cases h
  | node l v r ihl ihr =>
    intro t' h
    cases t' with
    | leaf => cases h
    | node l' v' r' =>
      have h' : pick (sameOV v v') (pick (l.sameV l') (r.sameV r') false) false = true := h
      obtain ⟨h1, h2⟩ := pickF.1 h'
      obtain ⟨h3, h4⟩ := pickF.1 h2
      rw [sameOV_eq h1, ihl h3, ihr h4]
theorem mkObjs_get : ∀ {l : List (Pos × AObj)} {k : Pos} {o : AObj}, (mkObjs l).get k = some o → (k, o) ∈ l := by
  intro l
  induction l with
  | nil => intro k o h; cases h
  | cons p l ih =>
    intro k o h
    have h' : ((mkObjs l).set p.1 p.2).get k = some o := h
    rw [T.get_set] at h'
    by_cases e : k = p.1
    · rw [if_pos e] at h'; cases h'; rw [e]; exact List.mem_cons_self ..
    · rw [if_neg e] at h'; exact List.mem_cons_of_mem _ (ih h')
theorem lall_mem {α : Type} {f : α → Bool} : ∀ {l : List α}, lall f l = true → ∀ a ∈ l, f a = true := by
  intro l
  induction l with
  | nil => intro _ a ha; cases ha
  | cons b l ih =>
    intro h a ha
    have h' : Bool.rec false (lall f l) (f b) = true := h
    cases hf : f b with
    | false => rw [hf] at h'; cases h'
    | true =>
      rw [hf] at h'
      rcases List.mem_cons.1 ha with rfl | ha
      · exact hf
      · exact ih h' a ha
def AObj.Less (a b : AObj) : Prop := a = b ∨ ∃ ty cells n least, b = .row ty cells n (some least) ∧ a = .row ty [] 0 (some least)
theorem AObj.le_less {a b : AObj} (h : a.le b = true) : a.Less b := by
  unfold AObj.le at h
  cases hs : a.same b with
  | true => exact .inl (AObj.same_eq hs)
  | false =>
    rw [hs] at h
    cases a <;> cases b <;> try (cases h; done)
    rename_i t l n o t' l' n' o'
    have h' : pick (Nat.beq t t') (pick (Nat.beq n 0) (pick (isNil l) (Option.rec false (fun x => Option.rec false (fun y => Nat.beq x y) o') o) false) false) false = true := h
    obtain ⟨h1, h2⟩ := pickF.1 h'
    obtain ⟨h3, h4⟩ := pickF.1 h2
    obtain ⟨h5, h6⟩ := pickF.1 h4
    cases o with
    | none => cases h6
    | some x =>
      cases o' with
      | none => cases h6
      | some y =>
        have h7 : Nat.beq x y = true := h6
        refine .inr ⟨t', l', n', y, rfl, ?_⟩
        rw [beq_iff.1 h1, beq_iff.1 h3, isNil_eq.1 h5, beq_iff.1 h7]
def LessH (h' h : H) : Prop := h'.next = h.next ∧ ∀ k o, h'.objs.get k = some o → ∃ o', h.objs.get k = some o' ∧ o.Less o'
theorem LessH.refl (h : H) : LessH h h := ⟨rfl, fun k o hk => ⟨o, hk, .inl rfl⟩⟩
theorem ST.fits_ok {s : ST} {t : Tm} {ms : List Pos} {h : H} (hf : s.fits t ms h = true) : ms = [] ∧ t = s.t ∧ LessH s.h h := by
  unfold ST.fits at hf
  obtain ⟨h1, h2⟩ := pickF.1 hf
  obtain ⟨h3, h4⟩ := pickF.1 h2
  obtain ⟨h5, h6⟩ := pickF.1 h4
  refine ⟨isNil_eq.1 h1, (T.sameV_eq h3).symm, Pos.eq_of_beq h5, fun k o hk => ?_⟩
  have := lall_mem h6 (k, o) (mkObjs_get hk)
  cases hg : h.objs.get k with
  | none => simp only [hg] at this; cases this
  | some o' =>
    simp only [hg] at this
    exact ⟨o', rfl, AObj.le_less this⟩
section
variable {P : Program} {N nt : Nat} {rec : Rec} {σ : Sig} {h h' : H} {t : Tm} {ms : List Pos} {a : Act} {w : World}
theorem Rep.less {σ : Sig} {l : Loc} {o o' : AObj} {ob : Obj} (hr : Rep P σ l o' ob) (hl : o.Less o') : Rep P σ l o ob := by
  rcases hl with rfl | ⟨ty, cells, n, least, rfl, rfl⟩
  · exact hr
  · obtain ⟨c, fz, vs, h1, h2, h3, h4, h5, h6, h7, h8, h9⟩ := hr
    exact ⟨c, fz, [], h1, denL_nil, rfl, fun i hi => absurd hi (by omega), h5, h6, h7, by omega, h9⟩
theorem Ext.lessH (hh : Holds P N σ h w) (hl : LessH h' h) : Ext P N σ h w σ h' w := by
  obtain ⟨hn, hs⟩ := hl
  refine ⟨⟨fun b o hb => ?_, fun b b' o o' l l' hb hb' => ?_, fun b hb => hh.fresh b (hn ▸ hb), fun b o l hb => ?_, hh.bound⟩,
   Sig.le_refl _, fun b o l hb hl => ?_, fun _ _ _ => rfl, Nat.le_refl _, rfl, rfl, rfl, fun _ _ => rfl, by rw [hn]; exact Nat.le_refl _⟩
  · obtain ⟨o', h1, h2⟩ := hs b o hb
    obtain ⟨l, ob, q1, q2, q3⟩ := hh.rep b o' h1
    exact ⟨l, ob, q1, q2, q3.less h2⟩
  · obtain ⟨o1, h1, _⟩ := hs b o hb
    obtain ⟨o2, h2, _⟩ := hs b' o' hb'
    exact hh.inj b b' o1 o2 l l' h1 h2
  · obtain ⟨o1, h1, _⟩ := hs b o hb
    exact hh.low b o1 l h1
  · obtain ⟨o1, h1, _⟩ := hs b o hb
    exact .inl ⟨b, o1, l, h1, hl, rfl⟩
/-- a loop's turns, each from a state of which no more is known: it ends in one of F -/
def Turns (r : Tm → List Pos → H → List EO) (F : List EO) : Nat → Tm → List Pos → H → Prop
  | 0, _, _, _ => False
  | n + 1, t, ms, h => ∃ h', LessH h' h ∧ r t ms h' ≠ [] ∧ ∀ o ∈ r t ms h', (o.e = .normal ∧ Turns r F n o.t o.ms o.h) ∨ (o.e ≠ .normal ∧ ∃ o' ∈ F, o'.e = o.e ∧ o'.t = o.t ∧ o'.ms = o.ms ∧ LessH o'.h o.h)
theorem Turns.of_less {r : Tm → List Pos → H → List EO} {F : List EO} {n : Nat} {t : Tm} {ms : List Pos} {h h' : H} (ht : Turns r F n t ms h') (hl : LessH h' h) : Turns r F n t ms h := by
  cases n with
  | zero => exact ht.elim
  | succ n =>
    obtain ⟨h'', h1, h2, h3⟩ := ht
    refine ⟨h'', ⟨h1.1.trans hl.1, fun k o hk => ?_⟩, h2, h3⟩
    obtain ⟨o', q1, q2⟩ := h1.2 k o hk
    obtain ⟨o'', q3, q4⟩ := hl.2 k o' q1
    refine ⟨o'', q3, ?_⟩
    rcases q2 with rfl | ⟨ty, cells, n, least, rfl, rfl⟩
    · exact q4
    · rcases q4 with rfl | ⟨ty', cells', n', least', rfl, e⟩
      · exact .inr ⟨ty, cells, n, least, rfl, rfl⟩
      · cases e; exact .inr ⟨ty, cells', n', least, rfl, rfl⟩
theorem allE_ne {f : EO → Bool} {l : List EO} (h : allE f l = true) : l ≠ [] ∧ ∀ o ∈ l, f o = true := by
  unfold allE at h
  cases l with
  | nil => cases h
  | cons a l => exact ⟨by simp, lall_mem h⟩
theorem isN_eq {e : AExit} (h : e.isN = true) : e = .normal := by
  cases e with
  | normal => rfl
  | exit i => cases h
  | ret => cases h
/-- PIECE BY PIECE: so many turns lead to a state that is written out -/
theorem turns_piece {r : Tm → List Pos → H → List EO} {F : List EO} {s : ST} {n : Nat} (hs : Turns r F n s.t [] s.h) : ∀ (k : Nat) (t : Tm) (ms : List Pos) (h : H), allE (okTo s) (iterK r k t ms h) = true → Turns r F (n + k) t ms h
  | 0, t, ms, h, ha => by
    obtain ⟨_, h2⟩ := allE_ne ha
    have h3 := h2 ⟨.normal, t, ms, h⟩ (List.mem_singleton.2 rfl)
    obtain ⟨_, h4⟩ := pickF.1 (show pick _ _ false = true from h3)
    obtain ⟨rfl, rfl, h5⟩ := ST.fits_ok h4
    exact hs.of_less h5
  | k + 1, t, ms, h, ha => by
    have e : iterK r (k + 1) t ms h = bindO (r t ms h) fun o => o.andThen (iterK r k) := rfl
    rw [e] at ha
    obtain ⟨h1, h2⟩ := allE_ne ha
    obtain ⟨h3, h4⟩ := bindO_ne h1
    refine ⟨h, LessH.refl h, h3, fun o ho => ?_⟩
    obtain ⟨h5, h6⟩ := h4 o ho
    rcases andThen_cases o (iterK r k) with ⟨en, e1⟩ | ⟨en, e1⟩
    · rw [e1] at h5 h6
      refine .inl ⟨en, turns_piece hs k o.t o.ms o.h ?_⟩
      unfold allE
      cases hi : isNil (iterK r k o.t o.ms o.h) with
      | true => exact absurd (isNil_eq.1 hi) h5
      | false =>
        show lall (okTo s) _ = true
        clear h5 hi
        generalize iterK r k o.t o.ms o.h = l at h6
        induction l with
        | nil => rfl
        | cons b l ih =>
          show Bool.rec false (lall (okTo s) l) (okTo s b) = true
          rw [h2 b (h6 b (List.mem_cons_self ..))]
          exact ih fun z hz => h6 z (List.mem_cons_of_mem _ hz)
    · rw [e1] at h6
      have h7 := h2 o (h6 o (List.mem_singleton.2 rfl))
      obtain ⟨h8, _⟩ := pickF.1 (show pick o.e.isN _ false = true from h7)
      exact absurd (isN_eq h8) en
/-- the last turn of a loop -/
theorem turns_last {r : Tm → List Pos → H → List EO} {s : ST} {id : Nat} {t : Tm} {ms : List Pos} {h : H} (ha : allE (okEnd id s) (r t ms h) = true) : Turns r [⟨.exit id, s.t, [], s.h⟩] 1 t ms h := by
  obtain ⟨h1, h2⟩ := allE_ne ha
  refine ⟨h, LessH.refl h, h1, fun o ho => .inr ?_⟩
  obtain ⟨h3, h4⟩ := pickF.1 (show pick (o.e.on false (fun i => Nat.beq i id) false) _ false = true from h2 o ho)
  obtain ⟨q1, q2, q3⟩ := ST.fits_ok h4
  obtain ⟨oe, ot, oms, oh⟩ := o
  cases oe with
  | normal => cases h3
  | ret => cases h3
  | exit i =>
    have h5 : Nat.beq i id = true := h3
    refine ⟨by simp, _, List.mem_singleton.2 rfl, ?_, q2.symm, q1.symm, q3⟩
    rw [beq_iff.1 h5]
theorem turns_ok {ro : Option Nat} {c : Code} {r : Rec → Tm → List Pos → H → List EO} (hc : CodeOk P N nt rec ro c r) {F : List EO} {n : Nat} {σ : Sig} {t : Tm} {ms : List Pos} {h : H} {a : Act} {w : World} {Q : Exit → Act → World → Prop}
    (sr : SR P N nt σ t h a w) (mk : MK σ ms a.defers) (ht : Turns (r rec) F n t ms h) (hq : CodeEnd P N nt σ h w F Q) : (Code.loop c).wpIn (FW ro) 0 P Q a w := by
  let J : Nat → Act → World → Prop := fun n a' w' => ∃ σ' t' ms' h', SR P N nt σ' t' h' a' w' ∧ MK σ' ms' a'.defers ∧ Turns (r rec) F n t' ms' h' ∧ CodeEnd P N nt σ' h' w' F Q
  have least : ∀ n a w, J n a w → ∃ m, J m a w ∧ ∀ k, J k a w → m ≤ k := by
    intro n
    induction n using Nat.strongRecOn with
    | _ n ih =>
      intro a w hn
      by_cases hx : ∃ k, k < n ∧ J k a w
      · obtain ⟨k, hk, hj⟩ := hx
        exact ih k hk a w hj
      · exact ⟨n, hn, fun k hk => by
          apply Classical.byContradiction
          intro hlt
          exact hx ⟨k, by omega, hk⟩⟩
  have least' : ∀ a w, (∃ n, J n a w) → ∃ m, J m a w ∧ ∀ k, J k a w → m ≤ k := fun a w ⟨n, hn⟩ => least n a w hn
  let μ : Act → World → Nat := fun a w => @dite Nat (∃ n, J n a w) (Classical.propDecidable _) (fun h => Classical.choose (least' a w h)) (fun _ => 0)
  have hμ : ∀ a w (h : ∃ n, J n a w), J (μ a w) a w ∧ ∀ k, J k a w → μ a w ≤ k := fun a w h => by
    have : μ a w = Classical.choose (least' a w h) := dif_pos h
    rw [this]
    exact Classical.choose_spec (least' a w h)
  refine wpIn_loop (fun a w => ∃ n, J n a w) μ ⟨n, σ, t, ms, h, sr, mk, ht, hq⟩ fun a w hI => ?_
  obtain ⟨⟨σ', t', ms', h', sr', mk', ht', hq'⟩, hmin⟩ := hμ a w hI
  generalize hm : μ a w = m at *
  cases m with
  | zero => exact ht'.elim
  | succ m =>
    obtain ⟨h0, l0, h1, h2⟩ := ht'
    have E0 := Ext.lessH sr'.holds l0
    have sr0 : SR P N nt σ' t' h0 a w := ⟨sr'.tr, sr'.size, E0.holds⟩
    refine hc σ' t' ms' h0 a w _ sr0 mk' h1 fun o ho σ'' a' w'' s'' m'' e'' => ?_
    rcases h2 o ho with ⟨en, hT⟩ | ⟨en, o', ho', q1, q2, q3, q4⟩
    · have hJ : J m a' w'' := ⟨σ'', o.t, o.ms, o.h, s'', m'', hT, hq'.step (E0.trans e'') (fun _ hr => hr)⟩
      rw [en]
      refine ⟨⟨m, hJ⟩, ?_⟩
      have := (hμ a' w'' ⟨m, hJ⟩).2 m hJ
      omega
    · have E1 := Ext.lessH e''.holds q4
      have := hq' o' ho' σ'' a' w'' ⟨by rw [q2]; exact s''.tr, s''.size, E1.holds⟩ (by rw [q3]; exact m'') ((E0.trans e'').trans E1)
      rw [q1] at this
      exact exOf_then en this
/-! ### Code around a hole -/
inductive Ctx where
  | hole
  | seqL (k : Ctx) (b : Code)
  | seqR (a : Code) (k : Ctx)
  | blk (id : Nat) (k : Ctx)
def Ctx.fill : Ctx → Code → Code
  | .hole, c => c
  | .seqL k b, c => .seq (k.fill c) b
  | .seqR a k, c => .seq a (k.fill c)
  | .blk id k, c => .block id (k.fill c)
def seqRun (x y : ACode) : ACode := ⟨fun rec t ms h => bindO (x.run rec t ms h) fun o => o.andThen (y.run rec)⟩
def blkRun (id : Nat) (x : ACode) : ACode := ⟨fun rec t ms h => bindO (x.run rec t ms h) fun o => o.e.on [o] (fun id' => pick (Nat.beq id' id) [⟨.normal, o.t, o.ms, o.h⟩] [o]) [o]⟩
def Ctx.run (P : Program) (f : FuncId) (nt : Nat) (r : ACode) : Ctx → ACode
  | .hole => r
  | .seqL k b => seqRun (k.run P f nt r) (compileCode P f nt false b)
  | .seqR a k => seqRun (compileCode P f nt false a) (k.run P f nt r)
  | .blk id k => blkRun id (k.run P f nt r)
theorem cseq_ok {ro : Option Nat} {x y : Code} {rx ry : ACode} (hx : CodeOk P N nt rec ro x rx.run) (hy : CodeOk P N nt rec ro y ry.run) : CodeOk P N nt rec ro (.seq x y) (seqRun rx ry).run := fun σ t ms h a w Q sr mk hne hq => by
  have hne' : (bindO (rx.run rec t ms h) fun o => o.andThen (ry.run rec)) ≠ [] := hne
  have hq' : CodeEnd P N nt σ h w (bindO (rx.run rec t ms h) fun o => o.andThen (ry.run rec)) Q := hq
  obtain ⟨h1, h2⟩ := bindO_ne hne'
  refine wpIn_seq (hx σ t ms h a w _ sr mk h1 fun o ho σ' a' w' s' m' e' => ?_)
  obtain ⟨h3, h4⟩ := h2 o ho
  rcases andThen_cases o (ry.run rec) with ⟨en, e1⟩ | ⟨en, e1⟩
  · rw [e1] at h3 h4
    rw [en]
    exact hy σ' o.t o.ms o.h a' w' Q s' m' h3 (hq'.step e' h4)
  · rw [e1] at h4
    exact exOf_then en (hq' o (h4 o (List.mem_singleton.2 rfl)) σ' a' w' s' m' e')
theorem blk_ok {ro : Option Nat} {id : Nat} {c : Code} {r : ACode} (hc : CodeOk P N nt rec ro c r.run) : CodeOk P N nt rec ro (.block id c) (blkRun id r).run := fun σ t ms h a w Q sr mk hne hq => by
  have hne' : (bindO (r.run rec t ms h) fun o => o.e.on [o] (fun id' => pick (Nat.beq id' id) [(⟨.normal, o.t, o.ms, o.h⟩ : EO)] [o]) [o]) ≠ [] := hne
  have hq' : CodeEnd P N nt σ h w (bindO (r.run rec t ms h) fun o => o.e.on [o] (fun id' => pick (Nat.beq id' id) [(⟨.normal, o.t, o.ms, o.h⟩ : EO)] [o]) [o]) Q := hq
  obtain ⟨h1, h2⟩ := bindO_ne hne'
  refine wpIn_block (hc σ t ms h a w _ sr mk h1 fun o ho σ' a' w' s' m' e' => ?_)
  obtain ⟨_, h4⟩ := h2 o ho
  obtain ⟨oe, ot, oms, oh⟩ := o
  cases oe with
  | normal => exact hq' ⟨.normal, ot, oms, oh⟩ (h4 _ (List.mem_singleton.2 rfl)) σ' a' w' s' m' e'
  | ret => exact hq' ⟨.ret, ot, oms, oh⟩ (h4 _ (List.mem_singleton.2 rfl)) σ' a' w' s' m' e'
  | exit id' =>
    have h5 : ∀ z ∈ pick (Nat.beq id' id) [(⟨.normal, ot, oms, oh⟩ : EO)] [⟨.exit id', ot, oms, oh⟩], z ∈ _ := h4
    show if id' = id then Q .normal a' w' else Q (.exit id') a' w'
    cases hb : Nat.beq id' id with
    | true =>
      rw [if_pos (beq_iff.1 hb)]
      rw [hb] at h5
      exact hq' ⟨.normal, ot, oms, oh⟩ (h5 _ (List.mem_singleton.2 rfl)) σ' a' w' s' m' e'
    | false =>
      rw [if_neg (beq_false.1 hb)]
      rw [hb] at h5
      exact hq' ⟨.exit id', ot, oms, oh⟩ (h5 _ (List.mem_singleton.2 rfl)) σ' a' w' s' m' e'
theorem ctx_ok (hE : ExtOk P) (hm : P.follows .mixedOrders = true) (hR : SoundRec P rec) {f : FuncId} (hnt : nt = ntOf P f) {c : Code} {r : ACode} (hc : CodeOk P N nt rec none c r.run) : ∀ k : Ctx, CodeOk P N nt rec none (k.fill c) (k.run P f nt r).run
  | .hole => hc
  | .seqL k b => cseq_ok (ctx_ok hE hm hR hnt hc k) (code_ok hE hm hR hnt (inR := false) (fun _ => rfl) b)
  | .seqR a k => cseq_ok (code_ok hE hm hR hnt (inR := false) (fun _ => rfl) a) (ctx_ok hE hm hR hnt hc k)
  | .blk id k => blk_ok (ctx_ok hE hm hR hnt hc k)
/-- from a state that is written out on to an end that is -/
def jumpRun (s : ST) (F : EO) : ACode := ⟨fun _ t ms h => pick (s.fits t ms h) [F] []⟩
theorem jump_ok {c : Code} {r : Rec → Tm → List Pos → H → List EO} (hc : CodeOk P N nt rec none c r) {s : ST} {F : EO} {n : Nat} (ht : Turns (r rec) [F] n s.t [] s.h) : CodeOk P N nt rec none (.loop c) (jumpRun s F).run := fun σ t ms h a w Q sr mk hne hq => by
  have hne' : pick (s.fits t ms h) [F] [] ≠ [] := hne
  have hq' : CodeEnd P N nt σ h w (pick (s.fits t ms h) [F] []) Q := hq
  cases hf : s.fits t ms h with
  | false => rw [hf] at hne'; exact absurd rfl hne'
  | true =>
    rw [hf] at hq'
    obtain ⟨rfl, rfl, h3⟩ := ST.fits_ok hf
    exact turns_ok hc sr mk (ht.of_less h3) hq'
/-- A FUNCTION, run as its body is. -/
theorem fnBody_ok {fn : Func} {c : Code} {f : FuncId} {r : ACode} (hf : P.funcs[f]? = some fn) (hb : fn.body = some c) (hc : ∀ N, CodeOk P N fn.ntmps rec none c r.run) {args : List AV} {h : H}
    (hne : (whenL (Nat.ble (llen args) fn.ntmps) (bindO (r.run rec (initTm args 0 .leaf) [] h) fun o => finish P fn.results.toList o)) ≠ []) :
    ∀ N σ w vs, Holds P N σ h w → denL σ args = some vs → CallsIn Fence.wide 0 P f vs.toArray w (Ret P N σ h w (whenL (Nat.ble (llen args) fn.ntmps) (bindO (r.run rec (initTm args 0 .leaf) [] h) fun o => finish P fn.results.toList o))) := by
  intro N σ w vs hh hd
  obtain ⟨hle, e1⟩ := whenL_ne hne
  rw [e1] at hne ⊢
  obtain ⟨h1, h2⟩ := bindO_ne hne
  have hvl := denL_length hd
  have hle' : args.length ≤ fn.ntmps := by rw [llen_eq] at hle; exact ble_iff.1 hle
  refine callsIn_of_wp_marks (F := FW none) hf hb trivial ?_
  have htr := initTm_ok hd fn.ntmps
  have hsz : (vs.toArray ++ Array.replicate (fn.ntmps - vs.toArray.size) undef).size = fn.ntmps := by simp; omega
  have sr : SR P N fn.ntmps σ (initTm args 0 .leaf) h { tmps := vs.toArray ++ Array.replicate (fn.ntmps - vs.toArray.size) undef, defers := [] } w := ⟨by simpa using htr, hsz, hh⟩
  refine hc N σ _ [] h _ w _ sr rfl h1 fun o ho σ' a' w' s' m' e' => ?_
  obtain ⟨h3, h4⟩ := h2 o ho
  obtain ⟨he, h', vs', hs, hr, ef⟩ := finish_ne h3
  have goal : LeavesInM (FW none) 0 P fn a'.tmps (Ret P N σ h w (bindO (r.run rec (initTm args 0 .leaf) [] h) fun o => finish P fn.results.toList o)) a'.defers .returning w' := by
    refine shut_ok o.ms a'.defers σ' o.h w' h' s'.holds m' hs fun w'' e'' => ?_
    obtain ⟨u, d1, d2⟩ := results_ok e''.holds s'.tr hr
    exact ⟨u, d2, ⟨tupled vs', h'⟩, h4 _ (by rw [ef]; exact List.mem_singleton.2 rfl), σ', d1, e'.trans e''⟩
  rcases he with he | he
  · rw [he]; exact goal
  · rw [he]; exact goal
/-! ### One task told ahead -/
def withFn (g : FuncId) (k : List AV → H → List VR) (rec : Rec) : Rec := fun t h => t.on (fun f args => pick (Nat.beq f g) (k args h) (rec (.call f args) h)) (fun b args => rec (.round b args) h)
theorem withFn_ok (hR : SoundRec P rec) {g : FuncId} {k : List AV → H → List VR} (hb : ∃ fn c, P.funcs[g]? = some fn ∧ fn.body = some c)
    (hk : ∀ args h, k args h ≠ [] → ∀ N σ w vs, Holds P N σ h w → denL σ args = some vs → CallsIn Fence.wide 0 P g vs.toArray w (Ret P N σ h w (k args h))) : SoundRec P (withFn g k rec) := by
  have e : ∀ f args h, withFn g k rec (.call f args) h = pick (Nat.beq f g) (k args h) (rec (.call f args) h) := fun _ _ _ => rfl
  refine ⟨fun f args h hne => ?_, fun f args h hne N σ w vs hh hd => ?_, fun b args h hne N σ w vs l hh hd hl => hR.round b args h hne N σ w vs l hh hd hl⟩
  · rw [e] at hne
    rcases pick_ne hne with ⟨hf, e1⟩ | ⟨hf, e1⟩
    · rw [beq_iff.1 hf]; exact hb
    · rw [e1] at hne; exact hR.body f args h hne
  · rw [e] at hne ⊢
    rcases pick_ne hne with ⟨hf, e1⟩ | ⟨hf, e1⟩
    · rw [e1] at hne ⊢; rw [beq_iff.1 hf]; exact hk args h hne N σ w vs hh hd
    · rw [e1] at hne ⊢; exact hR.call f args h hne N σ w vs hh hd
end
end
end Go.Proofs.YtgemonlknehegaaGreatDoor.AI
namespace Go.Proofs.YtgemonlknehegaaGreatDoor.AI
open Go
set_option linter.unusedVariables false
set_option linter.unusedSimpArgs false
set_option maxRecDepth 100000
def extOf (g : Nat) (fn : Func) : Bool :=
  match fn.body with
  | some _ => fn.name != "runtime.NumGoroutine"
  | none => (fn.name != "internal/abi.NoEscape" || g == 273) && (fn.name != "internal/bytealg.MakeNoZero" || g == 276)
def extAll : List Func → Nat → Bool
  | [], _ => true
  | fn :: l, g => extOf g fn && extAll l (g + 1)
theorem extAll_ok : ∀ (l : List Func) (k : Nat), extAll l k = true → ∀ i fn, l[i]? = some fn → extOf (k + i) fn = true
  | [], k, _, i, fn, hi => by simp at hi
  | f :: l, k, h, i, fn, hi => by
    unfold extAll at h
    rw [Bool.and_eq_true] at h
    cases i with
    | zero => simp at hi; subst hi; exact h.1
    | succ i =>
      have := extAll_ok l (k + 1) h.2 i fn (by simpa using hi)
      rw [show k + (i + 1) = k + 1 + i by omega]; exact this
theorem extChk : extAll Tryz.prog.funcs.toList 0 = true := by kernel_rfl
theorem ext_at {g : Nat} {fn : Func} (h : Tryz.prog.funcs[g]? = some fn) : extOf g fn = true := by
  have := extAll_ok _ 0 extChk g fn (by rw [Array.getElem?_toList]; exact h)
  rwa [Nat.zero_add] at this
theorem mixed : Tryz.prog.follows .mixedOrders = true := by kernel_rfl
theorem extOk : ExtOk Tryz.prog := by
  refine ⟨fun g fn hg hb hn x w => ?_, fun g fn t hg hb hn ht n w => ?_, fun g fn c hg hb hn => ?_⟩
  · have h := ext_at hg
    unfold extOf at h
    rw [hb, hn] at h
    have hg' : g = 273 := by simpa using h
    subst hg'
    rw [Tryz.func273] at hg
    cases hg
    rw [run_callFunc_extern Tryz.func273 (by kernel_rfl) (by kernel_rfl) (by kernel_rfl) (e := Extern.AbiNoEscape.same) (by kernel_rfl)]
    rfl
  · have h := ext_at hg
    unfold extOf at h
    rw [hb, hn] at h
    have hg' : g = 276 := by simpa using h
    subst hg'
    rw [Tryz.func276] at hg
    cases hg
    rw [run_callFunc_extern Tryz.func276 (by kernel_rfl) (by kernel_rfl) (by kernel_rfl) (e := Extern.BytealgMakeNoZero.makeNoZero Tryz.f276.params Tryz.f276.resultTypes) (by kernel_rfl)]
    have e : Tryz.f276.resultTypes = #[t] := arr1 ht
    rw [e]
    rfl
  · have h := ext_at hg
    unfold extOf at h
    rw [hb, hn] at h
    simp at h
end Go.Proofs.YtgemonlknehegaaGreatDoor.AI
