/- The chain of TopRefuses, part 31. -/
import Derived.Test.YtgemonlknehegaaGreatDoorK30
import Derived.Test.YtgemonlknehegaaGreatDoorProg
import Derived.KernelRfl
namespace Go.Proofs.YtgemonlknehegaaGreatDoor.AI
open Go
set_option linter.unusedVariables false
set_option linter.unusedSimpArgs false
noncomputable section
/-- how a loop ends: the temporaries that are told, their values, the memory -/
structure LR where
  e : AExit
  ix : List Nat
  v : List SV
  h : SH
abbrev LSpec := List SV → SH → DT LR
def getTs (t : T3) : List Nat → Option (List SV)
  | [] => some []
  | i :: l => match t.get (posOf i), getTs t l with | some v, some r => some (v :: r) | _, _ => none
def liftL (lv : List Nat) (core : LSpec) : S3 → DT E3 := fun s =>
  match getTs s.t lv with
  | some vals => (match renOL (idx (reachV s.h vals)) vals, pullH (reachV s.h vals) s.h, noDup (reachV s.h vals) && lall2 (fun x => Nat.blt x s.h.nm) (reachV s.h vals) with
    | some vals0, some sh0, true => (core vals0 sh0).bind fun r => (match backR (reachV s.h vals) s.h (.tuple r.v, r.h) with
      | some (.tuple vs, h') => .leaf ⟨r.e, mkT3 r.ix vs, h'⟩
      | _ => .fail)
    | _, _, _ => .fail)
  | none => .fail
section
variable {κ κ' : Kp} {sh sh' : SH} {h h' : H} {P : Program} {f : FuncId} {d id : Nat} {lv : List Nat}
theorem getTs_ok {t3 : T3} {t : Tm} (ht : TRel κ t3 t) : ∀ {l : List Nat} {vs : List SV}, getTs t3 l = some vs → ∃ az, getTm t l = some az ∧ sdenL κ vs = some az
  | [], vs, hg => by cases hg; exact ⟨[], rfl, rfl⟩
  | i :: l, vs, hg => by
    unfold getTs at hg
    split at hg
    · rename_i v r h1 h2
      cases hg
      obtain ⟨a, e1, e2⟩ := ht _ _ h1
      obtain ⟨az, e3, e4⟩ := getTs_ok ht h2
      refine ⟨a :: az, ?_, sdenL_cons.2 ⟨a, az, e1, e4, rfl⟩⟩
      unfold getTm
      rw [e2, e3]
    · cases hg
def LGood (κ : Kp) (sh : SH) (h : H) (R : LR) (ms : List Pos) (rs : List EO) : Prop := rs ≠ [] ∧ ∀ o ∈ rs, o.e = R.e ∧ o.ms = ms ∧ ∃ bs, getTm o.t R.ix = some bs ∧ Post κ sh h (.tuple R.v) R.h ⟨.tuple bs, o.h⟩
def CoreOk (P : Program) (f : FuncId) (id d : Nat) (lv : List Nat) (core : LSpec) : Prop :=
  ∀ n, d ≤ n → ∀ fn c, P.funcs[f]? = some fn → fn.body = some c → ∀ c', (id, c') ∈ blocksOf c → ∀ vals sh R, (core vals sh).val = some R → ∀ κ t h ms az, St κ sh h → sdenL κ vals = some az → getTm t lv = some az →
    LGood κ sh h R ms ((compileCode P f fn.ntmps false (.block id c')).run (run P mg0 n) t ms h)
theorem liftL_ok {core : LSpec} (hc : CoreOk P f id d lv core) : LoopOk P f id d (liftL lv core) := by
  intro n hn fn c hf hb c' hm s o3 κ t h ms hv ht st
  unfold liftL at hv
  split at hv
  · rename_i vals hvals
    obtain ⟨az, e1, e2⟩ := getTs_ok ht hvals
    split at hv
    · rename_i vals0 sh0 h1 h2 h3
      rw [Bool.and_eq_true] at h3
      obtain ⟨R, h4, h5⟩ := bind_some hv
      obtain ⟨g1, g2⟩ := hc n hn fn c hf hb c' hm vals0 sh0 R h4 _ t h ms az (pullH_st h2 h3.1 st) (renOL_den (κ1 := byList κ (reachV s.h vals)) (fun y z hz => byList_idx hz) h1 e2) e1
      refine ⟨g1, fun o ho => ?_⟩
      obtain ⟨k1, k2, bs, k3, k4⟩ := g2 o ho
      split at h5
      · rename_i vs h' hbk
        cases leaf_some h5
        obtain ⟨κ', a, b, c⟩ := back_post st h3.1 h3.2 h2 hbk k4
        obtain ⟨bs', d1, d2⟩ := sden_tuple a
        cases d2
        exact ⟨k1, k2, κ', mkT3_ok k3 d1, b, c⟩
      · cases h5
    · cases hv
  · cases hv
/-! ### One turn -/
/-- how a turn that ends normally goes on -/
structure LGoes {X : Type} (lv : List Nat) (inv : X → List SV × SH) (res : X → Option LR) (μ : X → Nat) (x : X) (R : LR) (o3 : E3) (x' : X) (R' : LR) (th θ : List Nat) (vals w : List SV) (sw : SH) (q q1 : SV × SH) : Prop where
  e : o3.e = .normal
  hvals : getTs o3.t lv = some vals
  ren : renOL (idx th) vals = some w
  mem : pullH th o3.h = some sw
  ok : (noDup th && lall2 (fun x => Nat.blt x o3.h.nm) th) = true
  vopn : openL w = openL (inv x').1
  hopn : sw.opened = (inv x').2.opened
  less : μ x' < μ x
  res' : res x' = some R'
  e' : R'.e = R.e
  ix' : R'.ix = R.ix
  back : backR th o3.h (.tuple R'.v, R'.h) = some q
  pull : pull θ q = some q1
  ok2 : (noDup θ && stays (inv x).2.nm θ 0) = true
  opn : Wk q1 (.tuple R.v, R.h)
/-- how a turn ends the loop -/
structure LEnds {X : Type} (inv : X → List SV × SH) (x : X) (R : LR) (o3 : E3) (θ : List Nat) (vals : List SV) (q1 : SV × SH) : Prop where
  hvals : getTs o3.t R.ix = some vals
  pull : pull θ (.tuple vals, o3.h) = some q1
  ok2 : (noDup θ && stays (inv x).2.nm θ 0) = true
  opn : Wk q1 (.tuple R.v, R.h)
def LStep {X : Type} (id : Nat) (lv : List Nat) (inv : X → List SV × SH) (res : X → Option LR) (μ : X → Nat) (x : X) (R : LR) (o3 : E3) : Prop :=
  (∃ x' R' th θ vals w sw q q1, LGoes lv inv res μ x R o3 x' R' th θ vals w sw q q1) ∨
  (o3.e = .exit id ∧ R.e = .normal ∧ ∃ θ vals q1, LEnds inv x R o3 θ vals q1) ∨
  (o3.e = .ret ∧ R.e = .ret ∧ ∃ θ vals q1, LEnds inv x R o3 θ vals q1)
def blkO (id : Nat) (o : EO) : List EO := o.e.on [o] (fun id' => pick (Nat.beq id' id) [⟨.normal, o.t, o.ms, o.h⟩] [o]) [o]
theorem bindO_and {α β : Type} (k : α → List β) : ∀ l : List α, bindO (l) k = bindO l k := fun _ => rfl
theorem bindO_assoc {α β γ : Type} (k : α → List β) (m : β → List γ) : ∀ l : List α, l ≠ [] → (∀ a ∈ l, k a ≠ []) → (∀ a ∈ l, ∀ b ∈ k a, m b ≠ []) → ∀ Q : γ → Prop, (∀ a ∈ l, ∀ c ∈ bindO (k a) m, Q c) → (bindO (bindO l k) m ≠ [] ∧ ∀ c ∈ bindO (bindO l k) m, Q c) := by
  intro l hl h1 h2 Q hq
  have hne : bindO l k ≠ [] ∧ ∀ b ∈ bindO l k, ∃ a ∈ l, b ∈ k a := bindO_good (Q := fun b => ∃ a ∈ l, b ∈ k a) hl fun a ha => ⟨h1 a ha, fun b hb => ⟨a, ha, hb⟩⟩
  refine bindO_good hne.1 fun b hb => ?_
  obtain ⟨a, ha, hba⟩ := hne.2 b hb
  refine ⟨h2 a ha b hba, fun c hc => hq a ha c ?_⟩
  have key : bindO (k a) m ≠ [] := (bindO_good (Q := fun _ => True) (h1 a ha) fun b' hb' => ⟨h2 a ha b' hb', fun _ _ => trivial⟩).1
  exact ((bindO_ne key).2 b hba).2 c hc
theorem ends_ok {X : Type} {inv : X → List SV × SH} {x : X} {R : LR} {o3 : E3} {θ : List Nat} {vals : List SV} {q1 : SV × SH} (e : LEnds inv x R o3 θ vals q1) {t : Tm} (st : St κ (inv x).2 h) (ht : TRel κ' o3.t t) (st' : St κ' o3.h h') (fr : Fr κ (inv x).2 h κ' o3.h h') :
    ∃ bs, getTm t R.ix = some bs ∧ Post κ (inv x).2 h (.tuple R.v) R.h ⟨.tuple bs, h'⟩ := by
  obtain ⟨bs, e1, e2⟩ := getTs_ok ht e.hvals
  have ok2 := e.ok2
  rw [Bool.and_eq_true] at ok2
  have hp : Post κ (inv x).2 h (.tuple vals) o3.h ⟨.tuple bs, h'⟩ := ⟨κ', by simp only [sden, e2], st', fr⟩
  have hg := good_pull st e.pull ok2.1 ok2.2 (Good.one hp)
  exact ⟨bs, e1, post_wk e.opn (hg.2 _ (List.mem_singleton.2 rfl))⟩
theorem loop_turns {X : Type} {inv : X → List SV × SH} {res : X → Option LR} {μ : X → Nat} {body3 : S3 → DT E3} {r : Rec → Tm → List Pos → H → List EO} {rec : Rec}
    (hb : ∀ (s : S3) (o3 : E3) (κ : Kp) (t : Tm) (h : H) (ms : List Pos), (body3 s).val = some o3 → TRel κ s.t t → St κ s.h h → EGood κ s.h h o3 ms (r rec t ms h))
    (hstep : ∀ x R, res x = some R → ∃ o3, (body3 ⟨mkT3 lv (inv x).1, (inv x).2⟩).val = some o3 ∧ LStep id lv inv res μ x R o3) :
    ∀ (m : Nat) (x : X) (R : LR), res x = some R → μ x < m → ∀ (κ : Kp) (t : Tm) (h : H) (ms : List Pos) (az : List AV), St κ (inv x).2 h → sdenL κ (inv x).1 = some az → getTm t lv = some az →
      (runLoop r rec m t ms h ≠ [] ∧ ∀ o ∈ runLoop r rec m t ms h, blkO id o ≠ []) ∧ LGood κ (inv x).2 h R ms (bindO (runLoop r rec m t ms h) (blkO id))
  | 0, _, _, _, hm, _, _, _, _, _, _, _, _ => by omega
  | m + 1, x, R, hR, hm, κ, t, h, ms, az, st, ha, hg => by
    obtain ⟨o3, h1, hst⟩ := hstep x R hR
    obtain ⟨g1, g2⟩ := hb _ o3 κ t h ms h1 (mkT3_ok hg ha) st
    have blkne : ∀ o : EO, blkO id o ≠ [] := fun o => by
      obtain ⟨e, t, ms, h⟩ := o
      cases e with
      | normal => simp [blkO, AExit.on]
      | ret => simp [blkO, AExit.on]
      | exit i => show pick (Nat.beq i id) _ _ ≠ []; cases Nat.beq i id <;> simp [pick]
    show (bindO (r rec t ms h) (fun o => o.andThen (runLoop r rec m)) ≠ [] ∧ _) ∧ LGood κ (inv x).2 h R ms (bindO (bindO (r rec t ms h) (fun o => o.andThen (runLoop r rec m))) (blkO id))
    have each : ∀ o ∈ r rec t ms h, o.andThen (runLoop r rec m) ≠ [] ∧ LGood κ (inv x).2 h R ms (bindO (o.andThen (runLoop r rec m)) (blkO id)) := fun o ho => by
      obtain ⟨k1, k2, κ', k3, k4, k5⟩ := g2 o ho
      rcases hst with ⟨x', R', th, θ, vals, w, sw, q, q1, G⟩ | ⟨e1, e2, θ, vals, q1, E⟩ | ⟨e1, e2, θ, vals, q1, E⟩
      · obtain ⟨bs, d1, d2⟩ := getTs_ok k3 G.hvals
        have ok := G.ok
        rw [Bool.and_eq_true] at ok
        have ok2 := G.ok2
        rw [Bool.and_eq_true] at ok2
        have st0 : St (byList κ' th) (inv x').2 o.h := by
          have a := opened_st (pullH_st G.mem ok.1 k4)
          rw [G.hopn] at a
          exact st_opened a
        have dv : sdenL (byList κ' th) (inv x').1 = some bs := by
          have a := renOL_den (κ1 := byList κ' th) (fun y z hz => byList_idx hz) G.ren d2
          rw [← openL_den, ← G.vopn, openL_den]; exact a
        have hle := G.less
        obtain ⟨⟨r1, r2⟩, r3⟩ := loop_turns hb hstep m x' R' G.res' (by omega) _ o.t o.h ms bs st0 dv d1
        have e1 : o.andThen (runLoop r rec m) = runLoop r rec m o.t ms o.h := by
          rcases andThen_cases o (runLoop r rec m) with ⟨_, e⟩ | ⟨ne, _⟩
          · rw [e, k2]
          · exact absurd (k1.trans G.e) ne
        rw [e1]
        refine ⟨r1, r3.1, fun z hz => ?_⟩
        obtain ⟨z1, z2, cs, z3, z4⟩ := r3.2 z hz
        refine ⟨z1.trans G.e', z2, cs, by rw [← G.ix']; exact z3, ?_⟩
        have st2 : ∃ sw', pullH th o3.h = some sw' ∧ sw'.opened = (inv x').2.opened := ⟨sw, G.mem, G.hopn⟩
        have z5 : Post (byList κ' th) sw o.h (.tuple R'.v) R'.h ⟨.tuple cs, z.h⟩ := by
          obtain ⟨κ2, a, b, c⟩ := z4
          refine ⟨κ2, a, b, ?_⟩
          have hn : (inv x').2.nm = sw.nm := (nm_opened G.hopn).symm
          refine ⟨c.le, by rw [← hn]; exact c.nm, c.next, fun p hp hk => c.kept p hp fun y oy hy he => ?_, fun y hy => c.old y (by rw [hn]; exact hy), fun y oy hy hl => ?_, fun y p hy hq => c.new y p (by rw [hn]; exact hy) hq⟩
          · obtain ⟨o1, f1⟩ := get_opened hy
            rw [← G.hopn] at f1
            obtain ⟨o2, f2⟩ := opened_get f1
            exact hk y o2 f2 he
          · obtain ⟨o0, f0⟩ := c.sub y oy hy (by rw [hn]; exact hl)
            obtain ⟨o1, f1⟩ := get_opened f0
            rw [← G.hopn] at f1
            exact opened_get f1
        have q0 : q = (q.1, q.2) := rfl
        have z6 := back_post k4 ok.1 ok.2 G.mem (by rw [G.back]) z5
        obtain ⟨κ3, a3, b3, c3⟩ := z6
        have z7 : Post κ (inv x).2 h q.1 q.2 ⟨.tuple cs, z.h⟩ := ⟨κ3, a3, b3, k5.trans c3⟩
        have z8 := good_pull (v1 := q1.1) (sh1 := q1.2) st (by rw [show (q.1, q.2) = q from rfl, G.pull]) ok2.1 ok2.2 (Good.one z7)
        exact post_wk G.opn (z8.2 _ (List.mem_singleton.2 rfl))
      · have e3 : o.andThen (runLoop r rec m) = [o] := by
          rcases andThen_cases o (runLoop r rec m) with ⟨en, _⟩ | ⟨_, e⟩
          · rw [k1, e1] at en; cases en
          · exact e
        rw [e3]
        refine ⟨by simp, ?_⟩
        obtain ⟨bs, d1, d2⟩ := ends_ok E st k3 k4 k5
        have e4 : bindO [o] (blkO id) = [⟨.normal, o.t, o.ms, o.h⟩] := by
          show blkO id o = _
          obtain ⟨oe, ot, oms, oh⟩ := o
          have : oe = .exit id := k1.trans e1
          subst this
          show pick (Nat.beq id id) _ _ = _
          rw [Nat.beq_refl]; rfl
        rw [e4]
        refine ⟨by simp, fun z hz => ?_⟩
        rw [List.mem_singleton.1 hz]
        exact ⟨e2.symm, k2, bs, d1, d2⟩
      · have e3 : o.andThen (runLoop r rec m) = [o] := by
          rcases andThen_cases o (runLoop r rec m) with ⟨en, _⟩ | ⟨_, e⟩
          · rw [k1, e1] at en; cases en
          · exact e
        rw [e3]
        refine ⟨by simp, ?_⟩
        obtain ⟨bs, d1, d2⟩ := ends_ok E st k3 k4 k5
        have e4 : bindO [o] (blkO id) = [o] := by
          show blkO id o = _
          obtain ⟨oe, ot, oms, oh⟩ := o
          have : oe = .ret := k1.trans e1
          subst this
          rfl
        rw [e4]
        refine ⟨by simp, fun z hz => ?_⟩
        rw [List.mem_singleton.1 hz]
        exact ⟨k1.trans (e1.trans e2.symm), k2, bs, d1, d2⟩
    have hne := bindO_good (Q := fun _ => True) g1 fun o ho => ⟨(each o ho).1, fun _ _ => trivial⟩
    refine ⟨⟨hne.1, fun o _ => blkne o⟩, ?_⟩
    exact bindO_assoc _ _ _ g1 (fun o ho => (each o ho).1) (fun _ _ b _ => blkne b) (fun z => z.e = R.e ∧ z.ms = ms ∧ ∃ bs, getTm z.t R.ix = some bs ∧ Post κ (inv x).2 h (.tuple R.v) R.h ⟨.tuple bs, z.h⟩) fun o ho z hz => (each o ho).2.2 z hz
attribute [local irreducible] loopFuel
theorem loopFuel_eq : loopFuel = 100000 := by unfold loopFuel; rfl
/-- A LOOP'S CONTRACT, by one turn. -/
theorem core_ok {C : Cfg} (hC : CfgOk P C) {X : Type} {inv : X → List SV × SH} {res : X → Option LR} {μ : X → Nat} {core : LSpec} {L : Code} {fn : Func} {c : Code} (hf : P.funcs[f]? = some fn) (hbd : fn.body = some c) (hL : ∀ c', (id, c') ∈ blocksOf c → c' = .loop L)
    (hsub : ∀ i c', (i, c') ∈ blocksOf L → (i, c') ∈ blocksOf c)
    (hcore : ∀ vals sh R, (core vals sh).val = some R → ∃ x R1, openL (inv x).1 = openL vals ∧ (inv x).2.opened = sh.opened ∧ res x = some R1 ∧ R1.e = R.e ∧ R1.ix = R.ix ∧ Opn (.tuple R1.v, R1.h) (.tuple R.v, R.h) ∧ μ x < 100000)
    (hstep : ∀ n, d ≤ n → ∀ x R, res x = some R → ∃ o3, (seCode P fn.ntmps (C.lp n f) (se P C n) L ⟨mkT3 lv (inv x).1, (inv x).2⟩).val = some o3 ∧ LStep id lv inv res μ x R o3) : CoreOk P f id d lv core := by
  intro n hn fn' c0 hf' hb' c' hm vals sh R hR κ t h ms az st ha hg
  rw [hf] at hf'; cases hf'
  rw [hbd] at hb'; cases hb'
  have := hL c' hm
  subst this
  obtain ⟨x, R1, e1, e2, e3, e4, e5, e6, e7⟩ := hcore vals sh R hR
  have hbody : ∀ (s : S3) (o3 : E3) (κ : Kp) (t : Tm) (h : H) (ms : List Pos), (seCode P fn.ntmps (C.lp n f) (se P C n) L s).val = some o3 → TRel κ s.t t → St κ s.h h → EGood κ s.h h o3 ms ((compileCode P f fn.ntmps false L).run (run P mg0 n) t ms h) :=
    fun s o3 κ t h ms hv ht st => seCode_ok (f := f) (se_ok hC n) L (fun i f3 c' h1 h2 => lp_ok hC hf hbd i f3 c' h1 (hsub i c' h2)) s o3 κ t h ms hv ht st
  have st' : St κ (inv x).2 h := by
    have a := opened_st st
    rw [← e2] at a
    exact st_opened a
  obtain ⟨_, g1, g2⟩ := loop_turns hbody (hstep n hn) loopFuel x R1 e3 (by rw [loopFuel_eq]; exact e7) κ t h ms az st' (by rw [← openL_den, e1, openL_den]; exact ha) hg
  show LGood κ sh h R ms (bindO (runLoop (compileCode P f fn.ntmps false L).run (run P mg0 n) loopFuel t ms h) (blkO id))
  refine ⟨g1, fun o ho => ?_⟩
  obtain ⟨k1, k2, bs, k3, k4⟩ := g2 o ho
  refine ⟨k1.trans e4, k2, bs, by rw [← e5]; exact k3, ?_⟩
  obtain ⟨κ', a, b, c⟩ := post_opn e6 k4
  refine ⟨κ', a, b, ?_⟩
  have hnm := nm_opened e2
  refine ⟨c.le, by rw [← hnm]; exact c.nm, c.next, fun p hp hk => c.kept p hp fun y oy hy he => ?_, fun y hy => c.old y (by rw [hnm]; exact hy), fun y oy hy hl => ?_, fun y p hy hq => c.new y p (by rw [hnm]; exact hy) hq⟩
  · obtain ⟨o1, f1⟩ := get_opened hy
    rw [e2] at f1
    obtain ⟨o2, f2⟩ := opened_get f1
    exact hk y o2 f2 he
  · obtain ⟨o0, f0⟩ := c.sub y oy hy (by rw [hnm]; exact hl)
    obtain ⟨o1, f1⟩ := get_opened f0
    rw [e2] at f1
    exact opened_get f1
/-! ### Tables -/
def Cfg.none : Cfg := ⟨fun _ => Option.none, fun _ _ => Option.none⟩
def Cfg.addS (C : Cfg) (f d : Nat) (s : Spec) : Cfg := ⟨fun g => match Nat.beq g f with | true => some (d, s) | false => C.spec g, C.loop⟩
def Cfg.addL (C : Cfg) (f id d : Nat) (s : S3 → DT E3) : Cfg := ⟨C.spec, fun g i => match Nat.beq g f && Nat.beq i id with | true => some (d, s) | false => C.loop g i⟩
theorem cfg_none : CfgOk P Cfg.none := ⟨fun f d s h => (by cases h), fun f id d s h => (by cases h)⟩
theorem CfgOk.addS {C : Cfg} (hC : CfgOk P C) {f d : Nat} {s : Spec} (hs : SpecOk P f d s) : CfgOk P (C.addS f d s) := by
  refine ⟨fun g d' s' h => ?_, hC.loop⟩
  have h' : (match Nat.beq g f with | true => some (d, s) | false => C.spec g) = some (d', s') := h
  split at h'
  · rename_i hb
    cases h'
    rw [beq_iff.1 hb]; exact hs
  · exact hC.spec g d' s' h'
theorem CfgOk.addL {C : Cfg} (hC : CfgOk P C) {f id d : Nat} {s : S3 → DT E3} (hs : LoopOk P f id d s) : CfgOk P (C.addL f id d s) := by
  refine ⟨hC.spec, fun g i d' s' h => ?_⟩
  have h' : (match Nat.beq g f && Nat.beq i id with | true => some (d, s) | false => C.loop g i) = some (d', s') := h
  split at h'
  · rename_i hb
    cases h'
    rw [Bool.and_eq_true] at hb
    rw [beq_iff.1 hb.1, beq_iff.1 hb.2]; exact hs
  · exact hC.loop g i d' s' h'
end
end
end Go.Proofs.YtgemonlknehegaaGreatDoor.AI
namespace Go.Proofs.YtgemonlknehegaaGreatDoor.AI
open Go
set_option linter.unusedVariables false
set_option linter.unusedSimpArgs false
noncomputable section
def upto : Nat → List Nat
  | 0 => []
  | n + 1 => upto n ++ [n]
/-- names by their turn: the first k az they are, then those of the value, then those reached -/
def autoTh (k : Nat) (r : SV × SH) : List Nat := reach r.2 64 0 (addAll (upto k) (namesV r.1))
def canonR (k : Nat) (r : SV × SH) : Option (SV × SH) := match noDup (autoTh k r) && stays k (autoTh k r) 0 with | true => pull (autoTh k r) r | false => none
/-- a body's outcomes -/
def seC (P : Program) (C : Cfg) (n : Nat) (f : FuncId) (args : List SV) (sh : SH) : DT (Option (SV × SH)) := (seFn P (C.lp n) (se P C n) f (openL args) sh.opened).map (canonR sh.nm)
mutual
theorem opened_opened : ∀ v : SV, v.opened.opened = v.opened
  | .b .. | .i .. | .s .. | .nil .. | .ptr .. | .sl .. | .map .. | .func .. | .yield .. | .tsl .. | .etl .. | .eptr .. | .o .. => rfl
  | .agg l => by simp only [SV.opened, openL_openL l]
  | .tuple l => by simp only [SV.opened, openL_openL l]
theorem openL_openL : ∀ l : List SV, openL (openL l) = openL l
  | [] => rfl
  | v :: l => by simp only [openL, opened_opened v, openL_openL l]
end
theorem SO.opened_opened (o : SO) : o.opened.opened = o.opened := by
  cases o <;> first | rfl | simp only [SO.opened, openL_openL]
theorem openO_openO : ∀ l : List (Nat × SO), openO (openO l) = openO l
  | [] => rfl
  | p :: l => by simp only [openO, SO.opened_opened, openO_openO l]
theorem SH.opened_opened (sh : SH) : sh.opened.opened = sh.opened := by simp only [SH.opened, openO_openO]
theorem seC_open (P : Program) (C : Cfg) (n : Nat) (f : FuncId) (args : List SV) (sh : SH) : seC P C n f args sh = seC P C n f (openL args) sh.opened := by
  unfold seC; rw [openL_openL, SH.opened_opened]; rfl
theorem map_some {α β : Type} {f : α → β} {d : DT α} {b : β} (h : (d.map f).val = some b) : ∃ a, d.val = some a ∧ f a = b := by
  rw [val_map] at h
  cases hd : d.val with
  | none => rw [hd] at h; cases h
  | some a => rw [hd] at h; cases h; exact ⟨a, rfl, rfl⟩
theorem canonR_some {k : Nat} {r r1 : SV × SH} (h : canonR k r = some r1) : pull (autoTh k r) r = some r1 ∧ (noDup (autoTh k r) && stays k (autoTh k r) 0) = true := by
  unfold canonR at h
  split at h
  · rename_i hb; exact ⟨h, hb⟩
  · cases h
section
variable {P : Program} {C : Cfg} {f d id : Nat} {lv : List Nat}
theorem spec_ok (hC : CfgOk P C) {s0 : Spec} (hs : ∀ n args sh r, (s0 args sh).val = some r → ∃ r1, (seC P C (n + d) f args sh).val = some (some r1) ∧ Opn r1 r) : SpecOk P f (d + 1) s0 := by
  refine spec0_ok hC fun n args sh r hn hr => ?_
  obtain ⟨r1, h1, h2⟩ := hs (n - d) args sh r hr
  rw [Nat.sub_add_cancel hn] at h1
  obtain ⟨r0, h3, h4⟩ := map_some h1
  obtain ⟨h5, h6⟩ := canonR_some h4
  exact ⟨r0, autoTh sh.nm r0, r1, h3, h5, h6, h2⟩
/-- where a turn of a loop leads -/
inductive Turn where
  | next (vals : List SV) (h : SH) (th : List Nat) (h0 : SH)
  | ends (e : AExit) (v : SV) (h : SH)
  | bad
/-- a turn's end by names in their turn: on, or out -/
def viewT (lv : List Nat) (k : Nat) (ix : AExit → List Nat) (o : E3) : Turn :=
  match o.e with
  | .normal => (match getTs o.t lv with
    | some vals => (match renOL (idx (reachV o.h vals)) vals, pullH (reachV o.h vals) o.h, noDup (reachV o.h vals) && lall2 (fun x => Nat.blt x o.h.nm) (reachV o.h vals) with
      | some w, some sw, true => .next w sw (reachV o.h vals) o.h
      | _, _, _ => .bad)
    | none => .bad)
  | e => (match getTs o.t (ix e) with
    | some vals => (match canonR k (.tuple vals, o.h) with
      | some r => .ends e r.1 r.2
      | none => .bad)
    | none => .bad)
/-- the end of a turn that went on, seen from before -/
def comb (k : Nat) (th : List Nat) (h0 : SH) (R : LR) : Option (SV × SH) := (backR th h0 (.tuple R.v, R.h)).bind (canonR k)
def exN (id : Nat) (e : AExit) : AExit := match e with | .exit i => (match Nat.beq i id with | true => .normal | false => e) | e => e
def seL (P : Program) (C : Cfg) (n : Nat) (f : FuncId) (nt : Nat) (L : Code) (lv : List Nat) (ix : AExit → List Nat) (s : List SV × SH) : DT Turn := (seCode P nt (C.lp n f) (se P C n) L ⟨mkT3 lv s.1, s.2⟩).map (viewT lv s.2.nm ix)
/-- what is asked of one turn -/
def TurnOk {X : Type} (id : Nat) (ix : AExit → List Nat) (inv : X → List SV × SH) (res : X → Option LR) (μ : X → Nat) (x : X) (R : LR) (t : Turn) : Prop :=
  match t with
  | .next w sw th h0 => ∃ x' R', openL w = openL (inv x').1 ∧ sw.opened = (inv x').2.opened ∧ μ x' < μ x ∧ res x' = some R' ∧ R'.e = R.e ∧ R'.ix = R.ix ∧ ∃ q1, comb (inv x).2.nm th h0 R' = some q1 ∧ Wk q1 (.tuple R.v, R.h)
  | .ends e v h => ((e = .exit id ∧ R.e = .normal) ∨ (e = .ret ∧ R.e = .ret)) ∧ R.ix = ix e ∧ Wk (v, h) (.tuple R.v, R.h)
  | .bad => False
theorem loop_ok2 (hC : CfgOk P C) {X : Type} {inv : X → List SV × SH} {res : X → Option LR} {μ : X → Nat} {ix : AExit → List Nat} {core : LSpec} {L : Code} {fn : Func} {c : Code} (hf : P.funcs[f]? = some fn) (hbd : fn.body = some c) (hL : ∀ c', (id, c') ∈ blocksOf c → c' = .loop L)
    (hsub : ∀ i c', (i, c') ∈ blocksOf L → (i, c') ∈ blocksOf c)
    (hcore : ∀ vals sh R, (core vals sh).val = some R → ∃ x R1, openL (inv x).1 = openL vals ∧ (inv x).2.opened = sh.opened ∧ res x = some R1 ∧ R1.e = R.e ∧ R1.ix = R.ix ∧ Opn (.tuple R1.v, R1.h) (.tuple R.v, R.h) ∧ μ x < 100000)
    (hstep : ∀ n x R, res x = some R → ∃ t, (seL P C (n + d) f fn.ntmps L lv ix (inv x)).val = some t ∧ TurnOk id ix inv res μ x R t) : LoopOk P f id d (liftL lv core) := by
  refine liftL_ok (core_ok hC hf hbd hL hsub hcore fun n hn x R hR => ?_)
  obtain ⟨t, h1, h2⟩ := hstep (n - d) x R hR
  rw [Nat.sub_add_cancel hn] at h1
  obtain ⟨o3, h3, h4⟩ := map_some h1
  refine ⟨o3, h3, ?_⟩
  subst h4
  unfold viewT at h2
  have out : ∀ e, o3.e = e → e ≠ .normal → TurnOk id ix inv res μ x R (match getTs o3.t (ix e) with
    | some vals => (match canonR (inv x).2.nm (.tuple vals, o3.h) with
      | some r => .ends e r.1 r.2
      | none => .bad)
    | none => .bad) → LStep id lv inv res μ x R o3 := fun e he hne hq => by
    split at hq
    · rename_i vals hv
      split at hq
      · rename_i r hr
        obtain ⟨h5, h6⟩ := canonR_some hr
        obtain ⟨k1, k2, k3⟩ := hq
        rcases k1 with ⟨a, b⟩ | ⟨a, b⟩
        · subst a
          exact .inr (.inl ⟨he, b, autoTh (inv x).2.nm (.tuple vals, o3.h), vals, r, by rw [k2]; exact hv, h5, h6, k3⟩)
        · subst a
          exact .inr (.inr ⟨he, b, autoTh (inv x).2.nm (.tuple vals, o3.h), vals, r, by rw [k2]; exact hv, h5, h6, k3⟩)
      · exact hq.elim
    · exact hq.elim
  cases he : o3.e with
  | exit i => rw [he] at h2; exact out (.exit i) he (by simp) h2
  | ret => rw [he] at h2; exact out .ret he (by simp) h2
  | normal =>
    rw [he] at h2
    simp only at h2
    split at h2
    · rename_i vals hv
      split at h2
      · rename_i w sw a b c
        obtain ⟨x', R', k1, k2, k3, k4, k5, k6, q1, k7, k8⟩ := h2
        unfold comb at k7
        cases hq : backR (reachV o3.h vals) o3.h (.tuple R'.v, R'.h) with
        | none => rw [hq] at k7; cases k7
        | some q =>
          rw [hq] at k7
          obtain ⟨h5, h6⟩ := canonR_some k7
          exact .inl ⟨x', R', reachV o3.h vals, autoTh (inv x).2.nm q, vals, w, sw, q, q1, ⟨he, hv, a, b, c, k1, k2, k3, k4, k5, k6, hq, h5, h6, k8⟩⟩
      · exact h2.elim
    · exact h2.elim
/-- all blocks of a loop are the body's -/
def blkIds (c : Code) : List Nat := (blocksOf c).map (·.1)
theorem mem_ids {c : Code} {l : List (Nat × Code)} (h : blocksOf c = l) {i : Nat} {c' : Code} (hm : (i, c') ∈ blocksOf c) : (i, c') ∈ l := h ▸ hm
end
end
end Go.Proofs.YtgemonlknehegaaGreatDoor.AI
namespace Go.Proofs.YtgemonlknehegaaGreatDoor.AI
open Go
set_option linter.unusedVariables false
set_option linter.unusedSimpArgs false
/-- one way through a tree: what it asks, and where it leads -/
def DT.follow {α : Type} : List Bool → DT α → Option (List Bool × α)
  | [], .leaf a => some ([], a)
  | b :: l, .node c x y => match DT.follow l (match b with | true => x | false => y) with
    | some r => some (c :: r.1, r.2)
    | none => none
  | _, _ => none
theorem follow_val {α : Type} : ∀ {p cs : List Bool} {d : DT α} {a : α}, DT.follow p d = some (cs, a) → cs = p → d.val = some a
  | [], cs, .leaf b, a, h, _ => by cases h; rfl
  | [], cs, .node _ _ _, a, h, _ => by cases h
  | [], cs, .fail, a, h, _ => by cases h
  | b :: l, cs, .leaf _, a, h, _ => by cases h
  | b :: l, cs, .fail, a, h, _ => by cases h
  | b :: l, cs, .node c x y, a, h, he => by
    unfold DT.follow at h
    split at h
    · rename_i r hr
      cases h
      obtain ⟨e1, e2⟩ := List.cons.inj he
      subst e1
      have := follow_val hr e2
      cases c <;> exact this
    · cases h
theorem blocks_trans : ∀ {c : Code} {i : Nat} {c' : Code}, (i, c') ∈ blocksOf c → ∀ p ∈ blocksOf c', p ∈ blocksOf c
  | .seq a b, i, c', h, p, hp => by
    rcases List.mem_append.1 h with h | h
    · exact List.mem_append_left _ (blocks_trans h p hp)
    · exact List.mem_append_right _ (blocks_trans h p hp)
  | .cond _ a b, i, c', h, p, hp => by
    rcases List.mem_append.1 h with h | h
    · exact List.mem_append_left _ (blocks_trans h p hp)
    · exact List.mem_append_right _ (blocks_trans h p hp)
  | .block id c, i, c', h, p, hp => by
    rcases List.mem_cons.1 h with h | h
    · cases h; exact List.mem_cons_of_mem _ hp
    · exact List.mem_cons_of_mem _ (blocks_trans h p hp)
  | .loop c, i, c', h, p, hp => blocks_trans (c := c) h p hp
  | .skip, _, _, h, _, _ | .region .., _, _, h, _, _ | .exit .., _, _, h, _, _ | .ret, _, _, h, _, _ | .rangeFunc .., _, _, h, _, _ | .goto .., _, _, h, _, _ | .label .., _, _, h, _, _ | .scope .., _, _, h, _, _ | .refuse .., _, _, h, _, _ => by simp [blocksOf] at h
def bodyC (fn : Func) : Code := match fn.body with | some c => c | none => .skip
def hasBody (fn : Func) : Bool := match fn.body with | some _ => true | none => false
theorem bodyC_ok {fn : Func} (h : hasBody fn = true) : fn.body = some (bodyC fn) := by
  unfold hasBody at h
  unfold bodyC
  cases hb : fn.body with
  | none => rw [hb] at h; cases h
  | some c => rfl
def blkFind : List (Nat × Code) → Nat → Code
  | [], _ => .skip
  | p :: l, id => match Nat.beq p.1 id with | true => p.2 | false => blkFind l id
def blkL (fn : Func) (id : Nat) : Code := match blkFind (blocksOf (bodyC fn)) id with | .loop L => L | _ => .skip
def blkChk (fn : Func) (id : Nat) : Bool := hasBody fn && (noDup ((blocksOf (bodyC fn)).map (·.1)) && (match blkFind (blocksOf (bodyC fn)) id with | .loop _ => true | _ => false))
theorem blkFind_mem : ∀ {l : List (Nat × Code)} {id : Nat} {c : Code}, noDup (l.map (·.1)) = true → (id, c) ∈ l → blkFind l id = c
  | p :: l, id, c, hd, hm => by
    have hd' : ((match idx (l.map (·.1)) p.1 with | none => true | some _ => false) && noDup (l.map (·.1))) = true := hd
    rw [Bool.and_eq_true] at hd'
    rcases List.mem_cons.1 hm with rfl | hm
    · show (match Nat.beq id id with | true => c | false => blkFind l id) = c
      rw [Nat.beq_refl]
    · have hne : p.1 ≠ id := fun e => by
        have : p.1 ∉ l.map (·.1) := by
          cases he : idx (l.map (·.1)) p.1 with
          | none => exact idx_none he
          | some z => rw [he] at hd'; cases hd'.1
        exact this (by rw [e]; exact List.mem_map.2 ⟨(id, c), hm, rfl⟩)
      show (match Nat.beq p.1 id with | true => p.2 | false => blkFind l id) = c
      rw [beq_false.2 hne]
      exact blkFind_mem hd'.2 hm
theorem blkS_ok {fn : Func} {id : Nat} (h : blkChk fn id = true) : fn.body = some (bodyC fn) ∧ (∀ c', (id, c') ∈ blocksOf (bodyC fn) → c' = .loop (blkL fn id)) := by
  unfold blkChk at h
  rw [Bool.and_eq_true, Bool.and_eq_true] at h
  refine ⟨bodyC_ok h.1, fun c' hm => ?_⟩
  have e := blkFind_mem h.2.1 hm
  have h3 := h.2.2
  unfold blkL
  rw [e] at h3 ⊢
  cases c' <;> first | rfl | cases h3
theorem blk_sub {fn : Func} {id : Nat} (h : blkChk fn id = true) : ∀ i c', (i, c') ∈ blocksOf (blkL fn id) → (i, c') ∈ blocksOf (bodyC fn) := by
  intro i c' hm
  have h0 := h
  unfold blkChk at h
  rw [Bool.and_eq_true, Bool.and_eq_true] at h
  have h3 := h.2.2
  have hin : ∀ (l : List (Nat × Code)), (match blkFind l id with | .loop _ => true | _ => false) = true → ∃ L, blkFind l id = .loop L ∧ (id, .loop L) ∈ l := by
    intro l
    induction l with
    | nil => intro hh; cases hh
    | cons p l ih =>
      intro hh
      have e : blkFind (p :: l) id = (match Nat.beq p.1 id with | true => p.2 | false => blkFind l id) := rfl
      rw [e] at hh ⊢
      cases hb : Nat.beq p.1 id with
      | true =>
        rw [hb] at hh
        obtain ⟨a, b⟩ := p
        have := beq_iff.1 hb
        simp only at this hh ⊢
        subst this
        cases b <;> first | exact ⟨_, rfl, List.mem_cons_self ..⟩ | cases hh
      | false =>
        rw [hb] at hh
        obtain ⟨L, h1, h2⟩ := ih hh
        exact ⟨L, h1, List.mem_cons_of_mem _ h2⟩
  obtain ⟨L, h1, h2⟩ := hin _ h3
  have hL : blkL fn id = L := by unfold blkL; rw [h1]
  rw [hL] at hm
  exact blocks_trans h2 _ hm
/-- A LOOP OF A FUNCTION -/
theorem loop_at {P : Program} {C : Cfg} (hC : CfgOk P C) {f d id : Nat} {lv : List Nat} {X : Type} {inv : X → List SV × SH} {res : X → Option LR} {μ : X → Nat} {ix : AExit → List Nat} {core : LSpec} {fn : Func} (hf : P.funcs[f]? = some fn) (hk : blkChk fn id = true)
    (hcore : ∀ vals sh R, (core vals sh).val = some R → ∃ x R1, openL (inv x).1 = openL vals ∧ (inv x).2.opened = sh.opened ∧ res x = some R1 ∧ R1.e = R.e ∧ R1.ix = R.ix ∧ Opn (.tuple R1.v, R1.h) (.tuple R.v, R.h) ∧ μ x < 100000)
    (hstep : ∀ n x R, res x = some R → ∃ t, (seL P C (n + d) f fn.ntmps (blkL fn id) lv ix (inv x)).val = some t ∧ TurnOk id ix inv res μ x R t) : LoopOk P f id d (liftL lv core) :=
  loop_ok2 hC hf (blkS_ok hk).1 (blkS_ok hk).2 (blk_sub hk) hcore hstep
end Go.Proofs.YtgemonlknehegaaGreatDoor.AI
namespace Go.Proofs.YtgemonlknehegaaGreatDoor.AI
open Go
set_option linter.unusedVariables false
set_option linter.unusedSimpArgs false
noncomputable section
/-- code before the range, each piece ending normally -/
def sePres (P : Program) (nt : Nat) (rec : R3) : List Code → S3 → DT S3
  | [], s => .leaf s
  | c :: l, s => (seCode P nt (fun _ => none) rec c s).bind fun o => match o.e with | .normal => sePres P nt rec l ⟨o.t, o.h⟩ | _ => .fail
/-- the code az it stands: the pieces, the range in a block, what is behind -/
def nest (r3 : Code) (id : Nat) (g : Operand) (ps : Array Nat) (a c post : Code) : List Code → Code
  | [] => .seq (.seq r3 (.block id (.rangeFunc g ps a c))) post
  | p :: l => .seq p (nest r3 id g ps a c post l)
def seRg (rec : R3) (f : FuncId) (ix : List Nat) (g : Operand) (ps : Array Nat) (a c : Code) (s : S3) : DT SH :=
  match opd3 g s.t, getTs s.t ix with
  | some (.func gf first cap), some ts => (match Nat.beq gf yieldF with
    | true => .fail
    | false => (rec gf (first ++ (.yield s.h.nm :: cap)) (s.h.add (.loop f ix ts ps.toList a c))).bind fun r => match r.2.get s.h.nm with
      | some (.loop _ _ _ _ _ _) => .leaf (r.2.del s.h.nm)
      | _ => .fail)
  | _, _ => .fail
def seFnR (P : Program) (rec : R3) (f : FuncId) (pres : List Code) (r3 : Code) (ix : List Nat) (g : Operand) (ps : Array Nat) (a c post : Code) (args : List SV) (sh : SH) : DT (SV × SH) :=
  match P.funcs[f]? with
  | some fn => (match Nat.ble (llen args) fn.ntmps with
    | true => (sePres P fn.ntmps rec (pres ++ [r3]) ⟨initT3 args 0 .leaf, sh⟩).bind fun s => (seRg rec f ix g ps a c s).bind fun h => (seCode P fn.ntmps (fun _ => none) rec post ⟨s.t, h⟩).bind (finish3 P fn.results.toList)
    | false => .fail)
  | none => .fail
def AllQ {α : Type} (X : List α) (Q : α → Prop) : Prop := X ≠ [] ∧ ∀ o ∈ X, Q o
section
variable {P : Program} {f : FuncId} {nt : Nat} {rec3 : R3} {rec : Rec} {κ : Kp} {sh sh' : SH} {h : H} {id : Nat}
theorem q_seq {A B : Code} {s : S3} {o3 : E3} {t : Tm} {ms : List Pos} {Q : EO → Prop} (hA : EGood κ s.h h o3 ms ((compileCode P f nt false A).run rec t ms h)) (hn : o3.e = .normal)
    (hB : ∀ κ' t' h', TRel κ' o3.t t' → St κ' o3.h h' → Fr κ s.h h κ' o3.h h' → AllQ ((compileCode P f nt false B).run rec t' ms h') Q) : AllQ ((compileCode P f nt false (.seq A B)).run rec t ms h) Q := by
  show AllQ (bindO ((compileCode P f nt false A).run rec t ms h) fun o => o.andThen ((compileCode P f nt false B).run rec)) Q
  refine bindO_good hA.1 fun o ho => ?_
  obtain ⟨e1, e2, κ', a, b, c⟩ := hA.2 o ho
  rcases andThen_cases o ((compileCode P f nt false B).run rec) with ⟨_, e⟩ | ⟨ne, _⟩
  · rw [e, e2]; exact hB κ' o.t o.h a b c
  · exact absurd (e1.trans hn) ne
/-- what is so behind the range -/
def RPost (κ : Kp) (sh : SH) (h : H) (t3 : T3) (sh' : SH) (d : Pos) (h' : H) : Prop :=
  h'.objs.get d = some .dfr ∧ d.toNat < h'.next.toNat ∧ ∃ κ', κ.le κ' ∧ St κ' sh' h' ∧ Fr κ sh h κ' sh' h' ∧ ∀ y o, sh'.get y = some o → κ' y ≠ some d
theorem St.unnamed (s : St κ sh h) (ao : AObj) : St κ sh (h.alloc ao) ∧ Fr κ sh h κ sh (h.alloc ao) := by
  have hnx : (h.alloc ao).next.toNat = h.next.toNat + 1 := Pos.toNat_succ _
  have hg : ∀ q, (h.alloc ao).objs.get q = if q = h.next then some ao else h.objs.get q := fun q => T.get_set _ _ _ _
  refine ⟨⟨fun y o hy => ?_, s.inj, s.fresh, fun y p hp => by have := s.low y p hp; omega, s.bnd⟩, ⟨Kp.le_refl κ, Nat.le_refl _, by omega, fun q hq hk => ?_, fun _ _ => rfl, fun y o hy _ => ⟨o, hy⟩, fun y p hy hp => by rw [s.fresh y hy] at hp; cases hp⟩⟩
  · obtain ⟨q, ao', h1, h2, h3⟩ := s.rel y o hy
    refine ⟨q, ao', h1, ?_, h3⟩
    rw [hg, if_neg (fun e' => by have := s.low y q h1; rw [e'] at this; omega)]; exact h2
  · rw [hg, if_neg (fun e => by rw [e] at hq; omega)]
theorem seRg_ok (hr : RecRel rec3 rec) {ix : List Nat} {g : Operand} {ps : Array Nat} {a c : Code} {s : S3} {t : Tm} {ms : List Pos} (hv : (seRg rec3 f ix g ps a c s).val = some sh') (ht : TRel κ s.t t) (st : St κ s.h h) :
    AllQ (runRange f ps.toList a c rec (opd g t) t ms h) fun o => o.e = .normal ∧ o.t = t ∧ o.ms = h.next :: ms ∧ RPost κ s.h h s.t sh' h.next o.h := by
  unfold seRg at hv
  split at hv
  · rename_i gf first cap ts h1 h2
    split at hv
    · cases hv
    · rename_i hy
      obtain ⟨⟨v, sh1⟩, h3, h4⟩ := bind_some hv
      simp only at h4
      split at h4
      · rename_i f' ix' ts' ps' a' c' hg
        cases leaf_some h4
        obtain ⟨r, q, d1, d2, hp⟩ := sden_func (opd3_ok ht h1)
        obtain ⟨as0, e1, e2⟩ := getTs_ok ht h2
        obtain ⟨s1, f1⟩ := st.unnamed .dfr
        obtain ⟨s2, f2⟩ := s1.alloc (o := .loop f ix ts ps.toList a c) (ao := .loop .ready none f t ps.toList a c h.next) ⟨t, h.next, as0, rfl, e1, e2⟩
        have hle : κ.le (κ.upd s.h.nm (h.alloc .dfr).next) := f2.le
        have hden : sdenL (κ.upd s.h.nm (h.alloc .dfr).next) (first ++ (.yield s.h.nm :: cap)) = some (r ++ (.yield (h.alloc .dfr).next :: q)) :=
          sdenL_append (sdenL_mono hle d1) (sdenL_cons.2 ⟨_, _, by simp only [sden, Kp.upd_same], sdenL_mono hle d2, rfl⟩)
        have hgood := hr _ _ _ _ _ h3 _ _ _ s2 hden
        rw [taskOf_call hy] at hgood
        rw [hp]
        show AllQ (bindO (rec (.call gf (lapp r (.yield h.next.succ :: q))) ((h.alloc .dfr).alloc (.loop .ready none f t ps.toList a c h.next))) fun r => rangeEnd t h.next ms h.next.succ r.h) _
        rw [lapp_eq]
        refine bindO_good hgood.1 fun x hx => ?_
        obtain ⟨κ3, i1, i2, i3⟩ := hgood.2 x hx
        have hb : κ3 s.h.nm = some h.next.succ := by
          rw [i3.old s.h.nm (Nat.lt_succ_self _), Kp.upd_same]; rfl
        obtain ⟨p, ao, j1, j2, tm, d, bs, rfl, j3, j4⟩ := i2.rel s.h.nm _ hg
        rw [hb] at j1; cases j1
        have n2 : ((h.alloc .dfr).alloc (.loop .ready none f t ps.toList a c h.next)).next.toNat = h.next.toNat + 2 := by
          have e1 : ((h.alloc .dfr).alloc (.loop .ready none f t ps.toList a c h.next)).next = h.next.succ.succ := rfl
          rw [e1, Pos.toNat_succ, Pos.toNat_succ]
        have hs : h.next.succ.toNat = h.next.toNat + 1 := Pos.toNat_succ _
        have hset : setLoop x.h h.next.succ .exhausted none = some (x.h.set h.next.succ (.loop .exhausted none f' tm ps' a' c' d)) := by
          unfold setLoop; rw [j2]
        have hend : rangeEnd t h.next ms h.next.succ x.h = [⟨.normal, t, h.next :: ms, x.h.set h.next.succ (.loop .exhausted none f' tm ps' a' c' d)⟩] := by
          unfold rangeEnd
          rw [j2]
          simp only
          rw [hset]
        rw [hend]
        have noNext : ∀ y o, sh1.get y = some o → κ3 y ≠ some h.next := fun y o hy he => by
          by_cases hl : y < (s.h.add (.loop f ix ts ps.toList a c)).nm
          · rw [i3.old y hl] at he
            by_cases e : y = s.h.nm
            · rw [e, Kp.upd_same] at he
              have : h.next.succ = h.next := Option.some.inj he
              rw [this] at hs; omega
            · rw [Kp.upd_ne κ _ e] at he
              have := st.low y _ he; omega
          · have := i3.new y _ (by omega) he
            rw [n2] at this; omega
        obtain ⟨s4, f4⟩ := i2.drop (x := s.h.nm)
        have noB : ∀ y o, (sh1.del s.h.nm).get y = some o → κ3 y ≠ some h.next.succ := fun y o hy he => by
          have := i2.inj y s.h.nm _ he hb
          rw [get_del, if_pos this] at hy; cases hy
        have s5 := s4.other (ao := .loop .exhausted none f' tm ps' a' c' d) noB
        have hne : h.next ≠ h.next.succ := fun e => by rw [← e] at hs; omega
        refine ⟨by simp, fun o ho => ?_⟩
        rw [List.mem_singleton.1 ho]
        refine ⟨rfl, rfl, rfl, ?_, (by have := i3.next; rw [n2] at this; show h.next.toNat < x.h.next.toNat; omega), κ3, Kp.le_trans hle i3.le, s5, ?_, fun y o hy => ?_⟩
        · show (x.h.set h.next.succ _).objs.get h.next = _
          rw [hget_set, if_neg hne, i3.kept h.next (by rw [n2]; omega) ?_]
          · show ((h.alloc .dfr).alloc _).objs.get h.next = _
            have e1 : ((h.alloc .dfr).alloc (.loop .ready none f t ps.toList a c h.next)).objs.get h.next = if h.next = h.next.succ then _ else (h.alloc .dfr).objs.get h.next := T.get_set _ _ _ _
            rw [e1, if_neg hne]
            show (h.objs.set h.next .dfr).get h.next = _
            rw [T.get_set, if_pos rfl]
          · intro y o hy he
            by_cases e : y = s.h.nm
            · rw [e, Kp.upd_same] at he
              exact hne (Option.some.inj he).symm
            · rw [Kp.upd_ne κ _ e] at he
              have := st.low y _ he; omega
        · have f3 := (f1.trans f2).trans i3
          refine ⟨f3.le, f3.nm, f3.next, fun q hq hk => ?_, f3.old, fun y o hy hl => ?_, f3.new⟩
          · show (x.h.set h.next.succ _).objs.get q = _
            rw [hget_set, if_neg (fun e => by rw [e] at hq; omega)]
            exact f3.kept q hq hk
          · rw [get_del] at hy
            by_cases e : y = s.h.nm
            · rw [if_pos e] at hy; cases hy
            · rw [if_neg e] at hy; exact f3.sub y o hy hl
        · rw [get_del] at hy
          by_cases e : y = s.h.nm
          · rw [if_pos e] at hy; cases hy
          · rw [if_neg e] at hy; exact noNext y o hy
      · cases h4
  · cases hv
theorem sePres_nest (hr : RecRel rec3 rec) {r3 : Code} {g : Operand} {ps : Array Nat} {a c post : Code} {Q : EO → Prop} : ∀ {pres : List Code} {s s' : S3} {κ : Kp} {t : Tm} {h : H} {ms : List Pos}, (sePres P nt rec3 (pres ++ [r3]) s).val = some s' → TRel κ s.t t → St κ s.h h →
    (∀ κ' t' h', TRel κ' s'.t t' → St κ' s'.h h' → Fr κ s.h h κ' s'.h h' → AllQ (bindO ((compileCode P f nt false (.block id (.rangeFunc g ps a c))).run rec t' ms h') fun o => o.andThen ((compileCode P f nt false post).run rec)) Q) →
    AllQ ((compileCode P f nt false (nest r3 id g ps a c post pres)).run rec t ms h) Q
  | [], s, s', κ, t, h, ms, hv, ht, st, hk => by
    obtain ⟨o, h1, h2⟩ := bind_some (show ((seCode P nt (fun _ => none) rec3 r3 s).bind fun o => match o.e with | .normal => sePres P nt rec3 [] ⟨o.t, o.h⟩ | _ => .fail).val = some s' from hv)
    split at h2
    · rename_i hn
      cases leaf_some h2
      have hg := seCode_ok (f := f) hr r3 (fun _ _ _ e => by cases e) s o κ t h ms h1 ht st
      show AllQ (bindO (bindO ((compileCode P f nt false r3).run rec t ms h) fun o => o.andThen ((compileCode P f nt false (.block id (.rangeFunc g ps a c))).run rec)) fun o => o.andThen ((compileCode P f nt false post).run rec)) Q
      have key : ∀ z ∈ (compileCode P f nt false r3).run rec t ms h, ∃ κ', TRel κ' o.t z.t ∧ St κ' o.h z.h ∧ Fr κ s.h h κ' o.h z.h ∧ z.andThen ((compileCode P f nt false (.block id (.rangeFunc g ps a c))).run rec) = (compileCode P f nt false (.block id (.rangeFunc g ps a c))).run rec z.t ms z.h := fun z hz => by
        obtain ⟨e1, e2, κ', a, b, c⟩ := hg.2 z hz
        refine ⟨κ', a, b, c, ?_⟩
        rcases andThen_cases z ((compileCode P f nt false (.block id (.rangeFunc g ps _ _))).run rec) with ⟨_, e⟩ | ⟨ne, _⟩
        · rw [e, e2]
        · exact absurd (e1.trans hn) ne
      have all : ∀ z ∈ (compileCode P f nt false r3).run rec t ms h, AllQ (bindO (z.andThen ((compileCode P f nt false (.block id (.rangeFunc g ps a c))).run rec)) fun o => o.andThen ((compileCode P f nt false post).run rec)) Q := fun z hz => by
        obtain ⟨κ', a, b, c, e⟩ := key z hz
        rw [e]; exact hk κ' z.t z.h a b c
      have ne1 : ∀ z ∈ (compileCode P f nt false r3).run rec t ms h, z.andThen ((compileCode P f nt false (.block id (.rangeFunc g ps a c))).run rec) ≠ [] ∧ ∀ y ∈ z.andThen ((compileCode P f nt false (.block id (.rangeFunc g ps a c))).run rec), y.andThen ((compileCode P f nt false post).run rec) ≠ [] := fun z hz => by
        have := (all z hz).1
        exact ⟨(bindO_ne this).1, fun y hy => ((bindO_ne this).2 y hy).1⟩
      exact bindO_assoc _ _ _ hg.1 (fun z hz => (ne1 z hz).1) (fun z hz => (ne1 z hz).2) Q (fun z hz => (all z hz).2)
    · cases h2
  | p :: l, s, s', κ, t, h, ms, hv, ht, st, hk => by
    obtain ⟨o, h1, h2⟩ := bind_some (show ((seCode P nt (fun _ => none) rec3 p s).bind fun o => match o.e with | .normal => sePres P nt rec3 (l ++ [r3]) ⟨o.t, o.h⟩ | _ => .fail).val = some s' from hv)
    split at h2
    · rename_i hn
      have hg := seCode_ok (f := f) hr p (fun _ _ _ e => by cases e) s o κ t h ms h1 ht st
      exact q_seq hg hn fun κ' t' h' a b c => sePres_nest hr (pres := l) h2 a b fun κ2 t2 h2 a2 b2 c2 => hk κ2 t2 h2 a2 b2 (c.trans c2)
    · cases h2
theorem St.delOther (s : St κ sh h) {d : Pos} (hd : ∀ y o, sh.get y = some o → κ y ≠ some d) : St κ sh (h.del d) :=
  ⟨fun y o hy => by
    obtain ⟨q, ao', h1, h2, h3⟩ := s.rel y o hy
    refine ⟨q, ao', h1, ?_, h3⟩
    show (h.objs.del d).get q = _
    rw [T.get_del, if_neg (fun e => hd y o hy (by rw [h1, e]))]; exact h2, s.inj, s.fresh, s.low, s.bnd⟩
theorem fnR_ok (hr : RecRel rec3 rec) {pres : List Code} {r3 : Code} {ix : List Nat} {g : Operand} {ps : Array Nat} {a c post : Code} {args : List SV} {v : SV}
    (hb : ∀ fn, P.funcs[f]? = some fn → fn.body = some (nest r3 id g ps a c post pres))
    (hv : (seFnR P rec3 f pres r3 ix g ps a c post args sh).val = some (v, sh')) {as0 : List AV} (st : St κ sh h) (ha : sdenL κ args = some as0) : Good κ sh h v sh' ((compileFn P f).run rec as0 h) := by
  unfold seFnR at hv
  unfold compileFn
  cases hf : P.funcs[f]? with
  | none => rw [hf] at hv; cases hv
  | some fn =>
    rw [hf] at hv
    simp only at hv ⊢
    rw [hb fn hf]
    simp only
    split at hv
    · rename_i hle
      have hle' : Nat.ble (llen as0) fn.ntmps = true := by rw [llen_eq, sdenL_length ha, ← llen_eq]; exact hle
      rw [hle']
      show Good κ sh h v sh' (bindO ((compileCode P f fn.ntmps false (nest r3 id g ps a c post pres)).run rec (initTm as0 0 .leaf) [] h) fun o => finish P fn.results.toList o)
      obtain ⟨s, h1, h2⟩ := bind_some hv
      obtain ⟨shr, h3, h4⟩ := bind_some h2
      obtain ⟨o3, h5, h6⟩ := bind_some h4
      have all : AllQ ((compileCode P f fn.ntmps false (nest r3 id g ps a c post pres)).run rec (initTm as0 0 .leaf) [] h) fun o => finish P fn.results.toList o ≠ [] ∧ ∀ r ∈ finish P fn.results.toList o, Post κ sh h v sh' r := by
        refine sePres_nest (κ := κ) hr h1 (initT3_ok (i := 0) ha TRel.leaf) st fun κ1 t1 h1' a1 b1 c1 => ?_
        have hrg := seRg_ok (f := f) (ms := []) hr h3 a1 b1
        show AllQ (bindO (bindO (runRange f ps.toList a c rec (opd g t1) t1 [] h1') fun o => o.e.on [o] (fun id' => pick (Nat.beq id' id) [⟨.normal, o.t, o.ms, o.h⟩] [o]) [o]) fun o => o.andThen ((compileCode P f fn.ntmps false post).run rec)) _
        have each : ∀ o ∈ runRange f ps.toList a c rec (opd g t1) t1 [] h1', ∃ h2', o = ⟨.normal, t1, [h1'.next], h2'⟩ ∧ RPost κ1 s.h h1' s.t shr h1'.next h2' := fun o ho => by
          obtain ⟨e1, e2, e3, e4⟩ := hrg.2 o ho
          obtain ⟨oe, ot, oms, oh⟩ := o
          simp only at e1 e2 e3 e4
          subst e1; subst e2; subst e3
          exact ⟨oh, rfl, e4⟩
        have fin : ∀ h2', RPost κ1 s.h h1' s.t shr h1'.next h2' → AllQ ((compileCode P f fn.ntmps false post).run rec t1 [h1'.next] h2') fun o => finish P fn.results.toList o ≠ [] ∧ ∀ r ∈ finish P fn.results.toList o, Post κ sh h v sh' r := fun h2' hp => by
          obtain ⟨hd, hlow2, κ2, l2, s2, f2, nd⟩ := hp
          have hg := seCode_ok (f := f) hr post (fun _ _ _ e => by cases e) _ o3 κ2 t1 h2' [h1'.next] h5 (fun p w hw => by
            obtain ⟨x, y1, y2⟩ := a1 p w hw
            exact ⟨x, sden_mono l2 y1, y2⟩) s2
          refine ⟨hg.1, fun x hx => ?_⟩
          obtain ⟨e1, e2, κ3, b3, c3, d3⟩ := hg.2 x hx
          obtain ⟨xe, xt, xms, xh⟩ := x
          obtain ⟨oe, ot, oh⟩ := o3
          simp only at e1 e2 b3 c3 d3
          subst e1; subst e2
          have nd3 : ∀ y o, oh.get y = some o → κ3 y ≠ some h1'.next := fun y o hy he => by
            by_cases hl : y < shr.nm
            · obtain ⟨o0, h0⟩ := d3.sub y o hy hl
              rw [d3.old y hl] at he
              exact nd y o0 h0 he
            · have := d3.new y _ (by omega) he; omega
          have hdf : xh.objs.get h1'.next = some .dfr := by rw [d3.kept _ hlow2 nd]; exact hd
          have s3 := c3.delOther nd3
          have f3 := (c1.trans f2).trans d3
          have f4 : Fr κ sh h κ3 oh (xh.del h1'.next) := by
            refine ⟨f3.le, f3.nm, f3.next, fun q hq hk => ?_, f3.old, f3.sub, f3.new⟩
            show (xh.objs.del h1'.next).get q = _
            rw [T.get_del, if_neg (fun e => by have := c1.next; rw [e] at hq; omega)]
            exact f3.kept q hq hk
          have key : ((resAll3 P oh ot fn.results.toList).bind fun vs => .leaf (tupled3 vs, oh)).val = some (v, sh') → ∀ xe, finish P fn.results.toList ⟨xe, xt, [h1'.next], xh⟩ = liftO (resAll P (xh.del h1'.next) xt fn.results.toList) (fun vs => [⟨tupled vs, xh.del h1'.next⟩]) → finish P fn.results.toList ⟨xe, xt, [h1'.next], xh⟩ ≠ [] ∧ ∀ r ∈ finish P fn.results.toList ⟨xe, xt, [h1'.next], xh⟩, Post κ sh h v sh' r := fun hk xe hfin => by
            obtain ⟨vs, k1, k2⟩ := bind_some hk
            cases leaf_some k2
            obtain ⟨as', k3, k4⟩ := resAll3_ok k1 b3 s3
            rw [hfin, k3]
            exact Good.one ⟨κ3, tupled3_ok k4, s3, f4⟩
          have hshut : shut [h1'.next] xh = some (xh.del h1'.next) := by unfold shut; rw [hdf]; rfl
          cases xe with
          | normal => exact key h6 _ (by show liftO (shut [h1'.next] xh) _ = _; rw [hshut]; rfl)
          | ret => exact key h6 _ (by show liftO (shut [h1'.next] xh) _ = _; rw [hshut]; rfl)
          | exit i => cases h6
        have hb2 : ∀ o ∈ runRange f ps.toList a c rec (opd g t1) t1 [] h1', o.e.on [o] (fun id' => pick (Nat.beq id' id) [⟨.normal, o.t, o.ms, o.h⟩] [o]) [o] = [o] := fun o ho => by
          obtain ⟨h2', rfl, _⟩ := each o ho; rfl
        have hb3 : ∀ o ∈ runRange f ps.toList a c rec (opd g t1) t1 [] h1', AllQ (o.andThen ((compileCode P f fn.ntmps false post).run rec)) fun o => finish P fn.results.toList o ≠ [] ∧ ∀ r ∈ finish P fn.results.toList o, Post κ sh h v sh' r := fun o ho => by
          obtain ⟨h2', rfl, hp⟩ := each o ho
          exact fin h2' hp
        refine bindO_assoc _ _ _ hrg.1 (fun o ho => by rw [hb2 o ho]; simp) (fun o ho y hy => ?_) _ (fun o ho y hy => ?_)
        · rw [hb2 o ho] at hy
          rw [List.mem_singleton.1 hy]; exact (hb3 o ho).1
        · rw [hb2 o ho] at hy
          have e1 : bindO [o] (fun o => o.andThen ((compileCode P f fn.ntmps false post).run rec)) = o.andThen ((compileCode P f fn.ntmps false post).run rec) := rfl
          rw [e1] at hy
          exact (hb3 o ho).2 y hy
      exact bindO_good all.1 all.2
    · cases hv
/-- such a function's outcomes -/
def seCR (P : Program) (C : Cfg) (n : Nat) (f : FuncId) (pres : List Code) (r3 : Code) (ix : List Nat) (g : Operand) (ps : Array Nat) (a c post : Code) (args : List SV) (sh : SH) : DT (Option (SV × SH)) := (seFnR P (se P C n) f pres r3 ix g ps a c post (openL args) sh.opened).map (canonR sh.nm)
theorem seCR_open (P : Program) (C : Cfg) (n : Nat) (f : FuncId) (pres : List Code) (r3 : Code) (ix : List Nat) (g : Operand) (ps : Array Nat) (a c post : Code) (args : List SV) (sh : SH) : seCR P C n f pres r3 ix g ps a c post args sh = seCR P C n f pres r3 ix g ps a c post (openL args) sh.opened := by
  unfold seCR; rw [openL_openL, SH.opened_opened]; rfl
theorem specR_ok {C : Cfg} {d : Nat} (hC : CfgOk P C) {s0 : Spec} {pres : List Code} {r3 : Code} {ix : List Nat} {g : Operand} {ps : Array Nat} {a c post : Code}
    (hb : ∀ fn, P.funcs[f]? = some fn → fn.body = some (nest r3 id g ps a c post pres))
    (hs : ∀ n args sh r, (s0 args sh).val = some r → ∃ r1, (seCR P C (n + d) f pres r3 ix g ps a c post args sh).val = some (some r1) ∧ Opn r1 r) : SpecOk P f (d + 1) s0 := by
  intro n hn args sh v sh' hv κ h as0 st ha
  cases n with
  | zero => omega
  | succ n =>
    obtain ⟨r1, h1, h2⟩ := hs (n - d) args sh (v, sh') hv
    rw [Nat.sub_add_cancel (by omega)] at h1
    obtain ⟨r0, h3, h4⟩ := map_some h1
    obtain ⟨h5, h6⟩ := canonR_some h4
    rw [Bool.and_eq_true] at h6
    have hg := fnR_ok (f := f) (id := id) (v := r0.1) (sh' := r0.2) (se_ok hC n) hb h3 (opened_st st) (by rw [openL_den]; exact ha)
    rw [run_call]
    exact good_opn h2 (opened_good (good_pull (opened_st st) h5 h6.1 h6.2 hg))
/-- the pieces of such a body -/
def rgPres : Nat → Code → List Code
  | n + 1, .seq a b => a :: rgPres n b
  | _, _ => []
def rgRest : Nat → Code → Code
  | n + 1, .seq a b => rgRest n b
  | _, c => c
def rgR3 (c : Code) : Code := match c with | .seq (.seq r3 _) _ => r3 | _ => .skip
def rgPost (c : Code) : Code := match c with | .seq _ p => p | _ => .skip
def rgG (c : Code) : Operand := match c with | .seq (.seq _ (.block _ (.rangeFunc g _ _ _))) _ => g | _ => .tmp 0
def rgPs (c : Code) : Array Nat := match c with | .seq (.seq _ (.block _ (.rangeFunc _ ps _ _))) _ => ps | _ => #[]
def rgA (c : Code) : Code := match c with | .seq (.seq _ (.block _ (.rangeFunc _ _ a _))) _ => a | _ => .skip
def rgC (c : Code) : Code := match c with | .seq (.seq _ (.block _ (.rangeFunc _ _ _ c))) _ => c | _ => .skip
end
end
end Go.Proofs.YtgemonlknehegaaGreatDoor.AI
