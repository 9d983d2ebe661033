/- The chain of TopRefuses, part 29. -/
import Derived.Test.YtgemonlknehegaaGreatDoorK28
namespace Go.Proofs.YtgemonlknehegaaGreatDoor.AI
open Go
set_option linter.unusedVariables false
set_option linter.unusedSimpArgs false
def blocksOf : Code → List (Nat × Code)
  | .seq a b => blocksOf a ++ blocksOf b
  | .cond _ a b => blocksOf a ++ blocksOf b
  | .block id c => (id, c) :: blocksOf c
  | .loop c => blocksOf c
  | _ => []
def EPost (κ : Kp) (sh : SH) (h : H) (o3 : E3) (ms : List Pos) (o : EO) : Prop := o.e = o3.e ∧ o.ms = ms ∧ ∃ κ', TRel κ' o3.t o.t ∧ St κ' o3.h o.h ∧ Fr κ sh h κ' o3.h o.h
def EGood (κ : Kp) (sh : SH) (h : H) (o3 : E3) (ms : List Pos) (rs : List EO) : Prop := rs ≠ [] ∧ ∀ o ∈ rs, EPost κ sh h o3 ms o
def BlkOk (P : Program) (f : FuncId) (nt : Nat) (rec : Rec) (id : Nat) (c : Code) (f3 : S3 → DT E3) : Prop :=
  ∀ (s : S3) (o3 : E3) (κ : Kp) (t : Tm) (h : H) (ms : List Pos), (f3 s).val = some o3 → TRel κ s.t t → St κ s.h h → EGood κ s.h h o3 ms ((compileCode P f nt false (.block id c)).run rec t ms h)
section
variable {P : Program} {f : FuncId} {nt : Nat} {rec3 : R3} {rec : Rec} {lp : L3} {κ : Kp} {sh : SH} {h : H}
theorem EGood.one {o3 : E3} {ms : List Pos} {o : EO} (hp : EPost κ sh h o3 ms o) : EGood κ sh h o3 ms [o] := ⟨by simp, fun o' ho => by rw [List.mem_singleton.1 ho]; exact hp⟩
theorem E3.then_cases (o : E3) (k : S3 → DT E3) : (o.e = .normal ∧ o.then k = k ⟨o.t, o.h⟩) ∨ (o.e ≠ .normal ∧ o.then k = .leaf o) := by
  obtain ⟨e, t, h⟩ := o
  cases e with
  | normal => exact .inl ⟨rfl, rfl⟩
  | exit i => exact .inr ⟨by simp, rfl⟩
  | ret => exact .inr ⟨by simp, rfl⟩
/-- on with what comes behind -/
theorem then_ok {o3 o3' : E3} {k3 : S3 → DT E3} {k : Tm → List Pos → H → List EO} {ms : List Pos} {o : EO} (hp : EPost κ sh h o3 ms o) (hv : (o3.then k3).val = some o3')
    (hk : ∀ κ' t h', TRel κ' o3.t t → St κ' o3.h h' → (k3 ⟨o3.t, o3.h⟩).val = some o3' → EGood κ' o3.h h' o3' ms (k t ms h')) : EGood κ sh h o3' ms (o.andThen k) := by
  obtain ⟨e1, e2, κ', ht, hs, hf⟩ := hp
  rcases E3.then_cases o3 k3 with ⟨n, e3⟩ | ⟨n, e3⟩
  · rw [e3] at hv
    rcases andThen_cases o k with ⟨_, e4⟩ | ⟨n', _⟩
    · rw [e4, e2]
      obtain ⟨g1, g2⟩ := hk κ' o.t o.h ht hs hv
      refine ⟨g1, fun x hx => ?_⟩
      obtain ⟨a, b, κ'', c, d, e⟩ := g2 x hx
      exact ⟨a, b, κ'', c, d, hf.trans e⟩
    · exact absurd (e1.trans n) n'
  · rw [e3] at hv
    cases leaf_some hv
    rcases andThen_cases o k with ⟨n', _⟩ | ⟨_, e4⟩
    · exact absurd (e1 ▸ n') n
    · rw [e4]; exact EGood.one ⟨e1, e2, κ', ht, hs, hf⟩
theorem unroll_ok {c3 : S3 → DT E3} {r : Rec → Tm → List Pos → H → List EO} (hc : ∀ (s : S3) (o3 : E3) (κ : Kp) (t : Tm) (h : H) (ms : List Pos), (c3 s).val = some o3 → TRel κ s.t t → St κ s.h h → EGood κ s.h h o3 ms (r rec t ms h)) :
    ∀ (n m : Nat) (s : S3) (o3 : E3) (κ : Kp) (t : Tm) (h : H) (ms : List Pos), n ≤ m → (unroll c3 n s).val = some o3 → TRel κ s.t t → St κ s.h h → EGood κ s.h h o3 ms (runLoop r rec m t ms h)
  | 0, _, _, _, _, _, _, _, _, hv, _, _ => by cases hv
  | n + 1, 0, _, _, _, _, _, _, hle, _, _, _ => by omega
  | n + 1, m + 1, s, o3, κ, t, h, ms, hle, hv, ht, st => by
    obtain ⟨o, h1, h2⟩ := bind_some (show ((c3 s).bind fun o => o.then (unroll c3 n)).val = some o3 from hv)
    obtain ⟨g1, g2⟩ := hc s o κ t h ms h1 ht st
    show EGood κ s.h h o3 ms (bindO (r rec t ms h) fun o => o.andThen (runLoop r rec m))
    refine bindO_good g1 fun x hx => ?_
    exact then_ok (g2 x hx) h2 fun κ' t' h' ht' st' hv' => unroll_ok hc n m ⟨o.t, o.h⟩ o3 κ' t' h' ms (by omega) hv' ht' st'
attribute [local irreducible] loopFuel
theorem loopFuel_le : 32 ≤ loopFuel := by unfold loopFuel; omega
theorem seCode_ok (hr : RecRel rec3 rec) : ∀ (c : Code), (∀ id f3 c', lp id = some f3 → (id, c') ∈ blocksOf c → BlkOk P f nt rec id c' f3) → ∀ (s : S3) (o3 : E3) (κ : Kp) (t : Tm) (h : H) (ms : List Pos), (seCode P nt lp rec3 c s).val = some o3 → TRel κ s.t t → St κ s.h h → EGood κ s.h h o3 ms ((compileCode P f nt false c).run rec t ms h)
  | .skip, _, s, o3, κ, t, h, ms, hv, ht, st => by cases leaf_some hv; exact EGood.one ⟨rfl, rfl, κ, ht, st, Fr.refl st⟩
  | .exit id, _, s, o3, κ, t, h, ms, hv, ht, st => by cases leaf_some hv; exact EGood.one ⟨rfl, rfl, κ, ht, st, Fr.refl st⟩
  | .ret, _, s, o3, κ, t, h, ms, hv, ht, st => by cases leaf_some hv; exact EGood.one ⟨rfl, rfl, κ, ht, st, Fr.refl st⟩
  | .region id ops false, _, s, o3, κ, t, h, ms, hv, ht, st => by
    obtain ⟨s', h1, h2⟩ := bind_some (show ((seItems P nt ops rec3 ops.toList s).bind fun r => .leaf (⟨.normal, r.t, r.h⟩ : E3)).val = some o3 from hv)
    cases leaf_some h2
    obtain ⟨g1, g2⟩ := seItems_ok hr h1 ht st (Fr.refl st)
    show EGood κ s.h h _ ms (bindO (runItems rec (compileItems P nt ops ops.toList) t h) fun r => [⟨.normal, r.t, ms, r.h⟩])
    refine bindO_good g1 fun r hm => EGood.one ?_
    obtain ⟨κ', a, b, c⟩ := g2 r hm
    exact ⟨rfl, rfl, κ', a, b, c⟩
  | .region id ops true, _, s, o3, κ, t, h, ms, hv, ht, st => by
    have hv' : (match (plan P nt ops).bind (withOps P nt ops) with
      | some pl => (sePlan rec3 pl ⟨[], [], s.t, s.h⟩).bind fun r => .leaf (⟨.normal, r.t, r.h⟩ : E3)
      | none => .fail).val = some o3 := hv
    split at hv'
    · rename_i pl3 hpl
      cases hp : plan P nt ops with
      | none => rw [hp] at hpl; cases hpl
      | some pl =>
        rw [hp] at hpl
        have hw : withOps P nt ops pl = some pl3 := hpl
        obtain ⟨all, hok⟩ := plan_ok hp
        have ho := withOps_ok hw fun p hm => by
          obtain ⟨o, e1, _, _, e2⟩ := hok.items.item p (hok.mem p hm)
          exact ⟨o, e1, e2⟩
        obtain ⟨s', h1, h2⟩ := bind_some hv'
        cases leaf_some h2
        obtain ⟨g1, g2⟩ := sePlan_ok hr ho h1 ht st (Fr.refl st) KRel.nil PRel.nil
        show EGood κ s.h h _ ms (liftO (plan P nt ops) fun pl => bindO (runPlan rec pl [] [] t h) fun r => [⟨.normal, r.t, ms, r.h⟩])
        rw [hp]
        refine bindO_good g1 fun r hm => EGood.one ?_
        obtain ⟨κ', a, b, c⟩ := g2 r hm
        exact ⟨rfl, rfl, κ', a, b, c⟩
    · cases hv'
  | .seq a b, hl, s, o3, κ, t, h, ms, hv, ht, st => by
    obtain ⟨o, h1, h2⟩ := bind_some (show ((seCode P nt lp rec3 a s).bind fun o => o.then (seCode P nt lp rec3 b)).val = some o3 from hv)
    obtain ⟨g1, g2⟩ := seCode_ok hr a (fun id f3 c' e1 e2 => hl id f3 c' e1 (List.mem_append_left _ e2)) s o κ t h ms h1 ht st
    show EGood κ s.h h o3 ms (bindO ((compileCode P f nt false a).run rec t ms h) fun o => o.andThen ((compileCode P f nt false b).run rec))
    refine bindO_good g1 fun x hx => ?_
    exact then_ok (g2 x hx) h2 fun κ' t' h' ht' st' hv' => seCode_ok hr b (fun id f3 c' e1 e2 => hl id f3 c' e1 (List.mem_append_right _ e2)) ⟨o.t, o.h⟩ o3 κ' t' h' ms hv' ht' st'
  | .cond c a b, hl, s, o3, κ, t, h, ms, hv, ht, st => by
    have ha := seCode_ok hr a (fun id f3 c' e1 e2 => hl id f3 c' e1 (List.mem_append_left _ e2))
    have hb := seCode_ok hr b (fun id f3 c' e1 e2 => hl id f3 c' e1 (List.mem_append_right _ e2))
    have hv' : (match opd3 c s.t with
    | some (.b o x) => (match o with
      | false => (match x with | true => seCode P nt lp rec3 a s | false => seCode P nt lp rec3 b s)
      | true => .node x (seCode P nt lp rec3 a ⟨setTmp c s.t true, s.h⟩) (seCode P nt lp rec3 b ⟨setTmp c s.t false, s.h⟩))
    | _ => .fail).val = some o3 := hv
    show EGood κ s.h h o3 ms ((opd c t).onBool [] fun r => pick r ((compileCode P f nt false a).run rec t ms h) ((compileCode P f nt false b).run rec t ms h))
    cases hc : opd3 c s.t with
    | none => rw [hc] at hv'; cases hv'
    | some w =>
      rw [hc] at hv'
      cases w with
      | b o x =>
        have hd := sden_b (opd3_ok ht hc)
        rw [hd]
        have hset : TRel κ (setTmp c s.t x) t := by
          cases c with
          | tmp i => exact ht.again _ (show s.t.get (posOf i) = some (.b o x) from hc) rfl rfl
          | _ => exact ht
        cases o
        · cases x
          · exact hb s o3 κ t h ms hv' ht st
          · exact ha s o3 κ t h ms hv' ht st
        · rcases node_some hv' with ⟨e, hw⟩ | ⟨e, hw⟩
          · subst e; exact ha ⟨setTmp c s.t true, s.h⟩ o3 κ t h ms hw hset st
          · subst e; exact hb ⟨setTmp c s.t false, s.h⟩ o3 κ t h ms hw hset st
      | _ => cases hv'
  | .block id c, hl, s, o3, κ, t, h, ms, hv, ht, st => by
    have hv' : (match lp id with
      | some f => f s
      | none => (seCode P nt lp rec3 c s).bind fun o => .leaf (blkEnd id o)).val = some o3 := hv
    split at hv'
    · rename_i f3 hf
      exact hl id f3 c hf (List.mem_cons_self ..) s o3 κ t h ms hv' ht st
    · obtain ⟨o, h1, h2⟩ := bind_some hv'
      cases leaf_some h2
      obtain ⟨g1, g2⟩ := seCode_ok hr c (fun id f3 c' e1 e2 => hl id f3 c' e1 (List.mem_cons_of_mem _ e2)) s o κ t h ms h1 ht st
      show EGood κ s.h h (blkEnd id o) ms (bindO ((compileCode P f nt false c).run rec t ms h) fun o => o.e.on [o] (fun id' => pick (Nat.beq id' id) [⟨.normal, o.t, o.ms, o.h⟩] [o]) [o])
      refine bindO_good g1 fun x hx => ?_
      obtain ⟨e1, e2, κ', a, b, c⟩ := g2 x hx
      obtain ⟨xe, xt, xms, xh⟩ := x
      obtain ⟨oe, ot, oh⟩ := o
      simp only at e1 e2
      subst e1
      cases xe with
      | normal => exact EGood.one ⟨rfl, e2, κ', a, b, c⟩
      | ret => exact EGood.one ⟨rfl, e2, κ', a, b, c⟩
      | exit i =>
        show EGood κ s.h h (match Nat.beq i id with | true => ⟨.normal, ot, oh⟩ | false => ⟨.exit i, ot, oh⟩) ms (pick (Nat.beq i id) [⟨.normal, xt, xms, xh⟩] [⟨.exit i, xt, xms, xh⟩])
        cases Nat.beq i id with
        | true => exact EGood.one ⟨rfl, e2, κ', a, b, c⟩
        | false => exact EGood.one ⟨rfl, e2, κ', a, b, c⟩
  | .loop c, hl, s, o3, κ, t, h, ms, hv, ht, st => by
    have := unroll_ok (rec := rec) (r := (compileCode P f nt false c).run) (c3 := seCode P nt lp rec3 c) (fun s o3 κ t h ms => seCode_ok hr c hl s o3 κ t h ms) 32 loopFuel s o3 κ t h ms loopFuel_le hv ht st
    exact this
  | .rangeFunc _ _ _ _, _, _, _, _, _, _, _, hv, _, _ => by cases hv
  | .goto _, _, _, _, _, _, _, _, hv, _, _ => by cases hv
  | .label _, _, _, _, _, _, _, _, hv, _, _ => by cases hv
  | .scope _, _, _, _, _, _, _, _, hv, _, _ => by cases hv
  | .refuse _, _, _, _, _, _, _, _, hv, _, _ => by cases hv
theorem initT3_ok : ∀ {vs : List SV} {as : List AV} {i : Nat} {t3 : T3} {t : Tm}, sdenL κ vs = some as → TRel κ t3 t → TRel κ (initT3 vs i t3) (initTm as i t)
  | [], as, i, t3, t, h, ht => by rw [sdenL_nil.1 h]; exact ht
  | v :: l, as, i, t3, t, h, ht => by
    obtain ⟨a, s, h1, h2, rfl⟩ := sdenL_cons.1 h
    show TRel κ (initT3 l (Nat.succ i) (t3.set (posOf i) v)) (initTm s (Nat.succ i) (t.set (posOf i) a))
    exact initT3_ok h2 (ht.set _ h1)
theorem TRel.leaf : TRel κ .leaf .leaf := fun p v h => by cases h
theorem res3_ok {r : ResultVar} {t3 : T3} {t : Tm} {v : SV} (hv : (res3 P r t3 sh).val = some v) (ht : TRel κ t3 t) (st : St κ sh h) : ∃ a, (compileRes P r).get t h = some a ∧ sden κ v = some a := by
  cases r with
  | tmp i =>
    have := ofOpt_some hv
    obtain ⟨a, h1, h2⟩ := ht _ _ this
    refine ⟨a, ?_, h1⟩
    show some (tget t i) = _
    unfold tget
    rw [h2]
  | cell i ty =>
    have hv' : (match P.underlying ty, sizeOfT P ty, t3.get (posOf i) with
    | some d, some sz, some p => sLoad (isAggD d) sz p sh
    | _, _, _ => .fail).val = some v := hv
    split at hv'
    · rename_i d sz p h1 h2 h3
      obtain ⟨a, k1, k2⟩ := ht _ _ h3
      have hg : tget t i = a := by unfold tget; rw [k2]
      obtain ⟨av, e1, e2⟩ := sLoad_ok hv' st k1
      refine ⟨av, ?_, e2⟩
      show (match P.underlying ty, sizeOfT P ty with
        | some d, some sz => match isAggD d with
          | true => (⟨fun t h => hloadA h sz (tget t i)⟩ : ARes)
          | false => ⟨fun t h => hloadC h (tget t i)⟩
        | _, _ => ⟨fun _ _ => none⟩).get t h = _
      rw [h1, h2]
      simp only
      cases hd : isAggD d with
      | true => rw [hd] at e1; show hloadA h sz (tget t i) = _; rw [hg]; exact e1
      | false => rw [hd] at e1; show hloadC h (tget t i) = _; rw [hg]; exact e1
    · cases hv'
theorem resAll3_ok : ∀ {rs : List ResultVar} {t3 : T3} {t : Tm} {vs : List SV}, (resAll3 P sh t3 rs).val = some vs → TRel κ t3 t → St κ sh h → ∃ as, resAll P h t rs = some as ∧ sdenL κ vs = some as
  | [], t3, t, vs, hv, ht, st => by cases leaf_some hv; exact ⟨[], rfl, rfl⟩
  | r :: rs, t3, t, vs, hv, ht, st => by
    obtain ⟨v, h1, h2⟩ := bind_some (show ((res3 P r t3 sh).bind fun v => (resAll3 P sh t3 rs).bind fun vs => .leaf (v :: vs)).val = some vs from hv)
    obtain ⟨ws, h3, h4⟩ := bind_some h2
    cases leaf_some h4
    obtain ⟨a, e1, e2⟩ := res3_ok h1 ht st
    obtain ⟨as, e3, e4⟩ := resAll3_ok h3 ht st
    refine ⟨a :: as, ?_, sdenL_cons.2 ⟨a, as, e2, e4, rfl⟩⟩
    show bindS ((compileRes P r).get t h) (fun v => bindS (resAll P h t rs) fun vs => some (v :: vs)) = _
    rw [e1]
    show bindS (resAll P h t rs) _ = _
    rw [e3]; rfl
theorem tupled3_ok {vs : List SV} {as : List AV} (h : sdenL κ vs = some as) : sden κ (tupled3 vs) = some (tupled as) := by
  cases vs with
  | nil => rw [sdenL_nil.1 h]; rfl
  | cons v l =>
    obtain ⟨a, s, h1, h2, rfl⟩ := sdenL_cons.1 h
    cases l with
    | nil => rw [sdenL_nil.1 h2]; exact h1
    | cons w l =>
      obtain ⟨b, r, h3, h4, rfl⟩ := sdenL_cons.1 h2
      show sden κ (.tuple (v :: w :: l)) = some (.tuple (a :: b :: r))
      simp only [sden, h]
theorem seFn_ok {lps : FuncId → L3} (hr : RecRel rec3 rec) {args : List SV} {sh' : SH} {v : SV} (hl : ∀ fn c, P.funcs[f]? = some fn → fn.body = some c → ∀ id f3 c', lps f id = some f3 → (id, c') ∈ blocksOf c → BlkOk P f fn.ntmps rec id c' f3)
    (hv : (seFn P lps rec3 f args sh).val = some (v, sh')) {as : List AV} (st : St κ sh h) (ha : sdenL κ args = some as) : Good κ sh h v sh' ((compileFn P f).run rec as h) := by
  unfold seFn at hv
  unfold compileFn
  cases hf : P.funcs[f]? with
  | none => rw [hf] at hv; cases hv
  | some fn =>
    rw [hf] at hv
    simp only at hv ⊢
    cases hb : fn.body with
    | none => rw [hb] at hv; cases hv
    | some c =>
      rw [hb] at hv
      simp only at hv ⊢
      split at hv
      · rename_i hle
        obtain ⟨o, h1, h2⟩ := bind_some hv
        have hle' : Nat.ble (llen as) fn.ntmps = true := by rw [llen_eq, sdenL_length ha, ← llen_eq]; exact hle
        rw [hle']
        obtain ⟨g1, g2⟩ := seCode_ok (f := f) hr c (hl fn c hf hb) _ o κ _ h [] h1 (initT3_ok (i := 0) ha TRel.leaf) st
        show Good κ sh h v sh' (bindO ((compileCode P f fn.ntmps false c).run rec (initTm as 0 .leaf) [] h) fun o => finish P fn.results.toList o)
        refine bindO_good g1 fun x hx => ?_
        obtain ⟨e1, e2, κ', a, b, c'⟩ := g2 x hx
        have key : ((resAll3 P o.h o.t fn.results.toList).bind fun vs => .leaf (tupled3 vs, o.h)).val = some (v, sh') → finish P fn.results.toList x = liftO (resAll P x.h x.t fn.results.toList) (fun vs => [⟨tupled vs, x.h⟩]) → Good κ sh h v sh' (finish P fn.results.toList x) := fun hk hfin => by
          obtain ⟨vs, k1, k2⟩ := bind_some hk
          cases leaf_some k2
          obtain ⟨as', k3, k4⟩ := resAll3_ok k1 a b
          rw [hfin, k3]
          exact Good.one ⟨κ', tupled3_ok k4, b, c'⟩
        obtain ⟨xe, xt, xms, xh⟩ := x
        obtain ⟨oe, ot, oh⟩ := o
        simp only at e1 e2
        subst e1; subst e2
        cases xe with
        | normal => exact key h2 rfl
        | ret => exact key h2 rfl
        | exit i => cases h2
      · cases hv
theorem mkT3_ok {t : Tm} : ∀ {l : List Nat} {vs : List SV} {as : List AV}, getTm t l = some as → sdenL κ vs = some as → TRel κ (mkT3 l vs) t
  | [], vs, as, hg, hd => by cases vs <;> exact fun p v h => by cases h
  | i :: l, [], as, hg, hd => fun p v h => by cases h
  | i :: l, w :: vs, as, hg, hd => by
    obtain ⟨a, s, h1, h2, rfl⟩ := sdenL_cons.1 hd
    unfold getTm at hg
    split at hg
    · rename_i b r e1 e2
      cases hg
      intro q v hq
      rw [show mkT3 (i :: l) (w :: vs) = (mkT3 l vs).set (posOf i) w from rfl, T.get_set] at hq
      by_cases e : q = posOf i
      · rw [if_pos e] at hq; cases hq
        exact ⟨a, h1, by rw [e]; exact e1⟩
      · rw [if_neg e] at hq
        exact mkT3_ok e2 h2 q v hq
    · cases hg
/-! ### Rounds -/
theorem St.drop {x : Nat} (s : St κ sh h) : St κ (sh.del x) h ∧ Fr κ sh h κ (sh.del x) h := by
  have hget : ∀ y o', (sh.del x).get y = some o' → y ≠ x ∧ sh.get y = some o' := fun y o' hy => by
    rw [get_del] at hy
    by_cases e : y = x
    · rw [if_pos e] at hy; cases hy
    · rw [if_neg e] at hy; exact ⟨e, hy⟩
  exact ⟨⟨fun y o hy => s.rel y o (hget y o hy).2, s.inj, s.fresh, s.low, fun y o hy => s.bnd y o (hget y o hy).2⟩, ⟨Kp.le_refl κ, Nat.le_refl _, Nat.le_refl _, fun _ _ _ => rfl, fun _ _ => rfl, fun y o hy _ => ⟨o, (hget y o hy).2⟩, fun y p hy hp => by rw [s.fresh y hy] at hp; cases hp⟩⟩
theorem St.other (s : St κ sh h) {p : Pos} {ao : AObj} (hp : ∀ y o, sh.get y = some o → κ y ≠ some p) : St κ sh (h.set p ao) :=
  ⟨fun y o hy => by
    obtain ⟨q, ao', h1, h2, h3⟩ := s.rel y o hy
    refine ⟨q, ao', h1, ?_, h3⟩
    rw [hget_set, if_neg (fun e => hp y o hy (by rw [h1, e]))]; exact h2, s.inj, s.fresh, s.low, s.bnd⟩
theorem compile_noRange : ∀ {c : Code}, noRange c = true → compileCode P f nt true c = compileCode P f nt false c
  | .seq a b, h => by
    rw [show noRange (.seq a b) = (noRange a && noRange b) from rfl, Bool.and_eq_true] at h
    unfold compileCode
    rw [compile_noRange h.1, compile_noRange h.2]
  | .cond _ a b, h => by
    rw [show noRange (.cond _ a b) = (noRange a && noRange b) from rfl, Bool.and_eq_true] at h
    unfold compileCode
    rw [compile_noRange h.1, compile_noRange h.2]
  | .block _ c, h => by
    unfold compileCode
    rw [compile_noRange (c := c) h]
  | .loop c, h => by
    unfold compileCode
    rw [compile_noRange (c := c) h]
  | .rangeFunc _ _ _ _, h => by cases h
  | .skip, _ | .region _ _ _, _ | .exit _, _ | .ret, _ | .goto _, _ | .label _, _ | .scope _, _ | .refuse _, _ => by unfold compileCode; rfl
theorem setPs_ok : ∀ {ps : List Nat} {vs : List SV} {as : List AV} {t3 t3' : T3} {t : Tm}, setPs ps vs t3 = some t3' → TRel κ t3 t → sdenL κ vs = some as → ∃ t', setParams ps as t = some t' ∧ TRel κ t3' t'
  | [], [], as, t3, t3', t, h, ht, ha => by cases h; rw [sdenL_nil.1 ha]; exact ⟨t, rfl, ht⟩
  | p :: ps, v :: vs, as, t3, t3', t, h, ht, ha => by
    obtain ⟨a, s, h1, h2, rfl⟩ := sdenL_cons.1 ha
    exact setPs_ok (ps := ps) (vs := vs) h (ht.set _ h1) h2
  | [], _ :: _, _, _, _, _, h, _, _ => by cases h
  | _ :: _, [], _, _, _, _, h, _, _ => by cases h
theorem seRound_ok (hr : RecRel rec3 rec) {args : List SV} {v : SV} {sh' : SH} (hv : (seRound P rec3 args sh).val = some (v, sh')) {as : List AV} (st : St κ sh h) (ha : sdenL κ args = some as) : ∃ b l, as = .yield b :: l ∧ Good κ sh h v sh' (runRound P rec b l h) := by
  unfold seRound at hv
  split at hv
  · rename_i x vs
    obtain ⟨a0, l, h1, h2, rfl⟩ := sdenL_cons.1 ha
    split at hv
    · rename_i g ix ts ps ca cc hg
      obtain ⟨p, ao, hx, hp, tm, d, bs, rfl, hts, hden⟩ := st.rel x _ hg
      have ea : a0 = .yield p := by simp [sden, hx] at h1; exact h1.symm
      subst ea
      refine ⟨p, l, rfl, ?_⟩
      split at hv
      · rename_i t3 hchk hset
        rw [Bool.and_eq_true, Bool.and_eq_true] at hchk
        obtain ⟨t, e1, e2⟩ := setPs_ok hset (mkT3_ok hts hden) h2
        obtain ⟨o3, k1, k2⟩ := bind_some hv
        obtain ⟨sd, fd⟩ := st.drop (x := x)
        have hlowp := st.low x p hx
        have hxn := st.bnd x _ hg
        have nk : ∀ y o, (sh.del x).get y = some o → κ y ≠ some p := fun y o hy he => by
          have := st.inj y x p he hx
          rw [get_del, if_pos this] at hy; cases hy
        unfold runRound
        rw [hp]
        simp only
        rw [e1]
        show Good κ sh h v sh' (whenL (lall (fun p => Nat.blt p (ntOf P g)) ps) (bindO ((compileCode P g (ntOf P g) true ca).run rec t [] h) fun o => roundBody P rec p g cc o))
        rw [hchk.2]
        show Good κ sh h v sh' (bindO ((compileCode P g (ntOf P g) true ca).run rec t [] h) fun o => roundBody P rec p g cc o)
        rw [compile_noRange hchk.1.1]
        split at k2
        · rename_i hn
          obtain ⟨g1, g2⟩ := seCode_ok (f := g) hr ca (fun _ _ _ e => by cases e) _ o3 κ t h [] k1 e2 sd
          refine bindO_good g1 fun o ho => ?_
          obtain ⟨i1, i2, κ1, i3, i4, i5⟩ := g2 o ho
          obtain ⟨o4, m1, m2⟩ := bind_some k2
          obtain ⟨oe, ot, oms, oh⟩ := o
          simp only at i1 i2 i3 i4 i5
          rw [hn] at i1
          subst i1
          have hp1 : oh.objs.get p = some (.loop .ready none g tm ps ca cc d) := by rw [i5.kept p hlowp nk]; exact hp
          have nk1 : ∀ y o, o3.h.get y = some o → κ1 y ≠ some p := fun y o hy he => by
            by_cases hl : y < (sh.del x).nm
            · obtain ⟨o0, h0⟩ := i5.sub y o hy hl
              rw [i5.old y hl] at he
              exact nk y o0 h0 he
            · have := i5.new y p (by omega) he; omega
          have hlow1 : p.toNat < oh.next.toNat := by have := i5.next; omega
          have body : ∀ hb : H, hb = oh.set p (.loop .busy none g tm ps ca cc d) → Good κ sh h v sh' (bindO ((compileCode P g (ntOf P g) true cc).run rec ot oms hb) fun o => o.e.on
                  (liftO (setLoop o.h p .ready none) fun h => [(⟨.bool true, h⟩ : VR)])
                  (fun id => liftO (setLoop o.h p .done (some (.exit id))) fun h => [(⟨.bool false, h⟩ : VR)])
                  (liftO (setLoop o.h p .done (some .ret)) fun h => [(⟨.bool false, h⟩ : VR)])) := fun hb ehb => by
            rw [compile_noRange hchk.1.2]
            have sb : St κ1 o3.h hb := by rw [ehb]; exact i4.other nk1
            split at m2
            · rename_i hn4
              obtain ⟨g3, g4⟩ := seCode_ok (f := g) hr cc (fun _ _ _ e => by cases e) _ o4 κ1 ot hb oms m1 i3 sb
              refine bindO_good g3 fun z hz => ?_
              obtain ⟨j1, j2, κ2, j3, j4, j5⟩ := g4 z hz
              obtain ⟨ze, zt, zms, zh⟩ := z
              simp only at j1 j2 j3 j4 j5
              rw [hn4] at j1
              subst j1
              have hnext : hb.next = oh.next := by rw [ehb]; rfl
              have hpb : zh.objs.get p = some (.loop .busy none g tm ps ca cc d) := by
                rw [j5.kept p (by rw [hnext]; exact hlow1) nk1, ehb, hget_set, if_pos rfl]
              show Good κ sh h v sh' (liftO (setLoop zh p .ready none) fun h => [(⟨.bool true, h⟩ : VR)])
              have es : setLoop zh p .ready none = some (zh.set p (.loop .ready none g tm ps ca cc d)) := by unfold setLoop; rw [hpb]
              rw [es]
              cases leaf_some m2
              have nk2 : ∀ y o, o4.h.get y = some o → κ2 y ≠ some p := fun y o hy he => by
                by_cases hl : y < o3.h.nm
                · obtain ⟨o0, h0⟩ := j5.sub y o hy hl
                  rw [j5.old y hl] at he
                  exact nk1 y o0 h0 he
                · have := j5.new y p (by omega) he; rw [hnext] at this; omega
              have s2 : St κ2 o4.h (zh.set p (.loop .ready none g tm ps ca cc d)) := j4.other nk2
              have f2 : Fr κ1 o3.h oh κ2 o4.h (zh.set p (.loop .ready none g tm ps ca cc d)) := by
                refine ⟨j5.le, j5.nm, by have := j5.next; rw [hnext] at this; exact this, fun q hq hk => ?_, j5.old, j5.sub, fun y q hy hq => by have := j5.new y q hy hq; rw [hnext] at this; exact this⟩
                rw [hget_set]
                by_cases e : q = p
                · rw [if_pos e, e]; exact hp1.symm
                · rw [if_neg e, j5.kept q (by rw [hnext]; exact hq) hk, ehb, hget_set, if_neg e]
              have f3 := i5.trans f2
              have hle : κ.le κ2 := f3.le
              have hnm : sh.nm ≤ o4.h.nm := f3.nm
              refine Good.one ⟨κ2, rfl, ⟨fun y o hy => ?_, s2.inj, s2.fresh, s2.low, fun y o hy => ?_⟩, ⟨hle, hnm, f3.next, fun q hq hk => f3.kept q hq fun y o hy he => ?_, f3.old, fun y o hy hl => ?_, f3.new⟩⟩
              · have hy' : (match Nat.beq x y with | true => some (SO.loop g ix ts ps ca cc) | false => oget o4.h.objs y) = some o := hy
                cases hb : Nat.beq x y with
                | true =>
                  rw [hb] at hy'
                  cases hy'
                  have := beq_iff.1 hb
                  subst this
                  exact ⟨p, _, hle _ _ hx, by rw [hget_set, if_pos rfl], tm, d, bs, rfl, hts, sdenL_mono hle hden⟩
                | false => rw [hb] at hy'; exact s2.rel y o hy'
              · have hy' : (match Nat.beq x y with | true => some (SO.loop g ix ts ps ca cc) | false => oget o4.h.objs y) = some o := hy
                cases hb : Nat.beq x y with
                | true => have := beq_iff.1 hb; subst this; exact Nat.lt_of_lt_of_le hxn hnm
                | false => rw [hb] at hy'; exact s2.bnd y o hy'
              · rw [get_del] at hy
                by_cases e : y = x
                · rw [if_pos e] at hy; cases hy
                · rw [if_neg e] at hy; exact hk y o hy he
              · have hy' : (match Nat.beq x y with | true => some (SO.loop g ix ts ps ca cc) | false => oget o4.h.objs y) = some o := hy
                cases hb : Nat.beq x y with
                | true => have := beq_iff.1 hb; subst this; exact ⟨_, hg⟩
                | false =>
                  rw [hb] at hy'
                  obtain ⟨o0, h0⟩ := f3.sub y o hy' hl
                  rw [get_del] at h0
                  by_cases e : y = x
                  · rw [if_pos e] at h0; cases h0
                  · rw [if_neg e] at h0; exact ⟨o0, h0⟩
            · cases m2
          have es : setLoop oh p .busy none = some (oh.set p (.loop .busy none g tm ps ca cc d)) := by unfold setLoop; rw [hp1]
          have hround : roundBody P rec p g cc ⟨.normal, ot, oms, oh⟩ = bindO ((compileCode P g (ntOf P g) true cc).run rec ot oms (oh.set p (.loop .busy none g tm ps ca cc d))) fun o => o.e.on
                  (liftO (setLoop o.h p .ready none) fun h => [(⟨.bool true, h⟩ : VR)])
                  (fun id => liftO (setLoop o.h p .done (some (.exit id))) fun h => [(⟨.bool false, h⟩ : VR)])
                  (liftO (setLoop o.h p .done (some .ret)) fun h => [(⟨.bool false, h⟩ : VR)]) := by
            unfold roundBody
            simp only [hp1]
            show whenL (isReady .ready) (liftO (setLoop oh p .busy none) _) = _
            rw [es]; rfl
          rw [hround]
          exact body _ rfl
        · cases k2
      · cases hv
    · cases hv
  · cases hv
/-! ### Contracts -/
def mg0 : Nat → Bool := fun _ => false
def SpecOk (P : Program) (f : FuncId) (d : Nat) (s : Spec) : Prop := ∀ n, d ≤ n → ∀ args sh v sh', (s args sh).val = some (v, sh') → ∀ κ h as, St κ sh h → sdenL κ args = some as → Good κ sh h v sh' (run P mg0 n (.call f as) h)
def LoopOk (P : Program) (f : FuncId) (id d : Nat) (s : S3 → DT E3) : Prop := ∀ n, d ≤ n → ∀ fn c, P.funcs[f]? = some fn → fn.body = some c → ∀ c', (id, c') ∈ blocksOf c → BlkOk P f fn.ntmps (run P mg0 n) id c' s
structure CfgOk (P : Program) (C : Cfg) : Prop where
  spec : ∀ f d s, C.spec f = some (d, s) → SpecOk P f d s
  loop : ∀ f id d s, C.loop f id = some (d, s) → LoopOk P f id d s
theorem run_call (P : Program) (n : Nat) (f : FuncId) (as : List AV) (h : H) : run P mg0 (n + 1) (.call f as) h = (compileFn P f).run (run P mg0 n) as h := rfl
theorem lp_ok {C : Cfg} (hC : CfgOk P C) {n : Nat} {f : FuncId} {fn : Func} {c : Code} (hf : P.funcs[f]? = some fn) (hb : fn.body = some c) : ∀ id f3 c', C.lp n f id = some f3 → (id, c') ∈ blocksOf c → BlkOk P f fn.ntmps (run P mg0 n) id c' f3 := by
  intro id f3 c' h1 h2
  unfold Cfg.lp at h1
  split at h1
  · rename_i d s hl
    split at h1
    · rename_i hd
      cases h1
      exact hC.loop f id d _ hl n (ble_iff.1 hd) fn c hf hb c' h2
    · cases h1
      exact fun s' o3 κ t h ms hv => by cases hv
  · cases h1
theorem se_ok {C : Cfg} (hC : CfgOk P C) : ∀ n, RecRel (se P C n) (run P mg0 n)
  | 0 => fun g args sh v sh' hv => by cases hv
  | n + 1 => fun g args sh v sh' hv κ h as st ha => by
    have hv' : (match Nat.beq g yieldF with
    | true => seRound P (se P C n) args sh
    | false => match C.spec g with
      | some (d, s) => (match Nat.ble d (Nat.succ n) with | true => s args sh | false => .fail)
      | none => seFn P (C.lp n) (se P C n) g args sh).val = some (v, sh') := hv
    split at hv'
    · rename_i hy
      obtain ⟨b, l, rfl, hg⟩ := seRound_ok (se_ok hC n) hv' st ha
      rw [beq_iff.1 hy, taskOf_round]
      exact hg
    · rename_i hy
      rw [taskOf_call hy]
      split at hv'
      · rename_i d s hs
        split at hv'
        · rename_i hd
          exact hC.spec g d s hs (n + 1) (ble_iff.1 hd) args sh v sh' hv' κ h as st ha
        · cases hv'
      · rw [run_call]
        exact seFn_ok (se_ok hC n) (fun fn c hf hb => lp_ok hC hf hb) hv' st ha
/-- a function's contract, out of its body -/
theorem spec_body {C : Cfg} (hC : CfgOk P C) {f : FuncId} {d : Nat} {s : Spec} (hs : ∀ n args sh v sh', d ≤ n → (s args sh).val = some (v, sh') → ∀ κ h as, St κ sh h → sdenL κ args = some as → ∃ args0 sh0 v0 sh0', (seFn P (C.lp n) (se P C n) f args0 sh0).val = some (v0, sh0') ∧ (∃ κ0, St κ0 sh0 h ∧ sdenL κ0 args0 = some as ∧ ∀ rs, Good κ0 sh0 h v0 sh0' rs → Good κ sh h v sh' rs)) : SpecOk P f (d + 1) s := by
  intro n hn args sh v sh' hv κ h as st ha
  cases n with
  | zero => omega
  | succ n =>
    obtain ⟨args0, sh0, v0, sh0', h1, κ0, h2, h3, h4⟩ := hs n args sh v sh' (by omega) hv κ h as st ha
    rw [run_call]
    exact h4 _ (seFn_ok (se_ok hC n) (fun fn c hf hb => lp_ok hC hf hb) h1 h2 h3)
end
end Go.Proofs.YtgemonlknehegaaGreatDoor.AI
