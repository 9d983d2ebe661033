/- The chain of TopRefuses, part 28. -/
import Derived.Test.YtgemonlknehegaaGreatDoorK27
import Derived.Test.YtgemonlknehegaaGreatDoorK12
namespace Go.Proofs.YtgemonlknehegaaGreatDoor.AI
open Go
set_option linter.unusedVariables false
set_option linter.unusedSimpArgs false
theorem bindO_good {α β : Type} {k : α → List β} {Q : β → Prop} : ∀ {l : List α}, l ≠ [] → (∀ a ∈ l, k a ≠ [] ∧ ∀ b ∈ k a, Q b) → bindO l k ≠ [] ∧ ∀ b ∈ bindO l k, Q b
  | [], h, _ => absurd rfl h
  | [a], _, h => by rw [bindO_one]; exact h a (List.mem_singleton.2 rfl)
  | a :: b :: l, _, h => by
    rw [bindO_more]
    obtain ⟨h1, h2⟩ := h a (List.mem_cons_self ..)
    obtain ⟨h3, h4⟩ := bindO_good (k := k) (l := b :: l) (by simp) (fun x hx => h x (List.mem_cons_of_mem _ hx))
    have hne : both (k a) (bindO (b :: l) k) ≠ [] := by
      cases hk : k a with
      | nil => exact absurd hk h1
      | cons x xs => cases hk2 : bindO (b :: l) k with
        | nil => exact absurd hk2 h3
        | cons y ys => simp [both]
    refine ⟨hne, fun x hx => ?_⟩
    rcases ((mem_both hne).2.2).1 hx with hx | hx
    · exact h2 x hx
    · exact h4 x hx
section
variable {κ κ0 : Kp} {sh sh0 : SH} {h h0 : H} {t3 : T3} {t : Tm} {P : Program} {nt : Nat} {ops : Array Oper} {rec3 : R3} {rec : Rec}
/-- outcomes of a region, measured from its beginning on -/
def TPost (κ0 : Kp) (sh0 : SH) (h0 : H) (s : S3) (r : TH) : Prop := ∃ κ', TRel κ' s.t r.t ∧ St κ' s.h r.h ∧ Fr κ0 sh0 h0 κ' s.h r.h
def TGood (κ0 : Kp) (sh0 : SH) (h0 : H) (s : S3) (rs : List TH) : Prop := rs ≠ [] ∧ ∀ r ∈ rs, TPost κ0 sh0 h0 s r
theorem onGuard_b (x : Bool) {β : Type} (d : β) (f : Bool → β) (g : List AV → β) : (AV.bool x).onGuard d f g = f x := rfl
theorem wanted3_ok {α : Type} {g : Option (Option Tmp × Bool)} {k : T3 → Bool → DT α} {r : α} (hv : (wanted3 t3 g k).val = some r) (ht : TRel κ t3 t) : ∃ w t', wantedA t g = some w ∧ TRel κ t' t ∧ (k t' w).val = some r := by
  cases g with
  | none => exact ⟨true, t3, rfl, ht, hv⟩
  | some g =>
    obtain ⟨d, b⟩ := g
    unfold wanted3 at hv
    simp only at hv
    cases d with
    | none => exact ⟨false, t3, rfl, ht, hv⟩
    | some d =>
      simp only at hv
      split at hv
      · rename_i o x hg
        obtain ⟨a, h1, h2⟩ := ht _ _ hg
        have ha := sden_b h1
        subst ha
        have hw : wantedA t (some (some d, b)) = some (beqv x b) := by
          show (Option.rec AV.undef (fun v => v) (t.get (posOf d)) : AV).onGuard none _ _ = _
          rw [h2]; rfl
        split at hv
        · exact ⟨_, t3, hw, ht, hv⟩
        · rcases node_some hv with ⟨e, hv⟩ | ⟨e, hv⟩
          · subst e; exact ⟨_, _, hw, ht.again _ hg rfl rfl, hv⟩
          · subst e; exact ⟨_, _, hw, ht.again _ hg rfl rfl, hv⟩
      · rename_i l hg
        obtain ⟨a, h1, h2⟩ := ht _ _ hg
        split at hv
        · obtain ⟨r', h3, rfl⟩ := sden_tuple h1
          rw [sdenL_nil.1 h3] at h2
          refine ⟨false, t3, ?_, ht, hv⟩
          show (Option.rec AV.undef (fun v => v) (t.get (posOf d)) : AV).onGuard none _ _ = _
          rw [h2]; rfl
        · cases hv
      · cases hv
theorem undef_den : sden κ SV.undef = some AV.undef := rfl
/-- one operation, and what comes behind -/
theorem stepOp_ok {op3 : SOp} {op : AOp} {dst : Option Tmp} (hop : OpRel op3 op) (hr : RecRel rec3 rec) {v : SV} {sh' : SH} {s' : S3} (hv : (op3.run rec3 t3 sh).val = some (v, sh')) (ht : TRel κ t3 t) (st : St κ sh h) (fr : Fr κ0 sh0 h0 κ sh h) {k : Tm → H → List TH}
    (hk : ∀ κ' t' h', TRel κ' (tput3 t3 dst v) t' → St κ' sh' h' → Fr κ0 sh0 h0 κ' sh' h' → TGood κ0 sh0 h0 s' (k t' h')) : TGood κ0 sh0 h0 s' ((stepOp dst op).run rec k t h) := by
  cases op3 with
  | bad => cases hv
  | pure f3 =>
    cases op with
    | pure f =>
      obtain ⟨w, h1, h2⟩ := bind_some hv
      cases leaf_some h2
      obtain ⟨av, e1, e2⟩ := hop κ t3 t v ht h1
      have := hk κ _ h (ht.put dst e2) st fr
      cases dst with
      | none => show TGood _ _ _ _ (Option.rec [] (fun _ => k t h) (f t)); rw [e1]; exact this
      | some d => show TGood _ _ _ _ (Option.rec [] (fun v => k (t.set (posOf d) v) h) (f t)); rw [e1]; exact this
    | _ => exact hop.elim
  | load f3 =>
    cases op with
    | load f =>
      obtain ⟨w, h1, h2⟩ := bind_some hv
      cases leaf_some h2
      obtain ⟨av, e1, e2⟩ := hop κ t3 t sh h v ht st h1
      have := hk κ _ h (ht.put dst e2) st fr
      cases dst with
      | none => show TGood _ _ _ _ (Option.rec [] (fun _ => k t h) (f t h)); rw [e1]; exact this
      | some d => show TGood _ _ _ _ (Option.rec [] (fun v => k (t.set (posOf d) v) h) (f t h)); rw [e1]; exact this
    | _ => exact hop.elim
  | alloc f3 =>
    cases op with
    | alloc f =>
      obtain ⟨⟨o, mk⟩, h1, h2⟩ := bind_some hv
      cases leaf_some h2
      obtain ⟨aa, e1, e2, e3⟩ := hop κ t3 t o mk ht h1
      obtain ⟨s1, f1⟩ := st.alloc e2
      have := hk _ _ _ ((ht.mono f1.le).put dst (e3 _ _ _ f1.le (Kp.upd_same _ _ _))) s1 (fr.trans f1)
      cases dst with
      | none => show TGood _ _ _ _ (Option.rec [] (fun a => k t (h.alloc a.obj)) (f t)); rw [e1]; exact this
      | some d => show TGood _ _ _ _ (Option.rec [] (fun a => k (t.set (posOf d) (a.val h.next)) (h.alloc a.obj)) (f t)); rw [e1]; exact this
    | _ => exact hop.elim
  | heavy f3 =>
    cases op with
    | heavy f =>
      obtain ⟨g1, g2⟩ := hop rec3 rec hr κ t3 t sh h v sh' ht st hv
      have key : ∀ r ∈ f rec t h, k (tput t dst r.v) r.h ≠ [] ∧ ∀ x ∈ k (tput t dst r.v) r.h, TPost κ0 sh0 h0 s' x := fun r hm => by
        obtain ⟨κ', d1, s1, f1⟩ := g2 r hm
        exact hk κ' _ _ ((ht.mono f1.le).put dst d1) s1 (fr.trans f1)
      cases dst with
      | none => exact bindO_good g1 key
      | some d => exact bindO_good g1 key
    | _ => exact hop.elim
theorem item_rel {o : Oper} : OpRel (seOpIn P nt o) (compileItem P nt ops o).op := by
  unfold seOpIn compileItem
  simp only
  split
  · rename_i h1
    simp only [h1]
    cases hd : o.dst with
    | none => exact seOp_rel o
    | some d =>
      simp only
      split
      · rename_i h2; simp only [h2]; exact seOp_rel o
      · trivial
  · trivial
theorem seItems_ok (hr : RecRel rec3 rec) : ∀ {l : List Oper} {s s' : S3} {κ : Kp} {t : Tm} {h : H}, (seItems P nt ops rec3 l s).val = some s' → TRel κ s.t t → St κ s.h h → Fr κ0 sh0 h0 κ s.h h → TGood κ0 sh0 h0 s' (runItems rec (compileItems P nt ops l) t h)
  | [], s, s', κ, t, h, hv, ht, st, fr => by
    cases leaf_some hv
    exact ⟨by show [(⟨t, h⟩ : TH)] ≠ []; simp, fun r hm => by rw [List.mem_singleton.1 (show r ∈ [(⟨t, h⟩ : TH)] from hm)]; exact ⟨κ, ht, st, fr⟩⟩
  | o :: l, s, s', κ, t, h, hv, ht, st, fr => by
    have hv' : ((wanted3 s.t (seItem P nt ops o).guard fun t w => match w with
      | true => ((seItem P nt ops o).op.run rec3 t s.h).bind fun r => .leaf ⟨tput3 t o.dst r.1, r.2⟩
      | false => .leaf ⟨tput3 t o.dst .undef, s.h⟩).bind (seItems P nt ops rec3 l)).val = some s' := hv
    obtain ⟨s1, hs1, hrest⟩ := bind_some hv'
    obtain ⟨w, t', hw, ht', hk⟩ := wanted3_ok hs1 ht
    have yes : w = true → TGood κ0 sh0 h0 s' ((stepOp o.dst (compileItem P nt ops o).op).run rec (runItems rec (compileItems P nt ops l)) t h) := fun e => by
      subst e
      obtain ⟨⟨v, sh'⟩, h1, h2⟩ := bind_some hk
      cases leaf_some h2
      refine stepOp_ok item_rel hr h1 ht' st fr fun κ' t'' h'' a b c => seItems_ok hr hrest a b c
    have no : w = false → TGood κ0 sh0 h0 s' (runItems rec (compileItems P nt ops l) (tput t o.dst .undef) h) := fun e => by
      subst e
      cases leaf_some hk
      exact seItems_ok hr hrest (ht'.put o.dst undef_den) st fr
    show TGood κ0 sh0 h0 s' ((stepItem (compileItem P nt ops o)).run rec (runItems rec (compileItems P nt ops l)) t h)
    unfold stepItem
    cases hg : (compileItem P nt ops o).guard with
    | none =>
      have hw' : wantedA t (compileItem P nt ops o).guard = some w := hw
      rw [hg] at hw'
      cases hw'
      exact yes rfl
    | some g =>
      have hw' : wantedA t (compileItem P nt ops o).guard = some w := hw
      rw [hg] at hw'
      show TGood κ0 sh0 h0 s' (liftO (wantedA t (some g)) fun w => pick w ((stepOp o.dst (compileItem P nt ops o).op).run rec (runItems rec (compileItems P nt ops l)) t h) (runItems rec (compileItems P nt ops l) (tput t o.dst .undef) h))
      rw [hw']
      cases w with
      | true => exact yes rfl
      | false => exact no rfl
/-! ### Regions that draw their order -/
theorem nkno_refl (k : NK) : Nat.beq k.no k.no = true := Nat.beq_refl _
theorem same3_ok {x y : SV} {ax ay : AV} {c : Bool} (h : same3 x y = some c) (hc : c = true) (hx : sden κ x = some ax) (hy : sden κ y = some ay) : ax.same1 ay = true ∧ ax.same ay = true := by
  unfold same3 at h
  split at h
  · rename_i o u o' w
    cases h
    rw [sden_b hx, sden_b hy, beq_iff_eq.1 hc]
    cases w <;> exact ⟨rfl, rfl⟩
  · rename_i o k u o' k' w
    split at h
    · rename_i hk
      cases ikeq_iff.1 hk
      cases h
      rw [sden_i hx, sden_i hy, of_decide_eq_true hc]
      have e : pick (ikeq k k) (intEq w w) false = true := by
        rw [ikeq_iff.2 rfl]
        show intEq w w = true
        cases w with
        | ofNat n => exact Nat.beq_refl n
        | negSucc n => exact decide_eq_true rfl
      exact ⟨e, e⟩
    · cases h
  · rename_i o u o' w
    cases h
    rw [sden_s hx, sden_s hy, of_decide_eq_true hc]
    have e : beqB w w = true := by rw [beqB_eq]; exact beq_self_eq_true w
    exact ⟨e, e⟩
  · rename_i k k'
    split at h
    · rename_i hk
      rw [sden_nil hx, sden_nil hy]
      exact ⟨hk, hk⟩
    · cases h
  · rename_i u i w j
    split at h
    · rename_i h1 h2
      cases beq_iff.1 h1
      cases beq_iff.1 h2
      obtain ⟨p, e1, rfl⟩ := sden_ptr hx
      obtain ⟨p', e2, rfl⟩ := sden_ptr hy
      rw [e1] at e2; cases e2
      have e : pick (p.beq p) (Nat.beq i i) false = true := by rw [Pos.beq_self]; exact Nat.beq_refl i
      exact ⟨e, e⟩
    · cases h
  · rename_i u w
    split at h
    · rename_i h1
      cases beq_iff.1 h1
      obtain ⟨p, e1, rfl⟩ := sden_map hx
      obtain ⟨p', e2, rfl⟩ := sden_map hy
      rw [e1] at e2; cases e2
      exact ⟨Pos.beq_self p, Pos.beq_self p⟩
    · cases h
  · rename_i u o l c w o' l' c'
    obtain ⟨p, e1, rfl⟩ := sden_sl hx
    obtain ⟨p', e2, rfl⟩ := sden_sl hy
    split at h
    · rename_i c c' h1 h2 h3
      cases beq_iff.1 h1; cases beq_iff.1 h2; cases beq_iff.1 h3
      rw [e1] at e2; cases e2
      split at h
      · rename_i h4
        have e : pick (p.beq p) (pick (Nat.beq o o) (pick (Nat.beq l l) (Nat.beq c c') false) false) false = true := by
          rw [Pos.beq_self, Nat.beq_refl, Nat.beq_refl]; exact h4
        exact ⟨e, e⟩
      · cases h
    · rename_i c c' h1 h2 h3
      cases beq_iff.1 h1; cases beq_iff.1 h2; cases beq_iff.1 h3
      rw [e1] at e2; cases e2
      split at h
      · rename_i h4
        have e : pick (p.beq p) (pick (Nat.beq o o) (pick (Nat.beq l l) (Nat.beq c c') false) false) false = true := by
          rw [Pos.beq_self, Nat.beq_refl, Nat.beq_refl]; exact h4
        exact ⟨e, e⟩
      · cases h
    · cases h
  · rename_i u sz lo l w sz' lo' l'
    obtain ⟨p, e1, rfl⟩ := sden_tsl hx
    obtain ⟨p', e2, rfl⟩ := sden_tsl hy
    split at h
    · rename_i h1 h2
      cases beq_iff.1 h1; cases beq_iff.1 h2
      rw [e1] at e2; cases e2
      cases h
      rw [Bool.and_eq_true] at hc
      rw [of_decide_eq_true hc.1, of_decide_eq_true hc.2]
      have e : pick (p.beq p) (pick (Nat.beq (lo' * sz) (lo' * sz)) (pick (Nat.beq l' l') (Nat.beq lo' lo') false) false) false = true := by
        rw [Pos.beq_self, Nat.beq_refl, Nat.beq_refl]; exact Nat.beq_refl lo'
      exact ⟨e, e⟩
    · cases h
  · rename_i f a c g a' c'
    split at h
    · rename_i h1
      cases beq_iff.1 h1
      obtain ⟨r, s, d1, d2, rfl⟩ := sden_func hx
      obtain ⟨r', s', d3, d4, rfl⟩ := sden_func hy
      rw [sdenL_nil.1 d1, sdenL_nil.1 d2, sdenL_nil.1 d3, sdenL_nil.1 d4]
      have e : pick (Nat.beq f f) (pick (isNil ([] : List AV)) (pick (isNil ([] : List AV)) (pick (isNil ([] : List AV)) (isNil ([] : List AV)) false) false) false) false = true := by rw [Nat.beq_refl]; rfl
      have e' : pick (Nat.beq f f) (pick (sameL1 [] []) (sameL1 [] []) false) false = true := by rw [Nat.beq_refl]; rfl
      exact ⟨e, e'⟩
    · cases h
  · cases h
theorem sameL3_ok : ∀ {l m : List SV} {al am : List AV} {c : Bool}, sameL3 l m = some c → c = true → sdenL κ l = some al → sdenL κ m = some am → sameL1 al am = true
  | [], [], al, am, c, h, hc, hl, hm => by rw [sdenL_nil.1 hl, sdenL_nil.1 hm]; rfl
  | a :: l, b :: m, al, am, c, h, hc, hl, hm => by
    obtain ⟨ax, s, h1, h2, rfl⟩ := sdenL_cons.1 hl
    obtain ⟨bx, t, h3, h4, rfl⟩ := sdenL_cons.1 hm
    unfold sameL3 at h
    split at h
    · rename_i x y e1 e2
      cases h
      rw [Bool.and_eq_true] at hc
      show Bool.rec false (sameL1 s t) (ax.same1 bx) = true
      rw [(same3_ok e1 hc.1 h1 h3).1]
      exact sameL3_ok e2 hc.2 h2 h4
    · cases h
  | [], _ :: _, al, am, c, h, hc, hl, hm => by cases h
  | _ :: _, [], al, am, c, h, hc, hl, hm => by cases h
theorem same4_ok {x y : SV} {ax ay : AV} {c : Bool} (h : same4 x y = some c) (hc : c = true) (hx : sden κ x = some ax) (hy : sden κ y = some ay) : ax.same ay = true := by
  unfold same4 at h
  split at h
  · obtain ⟨l, d1, rfl⟩ := sden_agg hx
    obtain ⟨m, d2, rfl⟩ := sden_agg hy
    exact sameL3_ok h hc d1 d2
  · obtain ⟨l, d1, rfl⟩ := sden_tuple hx
    obtain ⟨m, d2, rfl⟩ := sden_tuple hy
    exact sameL3_ok h hc d1 d2
  · exact (same3_ok h hc hx hy).2
/-- looks, side by side -/
inductive KRel (κ : Kp) : List Look3 → List Look → Prop
  | nil : KRel κ [] []
  | cons {k3 : Look3} {k : Look} {l3 l} : k3.ix = k.ix → sden κ k3.v = some k.v → (∀ κ' sh h v, κ.le κ' → St κ' sh h → (k3.f sh).val = some v → ∃ av, k.f h = some av ∧ sden κ' v = some av) → KRel κ l3 l → KRel κ (k3 :: l3) (k :: l)
theorem KRel.mono {κ κ' : Kp} (hl : κ.le κ') {a : List Look3} {b : List Look} (h : KRel κ a b) : KRel κ' a b := by
  induction h with
  | nil => exact .nil
  | cons e1 e2 e3 _ ih => exact .cons e1 (sden_mono hl e2) (fun κ'' sh h v hl' => e3 κ'' sh h v (Kp.le_trans hl hl')) ih
theorem recheck3_ok {anc : Nat} (st : St κ sh h) : ∀ {a : List Look3} {b : List Look} {a' : List Look3}, KRel κ a b → (recheck3 anc sh a).val = some a' → ∃ b', recheck anc h b = some b' ∧ KRel κ a' b' := by
  intro a b a' hk
  induction hk generalizing a' with
  | nil => intro hv; cases leaf_some hv; exact ⟨[], rfl, .nil⟩
  | @cons k3 k l3 l e1 e2 e3 _ ih =>
    intro hv
    unfold recheck3 at hv
    have hun : recheck anc h (k :: l) = pick (Nat.testBit anc k.ix) (recheck anc h l) (bindS (k.f h) fun v => whenS (v.same k.v) (bindS (recheck anc h l) fun r => some (k :: r))) := rfl
    rw [hun, ← e1]
    split at hv
    · rename_i hb
      rw [hb]
      exact ih hv
    · rename_i hb
      rw [hb]
      obtain ⟨v, h1, h2⟩ := bind_some hv
      obtain ⟨av, f1, f2⟩ := e3 κ sh h v (Kp.le_refl κ) st h1
      split at h2
      · rename_i c hc
        obtain ⟨g1, g2⟩ := need_some h2
        obtain ⟨r, r1, r2⟩ := bind_some g2
        cases leaf_some r2
        obtain ⟨b', q1, q2⟩ := ih r1
        refine ⟨k :: b', ?_, .cons e1 e2 e3 q2⟩
        show bindS (k.f h) _ = _
        rw [f1]
        show whenS (av.same k.v) _ = _
        rw [same4_ok hc g1 f2 e2]
        show bindS (recheck anc h l) _ = _
        rw [q1]; rfl
      · cases h2
/-- blocks that have a name, and are not in memory yet -/
inductive PRel (κ : Kp) (sh0 sh : SH) : List Pend3 → List Pend → Prop
  | nil : PRel κ sh0 sh [] []
  | cons {p3 : Pend3} {p : Pend} {l3 l} : p3.ix = p.ix → κ p3.x = some p.b → ORel κ p3.o p.o → sh.get p3.x = none → sh0.nm ≤ p3.x → p3.x < sh.nm → (∀ q ∈ l3, q.x ≠ p3.x) → PRel κ sh0 sh l3 l → PRel κ sh0 sh (p3 :: l3) (p :: l)
theorem cons_get (x : Nat) (o : SO) (l : List (Nat × SO)) (n : Nat) (y : Nat) : SH.get ⟨(x, o) :: l, n⟩ y = if y = x then some o else SH.get ⟨l, n⟩ y := by
  show (match Nat.beq x y with | true => some o | false => oget l y) = _
  by_cases e : y = x
  · subst e; rw [if_pos rfl, Nat.beq_refl]
  · rw [if_neg e, beq_false.2 (fun e' => e e'.symm)]; rfl
theorem St.name (s : St κ sh h) (fr : Fr κ0 sh0 h0 κ sh h) {x : Nat} {b : Pos} {o : SO} {ao : AObj} (hx : κ x = some b) (hr : ORel κ o ao) (hn : sh.get x = none) (h0x : sh0.nm ≤ x) (hlt : x < sh.nm) : St κ ⟨(x, o) :: sh.objs, sh.nm⟩ (h.set b ao) ∧ Fr κ0 sh0 h0 κ ⟨(x, o) :: sh.objs, sh.nm⟩ (h.set b ao) := by
  have hget : ∀ y o', SH.get ⟨(x, o) :: sh.objs, sh.nm⟩ y = some o' → (y = x ∧ o' = o) ∨ (y ≠ x ∧ sh.get y = some o') := fun y o' hy => by
    rw [cons_get] at hy
    by_cases e : y = x
    · rw [if_pos e] at hy; cases hy; exact .inl ⟨e, rfl⟩
    · rw [if_neg e] at hy; exact .inr ⟨e, hy⟩
  refine ⟨⟨fun y o' hy => ?_, s.inj, s.fresh, s.low, fun y o' hy => ?_⟩, ⟨fr.le, fr.nm, fr.next, fun q hq hk => ?_, fr.old, fun y o' hy hl => ?_, fr.new⟩⟩
  · rcases hget y o' hy with ⟨rfl, rfl⟩ | ⟨e, hy⟩
    · exact ⟨b, ao, hx, by rw [hget_set, if_pos rfl], hr⟩
    · obtain ⟨q, ao', h1, h2, h3⟩ := s.rel y o' hy
      refine ⟨q, ao', h1, ?_, h3⟩
      rw [hget_set, if_neg (fun (e' : q = b) => e (s.inj y x q h1 (e' ▸ hx)))]; exact h2
  · rcases hget y o' hy with ⟨rfl, rfl⟩ | ⟨e, hy⟩
    · exact hlt
    · exact s.bnd _ _ hy
  · rw [hget_set, if_neg (fun (e : q = b) => by have := fr.new x b h0x hx; rw [e] at hq; omega)]; exact fr.kept q hq hk
  · rcases hget y o' hy with ⟨rfl, rfl⟩ | ⟨e, hy⟩
    · omega
    · exact fr.sub y o' hy hl
/-- into memory with those that an operation asks -/
theorem matP3_ok (c : Nat → Bool) : ∀ {l3 : List Pend3} {l : List Pend}, PRel κ sh0 sh l3 l → St κ sh h → Fr κ0 sh0 h0 κ sh h → ∀ {m3 : SH} {m : H}, (∀ x, m3.get x = match l3.find? (fun p => c p.ix && Nat.beq p.x x) with | some p => some p.o | none => sh.get x) → True := fun _ _ _ _ _ _ => trivial
theorem mat3_ok (anc : Nat) : ∀ {l3 : List Pend3} {l : List Pend}, PRel κ sh0 sh l3 l → St κ sh h → Fr κ0 sh0 h0 κ sh h →
    St κ (mat3 anc l3 sh) (mat anc l h) ∧ Fr κ0 sh0 h0 κ (mat3 anc l3 sh) (mat anc l h) ∧ (mat3 anc l3 sh).nm = sh.nm ∧ (∀ x, (∀ q ∈ l3, q.x = x → Nat.testBit anc q.ix = false) → (mat3 anc l3 sh).get x = sh.get x) := by
  intro l3 l hp
  induction hp with
  | nil => intro st fr; exact ⟨st, fr, rfl, fun _ _ => rfl⟩
  | @cons p3 p l3 l e1 e2 e3 e4 e5 e6 e7 _ ih =>
    intro st fr
    obtain ⟨i1, i2, i3, i4⟩ := ih st fr
    have hun : mat anc (p :: l) h = pick (Nat.testBit anc p.ix) ((mat anc l h).set p.b p.o) (mat anc l h) := rfl
    rw [hun, ← e1]
    unfold mat3
    cases hb : Nat.testBit anc p3.ix with
    | true =>
      have hn : (mat3 anc l3 sh).get p3.x = none := by
        rw [i4 p3.x (fun q hq he => absurd he (e7 q hq))]; exact e4
      obtain ⟨s1, f1⟩ := St.name i1 i2 e2 e3 hn e5 (by omega)
      refine ⟨s1, f1, i3, fun x hx => ?_⟩
      have hne : x ≠ p3.x := fun e => by
        have := hx p3 (List.mem_cons_self ..) e.symm
        rw [hb] at this; cases this
      show SH.get ⟨(p3.x, p3.o) :: (mat3 anc l3 sh).objs, (mat3 anc l3 sh).nm⟩ x = _
      rw [cons_get, if_neg hne]
      exact i4 x fun q hq => hx q (List.mem_cons_of_mem _ hq)
    | false => exact ⟨i1, i2, i3, fun x hx => i4 x fun q hq => hx q (List.mem_cons_of_mem _ hq)⟩
theorem matAll3_ok : ∀ {l3 : List Pend3} {l : List Pend}, PRel κ sh0 sh l3 l → St κ sh h → Fr κ0 sh0 h0 κ sh h →
    St κ (matAll3 l3 sh) (matAll l h) ∧ Fr κ0 sh0 h0 κ (matAll3 l3 sh) (matAll l h) ∧ (matAll3 l3 sh).nm = sh.nm ∧ (∀ x, (∀ q ∈ l3, q.x ≠ x) → (matAll3 l3 sh).get x = sh.get x) := by
  intro l3 l hp
  induction hp with
  | nil => intro st fr; exact ⟨st, fr, rfl, fun _ _ => rfl⟩
  | @cons p3 p l3 l e1 e2 e3 e4 e5 e6 e7 _ ih =>
    intro st fr
    obtain ⟨i1, i2, i3, i4⟩ := ih st fr
    have hun : matAll (p :: l) h = (matAll l h).set p.b p.o := rfl
    rw [hun]
    unfold matAll3
    have hn : (matAll3 l3 sh).get p3.x = none := by rw [i4 p3.x e7]; exact e4
    obtain ⟨s1, f1⟩ := St.name i1 i2 e2 e3 hn e5 (by omega)
    refine ⟨s1, f1, i3, fun x hx => ?_⟩
    show SH.get ⟨(p3.x, p3.o) :: (matAll3 l3 sh).objs, (matAll3 l3 sh).nm⟩ x = _
    rw [cons_get, if_neg (fun e => hx p3 (List.mem_cons_self ..) e.symm)]
    exact i4 x fun q hq => hx q (List.mem_cons_of_mem _ hq)
theorem PRel.next {κ' : Kp} {sh' : SH} (hl : κ.le κ') (hs : ∀ x, x < sh.nm → sh.get x = none → sh'.get x = none) (hn : sh.nm ≤ sh'.nm) {l3 : List Pend3} {l : List Pend} (hp : PRel κ sh0 sh l3 l) : PRel κ' sh0 sh' l3 l := by
  induction hp with
  | nil => exact .nil
  | cons e1 e2 e3 e4 e5 e6 e7 _ ih => exact .cons e1 (hl _ _ e2) (e3.mono hl) (hs _ e6 e4) e5 (by omega) e7 ih
theorem PRel.uniq {l3 : List Pend3} {l : List Pend} (hp : PRel κ sh0 sh l3 l) : ∀ q ∈ l3, ∀ q' ∈ l3, q.x = q'.x → q = q' := by
  induction hp with
  | nil => intro q hq; cases hq
  | cons e1 e2 e3 e4 e5 e6 e7 _ ih =>
    intro q hq q' hq' e
    rcases List.mem_cons.1 hq with h1 | k1 <;> rcases List.mem_cons.1 hq' with h2 | k2
    · rw [h1, h2]
    · subst h1; exact absurd e.symm (e7 _ k2)
    · subst h2; exact absurd e (e7 _ k1)
    · exact ih q k1 q' k2 e
theorem PRel.left {κ' : Kp} {sh' : SH} (f : Nat → Bool) (hl : κ.le κ') (hn : sh.nm ≤ sh'.nm) {l3 : List Pend3} {l : List Pend} (hp : PRel κ sh0 sh l3 l) (hs : ∀ q ∈ l3, f q.ix = true → sh'.get q.x = none) : PRel κ' sh0 sh' (lfilter (fun q => f q.ix) l3) (lfilter (fun q => f q.ix) l) := by
  induction hp with
  | nil => exact .nil
  | @cons p3 p l3 l e1 e2 e3 e4 e5 e6 e7 _ ih =>
    have h1 : lfilter (fun (q : Pend3) => f q.ix) (p3 :: l3) = Bool.rec (lfilter (fun q => f q.ix) l3) (p3 :: lfilter (fun q => f q.ix) l3) (f p3.ix) := rfl
    have h2 : lfilter (fun (q : Pend) => f q.ix) (p :: l) = Bool.rec (lfilter (fun q => f q.ix) l) (p :: lfilter (fun q => f q.ix) l) (f p.ix) := rfl
    have ih' := ih fun q hq => hs q (List.mem_cons_of_mem _ hq)
    rw [h1, h2, ← e1]
    cases hf : f p3.ix with
    | true => exact .cons e1 (hl _ _ e2) (e3.mono hl) (hs p3 (List.mem_cons_self ..) hf) e5 (by omega) (fun q hq => e7 q (by rw [lfilter_eq] at hq; exact (List.mem_filter.1 hq).1)) ih'
    | false => exact ih'
theorem PRel.lt {l3 : List Pend3} {l : List Pend} (hp : PRel κ sh0 sh l3 l) : ∀ q ∈ l3, q.x < sh.nm ∧ sh.get q.x = none := by
  induction hp with
  | nil => intro q hq; cases hq
  | cons e1 e2 e3 e4 e5 e6 e7 _ ih =>
    intro q hq
    rcases List.mem_cons.1 hq with rfl | hq
    · exact ⟨e6, e4⟩
    · exact ih q hq
theorem PRel.filter (f : Nat → Bool) {l3 : List Pend3} {l : List Pend} (hp : PRel κ sh0 sh l3 l) : PRel κ sh0 sh (lfilter (fun q => f q.ix) l3) (lfilter (fun q => f q.ix) l) := by
  induction hp with
  | nil => exact .nil
  | @cons p3 p l3 l e1 e2 e3 e4 e5 e6 e7 _ ih =>
    have h1 : lfilter (fun (q : Pend3) => f q.ix) (p3 :: l3) = Bool.rec (lfilter (fun q => f q.ix) l3) (p3 :: lfilter (fun q => f q.ix) l3) (f p3.ix) := rfl
    have h2 : lfilter (fun (q : Pend) => f q.ix) (p :: l) = Bool.rec (lfilter (fun q => f q.ix) l) (p :: lfilter (fun q => f q.ix) l) (f p.ix) := rfl
    rw [h1, h2, ← e1]
    cases f p3.ix with
    | true => exact .cons e1 e2 e3 e4 e5 e6 (fun q hq => e7 q (by rw [lfilter_eq] at hq; exact (List.mem_filter.1 hq).1)) ih
    | false => exact ih
theorem St.bump (s : St κ sh h) (fr : Fr κ0 sh0 h0 κ sh h) : St (κ.upd sh.nm h.next) sh.bump h.bump ∧ Fr κ0 sh0 h0 (κ.upd sh.nm h.next) sh.bump h.bump := by
  have hnone := s.fresh sh.nm (Nat.le_refl _)
  have hle := Kp.le_upd hnone h.next
  have hnx : h.bump.next.toNat = h.next.toNat + 1 := Pos.toNat_succ _
  have ku : ∀ y q, κ.upd sh.nm h.next y = some q → (y = sh.nm ∧ q = h.next) ∨ (y ≠ sh.nm ∧ κ y = some q) := fun y q hy => by
    by_cases e : y = sh.nm
    · rw [e, Kp.upd_same] at hy; cases hy; exact .inl ⟨e, rfl⟩
    · rw [Kp.upd_ne κ _ e] at hy; exact .inr ⟨e, hy⟩
  refine ⟨⟨fun y o' hy => ?_, fun y z q hy hz => ?_, fun y hy => ?_, fun y q hy => ?_, fun y o' hy => ?_⟩, ⟨Kp.le_trans fr.le hle, Nat.le_succ_of_le fr.nm, by have := fr.next; omega, fun q hq hk => fr.kept q hq hk, fun y hy => ?_, fun y o' hy hl => fr.sub y o' hy hl, fun y q hy hq => ?_⟩⟩
  · obtain ⟨q, ao', h1, h2, h3⟩ := s.rel y o' hy
    exact ⟨q, ao', hle _ _ h1, h2, h3.mono hle⟩
  · rcases ku y q hy with ⟨rfl, rfl⟩ | ⟨e, h1⟩ <;> rcases ku z _ hz with ⟨rfl, e2⟩ | ⟨e', h2⟩
    · rfl
    · have := s.low z _ h2; omega
    · subst e2; have := s.low y _ h1; omega
    · exact s.inj y z q h1 h2
  · have hy' : sh.nm + 1 ≤ y := hy
    rw [Kp.upd_ne κ _ (by omega)]; exact s.fresh y (by omega)
  · rcases ku y q hy with ⟨rfl, rfl⟩ | ⟨e, h1⟩
    · omega
    · have := s.low y q h1; omega
  · exact Nat.lt_succ_of_lt (s.bnd _ _ hy)
  · have := fr.nm
    rw [Kp.upd_ne κ _ (by omega)]; exact fr.old y hy
  · rcases ku y q hq with ⟨rfl, rfl⟩ | ⟨e, h1⟩
    · exact fr.next
    · exact fr.new y q hy h1
/-- a plan's parts, side by side -/
inductive OpsRel (P : Program) (nt : Nat) (ops : Array Oper) : List PI3 → List PI → Prop
  | nil : OpsRel P nt ops [] []
  | cons {p : PI} {o : SOp} {l3 l} : OpRel o p.item.op → OpsRel P nt ops l3 l → OpsRel P nt ops (⟨p, o⟩ :: l3) (p :: l)
theorem withOps_ok : ∀ {pl : List PI} {pl3 : List PI3}, withOps P nt ops pl = some pl3 → (∀ p ∈ pl, ∃ o, ops[p.ix]? = some o ∧ p.item = compileItem P nt ops o) → OpsRel P nt ops pl3 pl
  | [], _, h, _ => by cases h; exact .nil
  | p :: l, pl3, h, hi => by
    unfold withOps at h
    split at h
    · rename_i o r h1 h2
      cases h
      obtain ⟨o', e1, e2⟩ := hi p (List.mem_cons_self ..)
      rw [h1] at e1; cases e1
      refine .cons ?_ (withOps_ok h2 fun q hq => hi q (List.mem_cons_of_mem _ hq))
      rw [e2]; exact item_rel
    · cases h
theorem runPlan_one {p : PI} {l : List PI} {ks : List Look} {ps : List Pend} : runPlan rec (p :: l) ks ps t h = liftO (wantedA t p.item.guard) fun w => pick w
      (p.item.op.on []
        (fun f => liftO (f t) fun v => runPlan rec l ks ps (tput t p.item.dst v) h)
        (fun f => liftO (f t h) fun v => runPlan rec l (⟨p.ix, f t, v⟩ :: ks) ps (tput t p.item.dst v) h)
        (fun f => liftO (f t) fun a => runPlan rec l ks (⟨p.ix, h.next, a.obj⟩ :: ps) (tput t p.item.dst (a.val h.next)) h.bump)
        (fun f => bindO (f rec t (mat p.anc ps h)) fun r => liftO (recheck p.anc r.h ks) fun ks => runPlan rec l ks (lfilter (fun q => bnot (Nat.testBit p.anc q.ix)) ps) (tput t p.item.dst r.v) r.h))
      (runPlan rec l ks ps (tput t p.item.dst .undef) h) := rfl
theorem sePlan_ok (hr : RecRel rec3 rec) : ∀ {pl3 : List PI3} {pl : List PI}, OpsRel P nt ops pl3 pl → ∀ {s : PS3} {s' : S3} {κ : Kp} {ks : List Look} {ps : List Pend} {t : Tm} {h : H}, (sePlan rec3 pl3 s).val = some s' → TRel κ s.t t → St κ s.h h → Fr κ0 sh0 h0 κ s.h h → KRel κ s.ks ks → PRel κ sh0 s.h s.ps ps → TGood κ0 sh0 h0 s' (runPlan rec pl ks ps t h) := by
  intro pl3 pl ho
  induction ho with
  | nil =>
    intro s s' κ ks ps t h hv ht st fr hk hp
    cases leaf_some hv
    obtain ⟨s1, f1, _, _⟩ := matAll3_ok hp st fr
    exact ⟨by show [(⟨t, matAll ps h⟩ : TH)] ≠ []; simp, fun r hm => by rw [List.mem_singleton.1 (show r ∈ [(⟨t, matAll ps h⟩ : TH)] from hm)]; exact ⟨κ, ht, s1, f1⟩⟩
  | @cons p o l3 l hop _ ih =>
    intro s s' κ ks ps t h hv ht st fr hk hp
    obtain ⟨s1, hs1, hrest⟩ := bind_some (show ((wanted3 s.t p.item.guard fun t w => match w with
      | true => (match o with
        | .bad => .fail
        | .pure f => (f t).bind fun v => .leaf (⟨s.ks, s.ps, tput3 t p.item.dst v, s.h⟩ : PS3)
        | .load f => (f t s.h).bind fun v => .leaf ⟨⟨p.ix, f t, v⟩ :: s.ks, s.ps, tput3 t p.item.dst v, s.h⟩
        | .alloc f => (f t).bind fun a => .leaf ⟨s.ks, ⟨p.ix, s.h.nm, a.1⟩ :: s.ps, tput3 t p.item.dst (a.2 s.h.nm), s.h.bump⟩
        | .heavy f => (f rec3 t (mat3 p.anc s.ps s.h)).bind fun r => (recheck3 p.anc r.2 s.ks).bind fun ks => .leaf ⟨ks, lfilter (fun q => bnot (Nat.testBit p.anc q.ix)) s.ps, tput3 t p.item.dst r.1, r.2⟩)
      | false => .leaf ⟨s.ks, s.ps, tput3 t p.item.dst .undef, s.h⟩).bind (sePlan rec3 l3)).val = some s' from hv)
    obtain ⟨w, t', hw, ht', hkk⟩ := wanted3_ok hs1 ht
    rw [runPlan_one, hw]
    cases w with
    | false =>
      cases leaf_some hkk
      exact ih hrest (ht'.put _ undef_den) st fr hk hp
    | true =>
      show TGood κ0 sh0 h0 s' (p.item.op.on []
        (fun f => liftO (f t) fun v => runPlan rec l ks ps (tput t p.item.dst v) h)
        (fun f => liftO (f t h) fun v => runPlan rec l (⟨p.ix, f t, v⟩ :: ks) ps (tput t p.item.dst v) h)
        (fun f => liftO (f t) fun a => runPlan rec l ks (⟨p.ix, h.next, a.obj⟩ :: ps) (tput t p.item.dst (a.val h.next)) h.bump)
        (fun f => bindO (f rec t (mat p.anc ps h)) fun r => liftO (recheck p.anc r.h ks) fun ks => runPlan rec l ks (lfilter (fun q => bnot (Nat.testBit p.anc q.ix)) ps) (tput t p.item.dst r.v) r.h))
      generalize hpo : p.item.op = op at hop
      cases o with
      | bad => cases hkk
      | pure f3 =>
        cases op with
        | pure f =>
          obtain ⟨v, h1, h2⟩ := bind_some hkk
          cases leaf_some h2
          obtain ⟨av, e1, e2⟩ := hop κ t' t v ht' h1
          show TGood κ0 sh0 h0 s' (liftO (f t) fun v => runPlan rec l ks ps (tput t p.item.dst v) h)
          rw [e1]
          exact ih hrest (ht'.put _ e2) st fr hk hp
        | _ => exact hop.elim
      | load f3 =>
        cases op with
        | load f =>
          obtain ⟨v, h1, h2⟩ := bind_some hkk
          cases leaf_some h2
          obtain ⟨av, e1, e2⟩ := hop κ t' t s.h h v ht' st h1
          show TGood κ0 sh0 h0 s' (liftO (f t h) fun v => runPlan rec l (⟨p.ix, f t, v⟩ :: ks) ps (tput t p.item.dst v) h)
          rw [e1]
          exact ih hrest (ht'.put _ e2) st fr (.cons rfl e2 (fun κ' sh' h' v' hl st' hv' => hop κ' t' t sh' h' v' (ht'.mono hl) st' hv') hk) hp
        | _ => exact hop.elim
      | alloc f3 =>
        cases op with
        | alloc f =>
          obtain ⟨⟨ob, mk⟩, h1, h2⟩ := bind_some hkk
          cases leaf_some h2
          obtain ⟨aa, e1, e2, e3⟩ := hop κ t' t ob mk ht' h1
          obtain ⟨s2, f2⟩ := st.bump fr
          have hle := Kp.le_upd (st.fresh s.h.nm (Nat.le_refl _)) h.next
          show TGood κ0 sh0 h0 s' (liftO (f t) fun a => runPlan rec l ks (⟨p.ix, h.next, a.obj⟩ :: ps) (tput t p.item.dst (a.val h.next)) h.bump)
          rw [e1]
          refine ih hrest ((ht'.mono hle).put _ (e3 _ _ _ hle (Kp.upd_same _ _ _))) s2 f2 (hk.mono hle) (.cons rfl (Kp.upd_same _ _ _) (e2.mono hle) ?_ fr.nm (Nat.lt_succ_self _) ?_ (PRel.next (sh := s.h) (sh' := s.h.bump) hle (fun x _ hx => hx) (Nat.le_succ s.h.nm) hp))
          · cases hg : s.h.get s.h.nm with
            | none => exact hg
            | some o' => have := st.bnd _ _ hg; omega
          · intro q hq e
            have := (hp.lt q hq).1
            have e' : q.x = s.h.nm := e
            omega
        | _ => exact hop.elim
      | heavy f3 =>
        cases op with
        | heavy f =>
          obtain ⟨⟨v, sh'⟩, h1, h2⟩ := bind_some hkk
          obtain ⟨ks3, h3, h4⟩ := bind_some h2
          cases leaf_some h4
          obtain ⟨m1, m2, m3, m4⟩ := mat3_ok p.anc hp st fr
          obtain ⟨g1, g2⟩ := hop rec3 rec hr κ t' t _ _ v sh' ht' m1 h1
          show TGood κ0 sh0 h0 s' (bindO (f rec t (mat p.anc ps h)) fun r => liftO (recheck p.anc r.h ks) fun ks => runPlan rec l ks (lfilter (fun q => bnot (Nat.testBit p.anc q.ix)) ps) (tput t p.item.dst r.v) r.h)
          refine bindO_good g1 fun r hm => ?_
          obtain ⟨κ', d1, s2, f2⟩ := g2 r hm
          obtain ⟨ks', r1, r2⟩ := recheck3_ok s2 (hk.mono f2.le) h3
          rw [r1]
          refine ih hrest ((ht'.mono f2.le).put _ d1) s2 (m2.trans f2) r2 (hp.left (fun i => bnot (Nat.testBit p.anc i)) f2.le (show s.h.nm ≤ sh'.nm by have := f2.nm; omega) fun q hq hf => ?_)
          rw [bnot_eq] at hf
          have hb : Nat.testBit p.anc q.ix = false := by simpa using hf
          have e1 : (mat3 p.anc s.ps s.h).get q.x = none := by
            rw [m4 q.x fun q' hq' he => by rw [hp.uniq q' hq' q hq he]; exact hb]
            exact (hp.lt q hq).2
          cases hg : sh'.get q.x with
          | none => rfl
          | some o' =>
            obtain ⟨o0, ho0⟩ := f2.sub q.x o' hg (by have := (hp.lt q hq).1; omega)
            rw [e1] at ho0; cases ho0
        | _ => exact hop.elim
end
end Go.Proofs.YtgemonlknehegaaGreatDoor.AI
