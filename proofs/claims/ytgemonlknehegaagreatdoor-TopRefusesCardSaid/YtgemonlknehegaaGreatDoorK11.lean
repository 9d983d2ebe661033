/- The chain of TopRefuses, part 11. -/
import Derived.Test.YtgemonlknehegaaGreatDoorK10
import Derived.RangeFuncIn
import Derived.RangeFuncRecord
namespace Go.Proofs.YtgemonlknehegaaGreatDoor.AI
open Go
set_option linter.unusedVariables false
set_option linter.unusedSimpArgs false
section
variable {P : Program} {N nt : Nat} {ops : Array Oper} {all pl : List PI} {rec : Rec} {RS : List TH} {σ0 : Sig} {h0 : H} {w0 : World} {ds : List Deferred}
    {s : Array Bool} {e : Nat} {l : List PI} {ks : List Look} {ps : List Pend} {tV : Tm} {hV : H} {tE : Tm} {σ : Sig} {a : Act} {w : World}
theorem LE_set {i : Nat} (hi : i < s.size) (j : Nat) : LE (s.setIfInBounds i true) j ↔ LE s j ∨ i = j := by
  unfold LE
  by_cases e : i = j
  · subst e; simp [hi]
  · rw [getD_set_ne false e]; simp [e]
theorem cE_iff {j : Nat} : cE s j = true ↔ LE s j := Iff.rfl
theorem cE_false {j : Nat} : cE s j = false ↔ ¬ LE s j := by unfold cE LE; simp
theorem Inv.lookE (hpl : PlanOk P nt ops all pl) (I : Inv P N nt ops all rec RS σ0 h0 w0 ds s e l ks ps tV hV tE σ a w) {p : PI} (hpa : p ∈ all) (hanc : ∀ b, Nat.testBit p.anc b = true → LE s b) :
    ∀ d ∈ p.looks, tget tE d = tget tV d := fun d hd => I.agree d fun q hq hqe hqn ee => by
  rcases apart_looks (hpl.apart q hq p hpa) ee hd with h1 | ⟨h1, _⟩
  · exact hqn (hanc _ h1)
  · exact hqn (I.sync q hq h1 hqe)
theorem exec_late (hE : ExtOk P) (hpl : PlanOk P nt ops all pl) (I : Inv P N nt ops all rec RS σ0 h0 w0 ds s e l ks ps tV hV tE σ a w) {p : PI} (hpa : p ∈ all) (hV' : Nat.testBit e p.ix = true) (hn : ¬ LE s p.ix) (hanc : ∀ b, Nat.testBit p.anc b = true → LE s b)
    (ro : Option Nat) {Q : Exit → Act → World → Prop} {K : Act → World → Prop} (hK : ∀ tE' σ' a' w', Inv P N nt ops all rec RS σ0 h0 w0 ds (s.setIfInBounds p.ix true) e l ks ps tV hV tE' σ' a' w' → K a' w') : wpOpIn (FW ro) 0 P ops Q p.ix K a w := by
  obtain ⟨o, ho, _, _, eit⟩ := hpl.items.item p hpa
  have hlt : p.ix < s.size := by rw [I.ssize]; exact (Array.getElem?_eq_some_iff.1 ho).1
  have hdst : p.item.dst = o.dst := by rw [eit]; rfl
  have hlook := I.lookE hpl hpa hanc
  have hg := pi_guard hpl.items hpa hlook
  have hsm := pi_same hpl.items hpa hlook
  have hs' := LE_set hlt
  -- what holds then
  have fin : ∀ (v : AV) (u : Value) (σ' : Sig) (w' : World), TR σ' (tput tE p.item.dst v) (a.put o.dst u).tmps → (∀ d, p.item.dst = some d → tget tV d = v) → Ext P N σ0 h0 w0 σ' (matP (cE (s.setIfInBounds p.ix true)) ps hV) w' →
      (∀ q ∈ ps, ¬ LE (s.setIfInBounds p.ix true) q.ix → σ' q.b = none) → K (a.put o.dst u) w' := by
    intro v u σ' w' htr hv hext hun
    refine hK _ _ _ _ ⟨by simp [I.ssize], htr, by rw [put_size, I.size], by rw [put_defers, I.defers], hext, fun i hi => ?_, fun q hq hqs hqe => (hs' _).2 (.inl (I.sync q hq hqs hqe)), fun q hq hqe b hb => ?_, I.vclosed, fun d hd => ?_, fun q hq hqe hqn => I.recs q hq hqe (fun h => hqn ((hs' _).2 (.inl h))), I.pd, I.pnum, I.pix, hun, I.run, I.res, I.lmem, I.val⟩
    · rcases (hs' i).1 hi with h1 | h1
      · exact I.sub i h1
      · rw [← h1]; exact hV'
    · rcases (hs' _).1 hqe with h1 | h1
      · exact (hs' b).2 (.inl (I.closed q hq h1 b hb))
      · have := hpl.items.uniq p hpa q hq h1
        subst this
        exact (hs' b).2 (.inl (hanc b hb))
    · by_cases ed : p.item.dst = some d
      · rw [ed, tget_tput_same]; exact (hv d ed).symm
      · rw [tget_tput ed]
        refine I.agree d fun q hq hqe hqn ee => ?_
        by_cases eq : p.ix = q.ix
        · have := hpl.items.uniq p hpa q hq eq
          subst this
          exact ed ee
        · exact hd q hq hqe (fun h => by rcases (hs' _).1 h with h1 | h1; exact hqn h1; exact eq h1) ee
  have same : (∀ q ∈ ps, q.ix ≠ p.ix) → matP (cE (s.setIfInBounds p.ix true)) ps hV = matP (cE s) ps hV := fun h => matP_congr hV fun q hq => by
    unfold cE
    rw [getD_set_ne false (fun ee => h q hq ee.symm)]
  have noal : (∀ f, p.item.op ≠ .alloc f) → ∀ q ∈ ps, q.ix ≠ p.ix := fun h q hq ee => by
    obtain ⟨p', hp', e1, f, hf⟩ := (I.pnum q hq).2.2.2
    have := hpl.items.uniq p' hp' p hpa (e1.trans ee)
    subst this
    exact h f hf
  have hun : ∀ q ∈ ps, ¬ LE (s.setIfInBounds p.ix true) q.ix → σ q.b = none := fun q hq h => I.pun q hq fun h1 => h ((hs' _).2 (.inl h1))
  have hsub : ∀ x ox, hV.objs.get x = some ox → (matP (cE s) ps hV).objs.get x = some ox := fun x ox hx => (matP_iff I.pd).2 (.inr hx)
  have sr : SR P N nt σ tE hV a w := ⟨I.tr, I.size, I.ext.holds.weak hsub (by rw [matP_next]; exact Nat.le_refl _)⟩
  unfold wpOpIn
  simp only [ho]
  rcases I.recs p hpa hV' hn with ⟨r1, r2, r3⟩ | ⟨r1, v, r2, r3⟩
  · have hw := wanted_ok (nt := nt) (ops := ops) (o := o) (P := P) I.tr (by rw [← eit, hg]; exact r1)
    rw [if_neg (by rw [hw]; exact Bool.false_ne_true)]
    refine ⟨fun _ _ => trivial, fin .undef undef σ w (by rw [hdst]; exact I.tr.put_undef o.dst) r2 (by rw [same r3]; exact I.ext) hun⟩
  · have hw := wanted_ok (nt := nt) (ops := ops) (o := o) (P := P) I.tr (by rw [← eit, hg]; exact r1)
    rw [if_pos hw]
    rcases r3 with ⟨f, g1, g2⟩ | ⟨f, g1, g2, _⟩ | ⟨f, aa, b, g1, g2, g3, g4⟩
    · rw [g1] at hsm
      have hfE : f tE = some v := by rw [(show f tE = f tV from hsm)]; exact g2
      obtain ⟨u, d1, d2, d3⟩ := item_pure hE sr (by rw [← eit]; exact g1) hfE
      refine d3 ro K Q w (fin v u σ w (by rw [hdst]; exact I.tr.put (by rw [I.size]; exact d2) d1) r2 (by rw [same (noal fun f' hf' => by rw [g1] at hf'; cases hf')]; exact I.ext) hun)
    · rw [g1] at hsm
      have hfE : f tE hV = some v := by rw [(show ∀ h, f tE h = f tV h from hsm) hV]; exact g2
      obtain ⟨u, d1, d2, d3⟩ := item_load hE sr (by rw [← eit]; exact g1) hfE
      refine d3 ro K Q (fin v u σ w (by rw [hdst]; exact I.tr.put (by rw [I.size]; exact d2) d1) r2 (by rw [same (noal fun f' hf' => by rw [g1] at hf'; cases hf')]; exact I.ext) hun)
    · rw [g1] at hsm
      have hfE : f tE = some aa := by rw [(show f tE = f tV from hsm)]; exact g2
      have g1' : (compileItem P nt ops o).op = .alloc f := by rw [← eit]; exact g1
      obtain ⟨h1, h2, h3⟩ := item_op g1' (by intro e; cases e)
      obtain ⟨ob, d, cap, vv, h4, h5⟩ := alloc_ok (w := w) hE h3 h1 I.tr hfE
      obtain ⟨n1, n2, n3, _⟩ := I.pnum _ g4
      have hb0 : σ b = none := I.pun _ g4 hn
      have hle := Sig.le_put hb0 ⟨w.heap.size, 0, cap⟩
      obtain ⟨h6, h7⟩ := h5 _ b hle (Sig.put_same _ _ _)
      have hone : ∀ q ∈ ps, q.ix = p.ix → q = ⟨p.ix, b, aa.obj⟩ := fun q hq ee => I.pix q hq _ g4 ee
      have hnum : ∀ q ∈ ps, q.b = b → q = ⟨p.ix, b, aa.obj⟩ := fun q hq ee => I.pd.inj q hq _ g4 ee
      refine value_wp (w' := { w with heap := w.heap.push ob, drawn := d }) (not_defer h3 (by intro e; cases e)) h4 ro (fin v vv (σ.put b ⟨w.heap.size, 0, cap⟩) _ ?_ r2 ?_ fun q hq hqn => ?_)
      · rw [hdst]; exact (I.tr.mono hle).put (by rw [I.size]; exact h2) (by rw [g3]; exact h6)
      · refine Ext.name I.ext hb0 n1 (by rw [matP_next]; exact n2) rfl h7 (fun x ox hx => ?_) (by rw [matP_next, matP_next]) rfl rfl rfl rfl
        rcases (matP_iff I.pd).1 hx with ⟨q, hq, c1, rfl, rfl⟩ | hx
        · by_cases eq : q.ix = p.ix
          · have := hone q hq eq
            subst this
            exact .inl ⟨rfl, rfl⟩
          · refine .inr ⟨fun ee => eq (by rw [hnum q hq ee]), (matP_iff I.pd).2 (.inl ⟨q, hq, ?_, rfl, rfl⟩)⟩
            rcases (hs' _).1 c1 with h9 | h9
            · exact h9
            · exact absurd h9.symm eq
        · refine .inr ⟨fun ee => ?_, hsub x ox hx⟩
          have := I.pd.non _ g4
          rw [ee] at hx
          rw [show hV.objs.get b = none from this] at hx
          cases hx
      · rw [Sig.put_ne _ _ (fun ee => hqn ((hs' _).2 (.inr (by rw [hnum q hq ee]))))]
        exact hun q hq hqn
end
end Go.Proofs.YtgemonlknehegaaGreatDoor.AI
namespace Go.Proofs.YtgemonlknehegaaGreatDoor.AI
open Go
set_option linter.unusedVariables false
set_option linter.unusedSimpArgs false
theorem pickF {b x : Bool} : pick b x false = true ↔ b = true ∧ x = true := by cases b <;> simp [pick]
theorem NK.no_inj {k k' : NK} (h : Nat.beq k.no k'.no = true) : k = k' := by
  have := beq_iff.1 h
  cases k <;> cases k' <;> first | rfl | (exact absurd this (by decide))
theorem same1_eq {x y : AV} (h : x.same1 y = true) : x = y := by
  cases x <;> cases y <;> try (cases h; done)
  · rename_i b b'
    have h' : beqv b b' = true := h
    rw [beqv_iff] at h'; simp at h'; rw [h']
  · rename_i k n k' n'
    have h' : pick (ikeq k k') (intEq n n') false = true := h
    obtain ⟨h1, h2⟩ := pickF.1 h'
    rw [ikeq_iff.1 h1, intEq_iff h2]
  · rename_i s s'
    have h' : beqB s s' = true := h
    rw [beqB_eq] at h'; simp at h'; rw [h']
  · rename_i k k'
    have h' : Nat.beq k.no k'.no = true := h
    rw [NK.no_inj h']
  · rename_i b o b' o'
    have h' : pick (b.beq b') (Nat.beq o o') false = true := h
    obtain ⟨h1, h2⟩ := pickF.1 h'
    rw [Pos.eq_of_beq h1, beq_iff.1 h2]
  · rename_i b o l c b' o' l' c'
    have h' : pick (b.beq b') (pick (Nat.beq o o') (pick (Nat.beq l l') (c.on (fun n => c'.on (fun n' => Nat.beq n n') (fun _ => false)) (fun n => c'.on (fun _ => false) (fun n' => Nat.beq n n'))) false) false) false = true := h
    obtain ⟨h1, h2⟩ := pickF.1 h'
    obtain ⟨h3, h4⟩ := pickF.1 h2
    obtain ⟨h5, h6⟩ := pickF.1 h4
    rw [Pos.eq_of_beq h1, beq_iff.1 h3, beq_iff.1 h5]
    cases c <;> cases c' <;> first | (cases h6; done) | (rename_i n n'; have h7 : Nat.beq n n' = true := h6; rw [beq_iff.1 h7])
  · rename_i b o k l z b' o' k' l' z'
    have h' : pick (b.beq b') (pick (Nat.beq o o') (pick (Nat.beq k k') (pick (Nat.beq l l') (Nat.beq z z') false) false) false) false = true := h
    obtain ⟨h1, h2⟩ := pickF.1 h'
    obtain ⟨h3, h4⟩ := pickF.1 h2
    obtain ⟨h5, h6⟩ := pickF.1 h4
    obtain ⟨h7, h8⟩ := pickF.1 h6
    rw [Pos.eq_of_beq h1, beq_iff.1 h3, beq_iff.1 h5, beq_iff.1 h7, beq_iff.1 h8]
  · rename_i b b'
    have h' : b.beq b' = true := h
    rw [Pos.eq_of_beq h']
  · rename_i f a c f' a' c'
    have h' : pick (Nat.beq f f') (pick (isNil a) (pick (isNil a') (pick (isNil c) (isNil c') false) false) false) false = true := h
    obtain ⟨h1, h2⟩ := pickF.1 h'
    obtain ⟨h3, h4⟩ := pickF.1 h2
    obtain ⟨h5, h6⟩ := pickF.1 h4
    obtain ⟨h7, h8⟩ := pickF.1 h6
    rw [beq_iff.1 h1, isNil_eq.1 h3, isNil_eq.1 h5, isNil_eq.1 h7, isNil_eq.1 h8]
  · rename_i b b'
    have h' : b.beq b' = true := h
    rw [Pos.eq_of_beq h']
theorem sameL1_eq : ∀ {l m : List AV}, sameL1 l m = true → l = m := by
  intro l
  induction l with
  | nil => intro m h; exact (isNil_eq.1 (show isNil m = true from h)).symm
  | cons a l ih =>
    intro m h
    cases m with
    | nil => cases h
    | cons b m =>
      have h' : Bool.rec false (sameL1 l m) (a.same1 b) = true := h
      cases hf : a.same1 b with
      | false => rw [hf] at h'; cases h'
      | true => rw [hf] at h'; rw [same1_eq hf, ih h']
theorem same_eq {x y : AV} (h : x.same y = true) : x = y := by
  have flat : x.same y = x.same1 y → x = y := fun e => same1_eq (by rw [← e]; exact h)
  cases x with
  | agg l =>
    cases y <;> try (cases h; done)
    rename_i m
    rw [sameL1_eq (show sameL1 l m = true from h)]
  | tuple l =>
    cases y <;> try (cases h; done)
    rename_i m
    rw [sameL1_eq (show sameL1 l m = true from h)]
  | func f a c =>
    cases y <;> try (cases h; done)
    rename_i g a' c'
    have h' : pick (Nat.beq f g) (pick (sameL1 a a') (sameL1 c c') false) false = true := h
    obtain ⟨h1, h2⟩ := pickF.1 h'
    obtain ⟨h3, h4⟩ := pickF.1 h2
    rw [beq_iff.1 h1, sameL1_eq h3, sameL1_eq h4]
  | _ => exact flat rfl
theorem recheck_ok {anc : Nat} {h : H} : ∀ {ks ks' : List Look}, recheck anc h ks = some ks' → ∀ k ∈ ks, Nat.testBit anc k.ix = false → k ∈ ks' ∧ k.f h = some k.v := by
  intro ks
  induction ks with
  | nil => intro ks' _ k hk; cases hk
  | cons k0 ks ih =>
    intro ks' hr k hk hb
    have h' : pick (Nat.testBit anc k0.ix) (recheck anc h ks) (bindS (k0.f h) fun v => whenS (v.same k0.v) (bindS (recheck anc h ks) fun r => some (k0 :: r))) = some ks' := hr
    cases hb0 : Nat.testBit anc k0.ix with
    | true =>
      rw [hb0] at h'
      rcases List.mem_cons.1 hk with rfl | hk
      · rw [hb] at hb0; cases hb0
      · exact ih h' k hk hb
    | false =>
      rw [hb0] at h'
      obtain ⟨v, hv, h1⟩ := bindS_some (show bindS (k0.f h) _ = some ks' from h')
      obtain ⟨h2, h3⟩ := whenS_some h1
      obtain ⟨r, h4, h5⟩ := bindS_some h3
      cases h5
      rcases List.mem_cons.1 hk with rfl | hk
      · exact ⟨by simp, by rw [hv, same_eq h2]⟩
      · obtain ⟨a1, a2⟩ := ih h4 k hk hb
        exact ⟨by simp [a1], a2⟩
section
variable {P : Program} {N nt : Nat} {ops : Array Oper} {all pl : List PI} {rec : Rec} {RS : List TH} {σ0 : Sig} {h0 : H} {w0 : World} {ds : List Deferred}
    {s : Array Bool} {e : Nat} {l : List PI} {ks : List Look} {ps : List Pend} {tV : Tm} {hV : H} {tE : Tm} {σ : Sig} {a : Act} {w : World}
theorem exec_sync (hE : ExtOk P) (hR : SoundRec P rec) (hpl : PlanOk P nt ops all pl) {p : PI} (I : Inv P N nt ops all rec RS σ0 h0 w0 ds s e (p :: l) ks ps tV hV tE σ a w) (hsy : p.sy = true) (hanc : ∀ b, Nat.testBit p.anc b = true → LE s b)
    (ro : Option Nat) {Q : Exit → Act → World → Prop} {K : Act → World → Prop}
    (hK : ∀ ks' ps' tV' hV' tE' σ' a' w', Inv P N nt ops all rec RS σ0 h0 w0 ds (s.setIfInBounds p.ix true) (Nat.lor e (2 ^ p.ix)) l ks' ps' tV' hV' tE' σ' a' w' → K a' w') : wpOpIn (FW ro) 0 P ops Q p.ix K a w := by
  have hpa : p ∈ all := I.lmem p (by simp)
  obtain ⟨v1, v2, v3, _⟩ := valid_cons I.val
  obtain ⟨o, ho, _, _, eit⟩ := hpl.items.item p hpa
  have hnE : ¬ LE s p.ix := fun hle => by rw [I.sub _ hle] at v1; cases v1
  have hlt : p.ix < s.size := by rw [I.ssize]; exact (Array.getElem?_eq_some_iff.1 ho).1
  have hdst : p.item.dst = o.dst := by rw [eit]; rfl
  have hlook := I.lookE hpl hpa hanc
  have hg := pi_guard hpl.items hpa hlook
  have hsm := pi_same hpl.items hpa hlook
  have hs' := LE_set hlt
  have hin : ∀ b, Nat.testBit (Nat.lor e (2 ^ p.ix)) b = true ↔ Nat.testBit e b = true ∨ p.ix = b := fun b => by rw [bit_set]; simp
  have hnix : ∀ q ∈ ps, q.ix ≠ p.ix := fun q hq ee => by have := (I.pnum q hq).2.2.1; rw [ee, v1] at this; cases this
  -- what late ones look at is not turned
  have hlk : ∀ q ∈ all, Nat.testBit e q.ix = true → ¬ LE s q.ix → ∀ d ∈ q.looks, p.item.dst ≠ some d := fun q hq hqe hqn d hd ee => by
    rcases apart_looks (hpl.apart p hpa q hq) ee hd with h1 | ⟨_, h1 | h1⟩
    · rw [I.vclosed q hq hqe _ h1] at v1; cases v1
    · rw [h1, hqe] at v1; cases v1
    · exact hqn (hanc _ h1)
  have hdd : ∀ q ∈ all, Nat.testBit e q.ix = true → ¬ LE s q.ix → ∀ d, q.item.dst = some d → p.item.dst ≠ some d := fun q hq hqe hqn d hd ee => by
    have hne : p.ix ≠ q.ix := fun e2 => by rw [e2, hqe] at v1; cases v1
    by_cases hm : d ∈ q.looks
    · exact hlk q hq hqe hqn d hm ee
    · exact apart_dst (hpl.apart p hpa q hq) ee hm hne hd
  have late : ∀ q ∈ all, Nat.testBit (Nat.lor e (2 ^ p.ix)) q.ix = true → ¬ LE (s.setIfInBounds p.ix true) q.ix → Nat.testBit e q.ix = true ∧ ¬ LE s q.ix := fun q hq hqe hqn => by
    refine ⟨?_, fun h => hqn ((hs' _).2 (.inl h))⟩
    rcases (hin _).1 hqe with h1 | h1
    · exact h1
    · exact absurd ((hs' _).2 (.inr h1)) hqn
  have fin : ∀ (v : AV) (u : Value) (ks' : List Look) (ps' : List Pend) (hV' : H) (σ' : Sig) (w' : World), TR σ' (tput tE p.item.dst v) (a.put o.dst u).tmps → Ext P N σ0 h0 w0 σ' (matP (cE (s.setIfInBounds p.ix true)) ps' hV') w' →
      (∀ q ∈ all, Nat.testBit e q.ix = true → ¬ LE s q.ix → Rcd ks ps tV hV q → Rcd ks' ps' (tput tV p.item.dst v) hV' q) → PD ps' hV' → (∀ q ∈ ps', q ∈ ps) → hV.next.toNat ≤ hV'.next.toNat → (∀ q ∈ ps', ¬ LE s q.ix → σ' q.b = none) →
      runPlan rec l ks' ps' (tput tV p.item.dst v) hV' ≠ [] → (∀ x ∈ runPlan rec l ks' ps' (tput tV p.item.dst v) hV', x ∈ RS) → K (a.put o.dst u) w' := by
    intro v u ks' ps' hV' σ' w' htr hext hrec hpd hps hnx hun hrun hres
    refine hK _ _ _ _ _ _ _ _ ⟨by simp [I.ssize], htr, by rw [put_size, I.size], by rw [put_defers, I.defers], hext, fun i hi => ?_, fun q hq hqs hqe => ?_, fun q hq hqe b hb => ?_, fun q hq hqe b hb => ?_, fun d hd => ?_, fun q hq hqe hqn => ?_, hpd, fun q hq => ?_, fun q hq q' hq' => I.pix q (hps q hq) q' (hps q' hq'), fun q hq hqn => hun q hq fun h => hqn ((hs' _).2 (.inl h)), hrun, hres, fun q hq => I.lmem q (by simp [hq]), v3⟩
    · rcases (hs' i).1 hi with h1 | h1
      · exact (hin i).2 (.inl (I.sub i h1))
      · exact (hin i).2 (.inr h1)
    · rcases (hin _).1 hqe with h1 | h1
      · exact (hs' _).2 (.inl (I.sync q hq hqs h1))
      · exact (hs' _).2 (.inr h1)
    · rcases (hs' _).1 hqe with h1 | h1
      · exact (hs' b).2 (.inl (I.closed q hq h1 b hb))
      · have := hpl.items.uniq p hpa q hq h1
        subst this
        exact (hs' b).2 (.inl (hanc b hb))
    · rcases (hin _).1 hqe with h1 | h1
      · exact (hin b).2 (.inl (I.vclosed q hq h1 b hb))
      · have := hpl.items.uniq p hpa q hq h1
        subst this
        exact (hin b).2 (.inl (I.sub _ (hanc b hb)))
    · by_cases ed : p.item.dst = some d
      · rw [ed, tget_tput_same, tget_tput_same]
      · rw [tget_tput ed, tget_tput ed]
        refine I.agree d fun q hq hqe hqn ee => hd q hq ((hin _).2 (.inl hqe)) (fun h => ?_) ee
        rcases (hs' _).1 h with h1 | h1
        · exact hqn h1
        · rw [h1, hqe] at v1; cases v1
    · obtain ⟨b1, b2⟩ := late q hq hqe hqn
      exact hrec q hq b1 b2 (I.recs q hq b1 b2)
    · obtain ⟨b1, b2, b3, b4⟩ := I.pnum q (hps q hq)
      exact ⟨b1, Nat.lt_of_lt_of_le b2 hnx, (hin _).2 (.inl b3), b4⟩
  have keep : ∀ (v : AV), ∀ q ∈ all, Nat.testBit e q.ix = true → ¬ LE s q.ix → Rcd ks ps tV hV q → Rcd ks ps (tput tV p.item.dst v) hV q := fun v q hq hqe hqn hr =>
    hr.keep hpl.items hq (fun d hd => (tget_tput (hlk q hq hqe hqn d hd)).symm) (fun d hd => tget_tput (hdd q hq hqe hqn d hd)) (fun f u hf hu k hk _ _ _ => ⟨hu, hk⟩) (fun _ h _ => h) (fun _ h => .inl h)
  have same : matP (cE (s.setIfInBounds p.ix true)) ps hV = matP (cE s) ps hV := matP_congr hV fun q hq => by
    unfold cE
    rw [getD_set_ne false (fun ee => hnix q hq ee.symm)]
  have hrun := I.run
  have hres := I.res
  rw [runPlan_cons] at hrun hres
  obtain ⟨b, hb, e1⟩ := liftO_ne hrun
  rw [e1] at hrun hres
  unfold wpOpIn
  simp only [ho]
  have hw := wanted_ok (nt := nt) (ops := ops) (o := o) (P := P) I.tr (by rw [← eit, hg]; exact hb)
  cases b with
  | false =>
    rw [if_neg (by rw [hw]; exact Bool.false_ne_true)]
    exact ⟨fun _ _ => trivial, fin .undef undef ks ps hV σ w (by rw [hdst]; exact I.tr.put_undef o.dst) (by rw [same]; exact I.ext) (keep .undef) I.pd (fun _ h => h) (Nat.le_refl _) I.pun hrun hres⟩
  | true =>
    rw [if_pos hw]
    rcases (hpl.sync p hpa).1 hsy with hop | hop
    · unfold isHv at hop
      cases hop' : p.item.op with
      | heavy f =>
        rw [hop'] at hrun hres hsm
        have hrun' : (bindO (f rec tV (mat p.anc ps hV)) fun r => liftO (recheck p.anc r.h ks) fun ks => runPlan rec l ks (lfilter (fun q => bnot (Nat.testBit p.anc q.ix)) ps) (tput tV p.item.dst r.v) r.h) ≠ [] := hrun
        have hres' : ∀ x ∈ (bindO (f rec tV (mat p.anc ps hV)) fun r => liftO (recheck p.anc r.h ks) fun ks => runPlan rec l ks (lfilter (fun q => bnot (Nat.testBit p.anc q.ix)) ps) (tput tV p.item.dst r.v) r.h), x ∈ RS := hres
        obtain ⟨hfn, hall⟩ := bindO_ne hrun'
        rw [mat_eq] at hfn hall
        have hsm' : ∀ h, f rec tE h = f rec tV h := fun h => (show ∀ rec h, f rec tE h = f rec tV h from hsm) rec h
        have c12 : ∀ i, Nat.testBit p.anc i = true → cE s i = true := fun i hi => hanc i hi
        have hsub : ∀ x ox, (matP (Nat.testBit p.anc) ps hV).objs.get x = some ox → (matP (cE s) ps hV).objs.get x = some ox := fun x ox hx => by
          rw [matP_iff I.pd] at hx ⊢
          exact hx.imp (fun ⟨q, a, b, c⟩ => ⟨q, a, c12 _ b, c⟩) id
        have sr : SR P N nt σ tE (matP (Nat.testBit p.anc) ps hV) a w := ⟨I.tr, I.size, I.ext.holds.weak hsub (by rw [matP_next, matP_next]; exact Nat.le_refl _)⟩
        obtain ⟨d2, d3⟩ := item_heavy hE sr hR (by rw [← eit]; exact hop') (by rw [hsm']; exact hfn)
        refine d3 ro K Q fun r hr σ' u w' hu dE => ?_
        rw [hsm'] at hr
        obtain ⟨h1, h2⟩ := hall r hr
        obtain ⟨ks', hks, e2⟩ := liftO_ne h1
        rw [e2] at h1 h2
        have hfil : ∀ q, q ∈ lfilter (fun q => bnot (Nat.testBit p.anc q.ix)) ps ↔ q ∈ ps ∧ Nat.testBit p.anc q.ix = false := fun q => by
          rw [lfilter_eq, List.mem_filter, bnot_eq]; simp
        obtain ⟨f1, f2⟩ := frame (c1 := Nat.testBit p.anc) (c2 := cE s) I.pd c12 I.ext.holds dE (fun q hq hc => I.pun q hq (cE_false.1 hc)) (fun q hq => (I.pnum q hq).2.1) hfil
        have same' : matP (cE (s.setIfInBounds p.ix true)) (lfilter (fun q => bnot (Nat.testBit p.anc q.ix)) ps) r.h = matP (cE s) (lfilter (fun q => bnot (Nat.testBit p.anc q.ix)) ps) r.h := matP_congr r.h fun q hq => by
          unfold cE
          rw [getD_set_ne false (fun ee => hnix q ((hfil q).1 hq).1 ee.symm)]
        have hnx : hV.next.toNat ≤ r.h.next.toNat := by have := dE.next; rw [matP_next] at this; exact this
        refine fin r.v u ks' _ r.h σ' w' (by rw [hdst]; exact (I.tr.mono dE.le).put (by rw [I.size]; exact d2) hu) (by rw [same']; exact I.ext.trans f2) (fun q hq hqe hqn hrc => ?_) f1 (fun q hq => ((hfil q).1 hq).1) hnx (fun q hq hqn => ?_) h1 (fun x hx => hres' x (by rw [mat_eq]; exact h2 x hx))
        · have hqa : Nat.testBit p.anc q.ix = false := by
            cases hb9 : Nat.testBit p.anc q.ix with
            | false => rfl
            | true => exact absurd (hanc _ hb9) hqn
          refine hrc.keep hpl.items hq (fun d hd => (tget_tput (hlk q hq hqe hqn d hd)).symm) (fun d hd => tget_tput (hdd q hq hqe hqn d hd)) (fun f' u' hf hu' k hk k1 k2 k3 => ?_) (fun q' hq' ee => (hfil q').2 ⟨hq', by rw [ee]; exact hqa⟩) (fun q' hq' => .inl ((hfil q').1 hq').1)
          obtain ⟨g1, g2⟩ := recheck_ok hks k hk (by rw [k1]; exact hqa)
          exact ⟨by rw [← k3, g2, k2], g1⟩
        · rw [dE.old q.b (by rw [matP_next]; exact (I.pnum q ((hfil q).1 hq).1).2.1)]
          exact I.pun q ((hfil q).1 hq).1 hqn
      | bad => rw [hop'] at hop; cases hop
      | pure _ => rw [hop'] at hop; cases hop
      | load _ => rw [hop'] at hop; cases hop
      | alloc _ => rw [hop'] at hop; cases hop
    · unfold isPu at hop
      cases hop' : p.item.op with
      | pure f =>
        rw [hop'] at hrun hres hsm
        have hrun' : (liftO (f tV) fun v => runPlan rec l ks ps (tput tV p.item.dst v) hV) ≠ [] := hrun
        obtain ⟨v, hv, e2⟩ := liftO_ne hrun'
        have hres' : ∀ x ∈ (liftO (f tV) fun v => runPlan rec l ks ps (tput tV p.item.dst v) hV), x ∈ RS := hres
        rw [e2] at hrun' hres'
        have hfE : f tE = some v := by rw [(show f tE = f tV from hsm)]; exact hv
        have sr : SR P N nt σ tE (matP (cE s) ps hV) a w := ⟨I.tr, I.size, I.ext.holds⟩
        obtain ⟨u, d1, d2, d3⟩ := item_pure hE sr (by rw [← eit]; exact hop') hfE
        exact d3 ro K Q w (fin v u ks ps hV σ w (by rw [hdst]; exact I.tr.put (by rw [I.size]; exact d2) d1) (by rw [same]; exact I.ext) (keep v) I.pd (fun _ h => h) (Nat.le_refl _) I.pun hrun' hres')
      | bad => rw [hop'] at hop; cases hop
      | heavy _ => rw [hop'] at hop; cases hop
      | load _ => rw [hop'] at hop; cases hop
      | alloc _ => rw [hop'] at hop; cases hop
end
end Go.Proofs.YtgemonlknehegaaGreatDoor.AI
namespace Go.Proofs.YtgemonlknehegaaGreatDoor.AI
open Go
set_option linter.unusedVariables false
set_option linter.unusedSimpArgs false
section
variable {P : Program} {N nt : Nat} {ops : Array Oper} {all pl : List PI} {rec : Rec} {RS : List TH} {σ0 : Sig} {h0 : H} {w0 : World} {ds : List Deferred}
    {s : Array Bool} {e : Nat} {l : List PI} {ks : List Look} {ps : List Pend} {tV : Tm} {hV : H} {tE : Tm} {σ : Sig} {a : Act} {w : World} {t : Tm} {h : H}
theorem Inv.bound (hpl : PlanOk P nt ops all pl) : ∀ (l : List PI) (e : Nat) (ks : List Look) (ps : List Pend) (tV : Tm) (hV : H), Inv P N nt ops all rec RS σ0 h0 w0 ds s e l ks ps tV hV tE σ a w →
    ∃ e' l' ks' ps' tV' hV', Inv P N nt ops all rec RS σ0 h0 w0 ds s e' l' ks' ps' tV' hV' tE σ a w ∧ (l' = [] ∨ ∃ p l'', l' = p :: l'' ∧ p.sy = true)
  | [], e, ks, ps, tV, hV, I => ⟨e, [], ks, ps, tV, hV, I, .inl rfl⟩
  | p :: l, e, ks, ps, tV, hV, I => by
    cases hs : p.sy with
    | true => exact ⟨e, _, ks, ps, tV, hV, I, .inr ⟨p, l, rfl, hs⟩⟩
    | false =>
      obtain ⟨ks', ps', tV', hV', I'⟩ := I.adv hpl hs
      exact Inv.bound hpl l _ ks' ps' tV' hV' I'
theorem ready_LE {j : Nat} : j ∈ Region.ready .any ops s → j < s.size → ¬ LE s j ∧ ∃ o, ops[j]? = some o ∧ ∀ b, Nat.testBit (depOf o) b = true → LE s b := by
  intro hj hlt
  obtain ⟨h1, o, h2, h3⟩ := mem_ready.1 hj
  refine ⟨fun hle => ?_, o, h2, fun b hb => ?_⟩
  · unfold LE at hle
    simp [hlt] at h1 hle
    rw [h1] at hle; cases hle
  · obtain ⟨ed, e1, e2, e3⟩ := (dep_bits o b).1 hb
    rw [← e3]
    exact h3 ed e1 e2
theorem topo (hi : Items P nt ops all) (hsz : s.size = ops.size) : ∀ (l : List PI) (e : Nat), valid all l e = true → (∀ b, Nat.testBit e b = true → LE s b) → (∀ p ∈ l, p ∈ all) → (∀ p ∈ all, LE s p.ix) ∨ ∃ j, j ∈ Region.ready .any ops s
  | [], e, hv, he, _ => .inl fun p hp => he _ (lall_iff.1 (show lall (fun q => Nat.testBit e q.ix) all = true from hv) p hp)
  | p :: l, e, hv, he, hl => by
    obtain ⟨v1, v2, v3, _⟩ := valid_cons hv
    by_cases hp : LE s p.ix
    · refine topo hi hsz l _ v3 (fun b hb => ?_) fun q hq => hl q (by simp [hq])
      rw [bit_set] at hb
      simp at hb
      rcases hb with hb | hb
      · exact he b hb
      · rw [← hb]; exact hp
    · obtain ⟨o, ho, e1, _, _⟩ := hi.item p (hl p (by simp))
      have hlt : p.ix < s.size := by rw [hsz]; exact (Array.getElem?_eq_some_iff.1 ho).1
      refine .inr ⟨p.ix, mem_ready.2 ⟨?_, o, ho, fun ed h1 h2 => he _ (v2 _ ?_)⟩⟩
      · unfold LE at hp
        simp [hlt] at hp ⊢
        exact hp
      · rw [e1]; exact (dep_bits o _).2 ⟨ed, h1, h2, rfl⟩
theorem Inv.done (hpl : PlanOk P nt ops all pl) (I : Inv P N nt ops all rec RS σ0 h0 w0 ds s e l ks ps tV hV tE σ a w) (hall : ∀ p ∈ all, LE s p.ix) {Q : Exit → Act → World → Prop} (hq : RegEnd P N nt σ0 h0 w0 ds RS Q) : Q .normal a w := by
  obtain ⟨e', l', ks', ps', tV', hV', I', hor⟩ := I.bound hpl
  rcases hor with hl | ⟨p, l'', hl, hs⟩
  · subst hl
    have hmem := I'.res ⟨tV', matAll ps' hV'⟩ (List.mem_singleton.2 rfl)
    refine hq _ hmem σ a w ⟨fun i => ?_, I'.size, ?_⟩ I'.defers ?_
    · have := I'.tr i
      rw [I'.agree i fun p hp _ hn => absurd (hall p hp) hn] at this
      exact this
    · have hm : matP (cE s) ps' hV' = matAll ps' hV' := by
        rw [matAll_eq]
        refine matP_congr hV' fun q hq => ?_
        obtain ⟨p, hp, e1, _⟩ := (I'.pnum q hq).2.2.2
        rw [← e1]; exact hall p hp
      rw [← hm]; exact I'.ext.holds
    · have hm : matP (cE s) ps' hV' = matAll ps' hV' := by
        rw [matAll_eq]
        refine matP_congr hV' fun q hq => ?_
        obtain ⟨p, hp, e1, _⟩ := (I'.pnum q hq).2.2.2
        rw [← e1]; exact hall p hp
      rw [← hm]; exact I'.ext
  · subst hl
    obtain ⟨v1, _⟩ := valid_cons I'.val
    rw [I'.sub _ (hall p (I'.lmem p (by simp)))] at v1; cases v1
def unl (s : Array Bool) : Nat := s.toList.countP (fun b => !b)
theorem unl_set {i : Nat} (hi : i < s.size) (hn : ¬ LE s i) : unl (s.setIfInBounds i true) + 1 = unl s := by
  have hf : s[i] = false := by unfold LE at hn; simpa [hi] using hn
  unfold unl
  rw [Array.toList_setIfInBounds, List.countP_set (by simpa using hi)]
  have hf' : s.toList[i]'(by simpa using hi) = false := by simpa using hf
  have hpos : 0 < s.toList.countP (fun b => !b) := List.countP_pos_iff.2 ⟨false, by rw [← hf']; exact List.getElem_mem _, rfl⟩
  simp only [hf', Bool.not_false, if_true, Bool.not_true, Bool.false_eq_true, if_false]
  omega
theorem draw_main (hE : ExtOk P) (hR : SoundRec P rec) (hpl : PlanOk P nt ops all pl) (ro : Option Nat) {Q : Exit → Act → World → Prop} (hq : RegEnd P N nt σ0 h0 w0 ds RS Q) : ∀ (fuel : Nat) (s : Array Bool) (e : Nat) (l : List PI) (ks : List Look) (ps : List Pend) (tV : Tm) (hV : H) (tE : Tm) (σ : Sig) (a : Act) (w : World),
    Inv P N nt ops all rec RS σ0 h0 w0 ds s e l ks ps tV hV tE σ a w → unl s ≤ fuel → wpAnyIn (FW ro) 0 P .any ops Q fuel s a w := by
  have nil : ∀ (s : Array Bool) (e : Nat) (l : List PI) (ks : List Look) (ps : List Pend) (tV : Tm) (hV : H) (tE : Tm) (σ : Sig) (a : Act) (w : World), Inv P N nt ops all rec RS σ0 h0 w0 ds s e l ks ps tV hV tE σ a w → Region.ready .any ops s = [] → Q .normal a w := by
    intro s e l ks ps tV hV tE σ a w I hr
    rcases topo hpl.items I.ssize pl 0 hpl.valid (fun b hb => by simp at hb) hpl.mem with h1 | ⟨j, h1⟩
    · exact I.done hpl h1 hq
    · rw [hr] at h1; cases h1
  have rd : ∀ (s : Array Bool), s.size = ops.size → ∀ j ∈ Region.ready .any ops s, j < s.size := fun s hs j hj => by
    obtain ⟨_, o, ho, _⟩ := mem_ready.1 hj
    rw [hs]; exact (Array.getElem?_eq_some_iff.1 ho).1
  intro fuel
  induction fuel with
  | zero =>
    intro s e l ks ps tV hV tE σ a w I hu
    have hr : Region.ready .any ops s = [] := by
      cases hr : Region.ready .any ops s with
      | nil => rfl
      | cons j js =>
        have hj : j ∈ Region.ready .any ops s := by rw [hr]; simp
        have hlt := rd s I.ssize j hj
        have := unl_set hlt (ready_LE hj hlt).1
        omega
    exact ⟨hr, nil s e l ks ps tV hV tE σ a w I hr⟩
  | succ fuel ih =>
    intro s e l ks ps tV hV tE σ a w I hu
    refine ⟨nil s e l ks ps tV hV tE σ a w I, fun j hj => ?_⟩
    have hlt := rd s I.ssize j hj
    obtain ⟨hn, o, ho, hdep⟩ := ready_LE hj hlt
    have hu' := unl_set hlt hn
    obtain ⟨p, hpa, ep⟩ := hpl.items.each j (by rw [← I.ssize]; exact hlt)
    subst ep
    obtain ⟨o', ho', e1, _, _⟩ := hpl.items.item p hpa
    rw [ho] at ho'; cases ho'
    rw [← e1] at hdep
    obtain ⟨e', l', ks', ps', tV', hV', I', hor⟩ := I.bound hpl
    have hanc : ∀ b, Nat.testBit p.anc b = true → LE s b := anc_sub hpl.items (X := LE s) I'.closed hpa hdep
    have lateC : Nat.testBit e' p.ix = true → wpOpIn (FW ro) 0 P ops Q p.ix (wpAnyIn (FW ro) 0 P .any ops Q fuel (s.setIfInBounds p.ix true)) a w := fun hb =>
      exec_late hE hpl I' hpa hb hn hanc ro fun tE' σ' a' w' I'' => ih _ _ _ _ _ _ _ _ _ _ _ I'' (by omega)
    rcases hor with hl | ⟨p', l'', hl, hs⟩
    · subst hl
      exact lateC (lall_iff.1 (show lall (fun q => Nat.testBit e' q.ix) all = true from I'.val) p hpa)
    · subst hl
      obtain ⟨_, _, _, v4⟩ := valid_cons I'.val
      rcases v4 hs p hpa with h1 | h1 | h1
      · exact lateC h1
      · have := hpl.items.uniq p hpa p' (I'.lmem p' (by simp)) h1
        subst this
        exact exec_sync hE hR hpl I' hs hanc ro fun ks' ps' tV' hV' tE' σ' a' w' I'' => ih _ _ _ _ _ _ _ _ _ _ _ I'' (by omega)
      · exact absurd (fun b hb => I'.sub b (hdep b hb)) h1
theorem region_draw_ok (hE : ExtOk P) (hm : P.follows .mixedOrders = true) (hR : SoundRec P rec) (ro : Option Nat) {Q : Exit → Act → World → Prop} {id : Nat} {pl : List PI} (hp : plan P nt ops = some pl) (sr : SR P N nt σ t h a w) (hne : runPlan rec pl [] [] t h ≠ [])
    (hq : RegEnd P N nt σ h w a.defers (runPlan rec pl [] [] t h) Q) : (Code.region id ops true).wpIn (FW ro) 0 P Q a w := by
  obtain ⟨all, hpl⟩ := plan_ok hp
  refine wpIn_region_any hm ?_
  have hno : ∀ i, ¬ LE (Array.replicate ops.size false) i := fun i hi => by
    unfold LE at hi
    rw [Array.getD_eq_getD_getElem?] at hi
    simp [Array.getElem?_replicate] at hi
    split at hi <;> simp at hi
  refine draw_main hE hR hpl ro hq ops.size _ 0 pl [] [] t h t σ a { w with drawn := w.drawn + 1 } ⟨by simp, sr.tr, sr.size, rfl, Ext.drawn sr.holds _, fun i hi => absurd hi (hno i), fun p _ _ h => by simp at h, fun p _ h => absurd h (hno _), fun p _ h => by simp at h, fun d _ => rfl, fun p _ h => by simp at h,
    ⟨fun q hq => by (cases hq), fun q hq => by (cases hq)⟩, fun q hq => by (cases hq), fun q hq => by (cases hq), fun q hq => by (cases hq), hne, fun x hx => hx, hpl.mem, hpl.valid⟩ ?_
  unfold unl
  refine Nat.le_trans List.countP_le_length ?_
  simp
end
end Go.Proofs.YtgemonlknehegaaGreatDoor.AI
namespace Go.Proofs.YtgemonlknehegaaGreatDoor.AI
open Go
set_option linter.unusedVariables false
set_option linter.unusedSimpArgs false
/-- marks for the rounds' deferred calls -/
def MK (σ : Sig) : List Pos → List Deferred → Prop
  | [], ds => ds = []
  | d :: ms, ds => ∃ l r, σ d = some l ∧ ds = { target := .collected l.blk, args := #[] } :: r ∧ MK σ ms r
theorem MK.mono {σ σ' : Sig} (hl : σ.le σ') : ∀ {ms : List Pos} {ds : List Deferred}, MK σ ms ds → MK σ' ms ds
  | [], ds, h => h
  | d :: ms, ds, ⟨l, r, h1, h2, h3⟩ => ⟨l, r, hl _ _ h1, h2, MK.mono hl h3⟩
def exOf : AExit → Exit
  | .normal => .normal
  | .exit id => .exit id
  | .ret => .ret
def CodeEnd (P : Program) (N nt : Nat) (σ : Sig) (h : H) (w : World) (rs : List EO) (Q : Exit → Act → World → Prop) : Prop :=
  ∀ o ∈ rs, ∀ σ' a' w', SR P N nt σ' o.t o.h a' w' → MK σ' o.ms a'.defers → Ext P N σ h w σ' o.h w' → Q (exOf o.e) a' w'
section
variable {P : Program} {N nt : Nat} {rec : Rec} {σ : Sig} {h : H} {t : Tm} {ms : List Pos} {a : Act} {w : World}
theorem CodeEnd.step {σ' : Sig} {h' : H} {w' : World} {rs rs' : List EO} {Q : Exit → Act → World → Prop} (hq : CodeEnd P N nt σ h w rs Q) (e : Ext P N σ h w σ' h' w') (hs : ∀ r ∈ rs', r ∈ rs) : CodeEnd P N nt σ' h' w' rs' Q :=
  fun o ho σ'' a' w'' s m e' => hq o (hs o ho) σ'' a' w'' s m (e.trans e')
def CodeOk (P : Program) (N nt : Nat) (rec : Rec) (ro : Option Nat) (c : Code) (r : Rec → Tm → List Pos → H → List EO) : Prop :=
  ∀ (σ : Sig) (t : Tm) (ms : List Pos) (h : H) (a : Act) (w : World) (Q : Exit → Act → World → Prop), SR P N nt σ t h a w → MK σ ms a.defers → r rec t ms h ≠ [] → CodeEnd P N nt σ h w (r rec t ms h) Q → c.wpIn (FW ro) 0 P Q a w
theorem andThen_cases (o : EO) (k : Tm → List Pos → H → List EO) : (o.e = .normal ∧ o.andThen k = k o.t o.ms o.h) ∨ (o.e ≠ .normal ∧ o.andThen k = [o]) := by
  obtain ⟨e, t, ms, h⟩ := o
  cases e with
  | normal => exact .inl ⟨rfl, rfl⟩
  | exit id => exact .inr ⟨by simp, rfl⟩
  | ret => exact .inr ⟨by simp, rfl⟩
theorem exOf_then {K : Act → World → Prop} {Q : Exit → Act → World → Prop} {e : AExit} (hne : e ≠ .normal) {a : Act} {w : World} (h : Q (exOf e) a w) : Exit.then K Q (exOf e) a w := by
  cases e with
  | normal => exact absurd rfl hne
  | exit id => exact h
  | ret => exact h
theorem loop_ok {ro : Option Nat} {c : Code} {r : Rec → Tm → List Pos → H → List EO} (hc : CodeOk P N nt rec ro c r) (n : Nat) : CodeOk P N nt rec ro (.loop c) (fun rec t ms h => runLoop r rec n t ms h) := by
  intro σ t ms h a w Q sr mk hne hq
  let J : Nat → Act → World → Prop := fun n a' w' => ∃ σ' t' ms' h', SR P N nt σ' t' h' a' w' ∧ MK σ' ms' a'.defers ∧ runLoop r rec n t' ms' h' ≠ [] ∧ CodeEnd P N nt σ' h' w' (runLoop r rec n t' ms' h') Q
  have least : ∀ n a w, J n a w → ∃ m, J m a w ∧ ∀ k, J k a w → m ≤ k := by
    intro n
    induction n using Nat.strongRecOn with
    | _ n ih =>
      intro a w hn
      by_cases hx : ∃ k, k < n ∧ J k a w
      · obtain ⟨k, hk, hj⟩ := hx
        exact ih k hk a w hj
      · exact ⟨n, hn, fun k hk => by
          apply Classical.byContradiction
          intro hlt
          exact hx ⟨k, by omega, hk⟩⟩
  have least' : ∀ a w, (∃ n, J n a w) → ∃ m, J m a w ∧ ∀ k, J k a w → m ≤ k := fun a w ⟨n, hn⟩ => least n a w hn
  let μ : Act → World → Nat := fun a w => @dite Nat (∃ n, J n a w) (Classical.propDecidable _) (fun h => Classical.choose (least' a w h)) (fun _ => 0)
  have hμ : ∀ a w (h : ∃ n, J n a w), J (μ a w) a w ∧ ∀ k, J k a w → μ a w ≤ k := fun a w h => by
    have : μ a w = Classical.choose (least' a w h) := dif_pos h
    rw [this]
    exact Classical.choose_spec (least' a w h)
  refine wpIn_loop (fun a w => ∃ n, J n a w) μ ⟨n, σ, t, ms, h, sr, mk, hne, hq⟩ fun a w hI => ?_
  obtain ⟨⟨σ', t', ms', h', sr', mk', hne', hq'⟩, hmin⟩ := hμ a w hI
  generalize hm : μ a w = m at *
  cases m with
  | zero => exact absurd rfl hne'
  | succ m =>
    have e0 : runLoop r rec (m + 1) t' ms' h' = bindO (r rec t' ms' h') fun o => o.andThen (runLoop r rec m) := rfl
    rw [e0] at hne' hq'
    obtain ⟨h1, h2⟩ := bindO_ne hne'
    refine hc σ' t' ms' h' a w _ sr' mk' h1 fun o ho σ'' a' w'' s'' m'' e'' => ?_
    obtain ⟨h3, h4⟩ := h2 o ho
    rcases andThen_cases o (runLoop r rec m) with ⟨en, e1⟩ | ⟨en, e1⟩
    · rw [e1] at h3 h4
      have hJ : J m a' w'' := ⟨σ'', o.t, o.ms, o.h, s'', m'', h3, hq'.step e'' h4⟩
      rw [en]
      refine ⟨⟨m, hJ⟩, ?_⟩
      have := (hμ a' w'' ⟨m, hJ⟩).2 m hJ
      omega
    · rw [e1] at h4
      exact exOf_then en (hq' o (h4 o (List.mem_singleton.2 rfl)) σ'' a' w'' s'' m'' e'')
end
end Go.Proofs.YtgemonlknehegaaGreatDoor.AI
