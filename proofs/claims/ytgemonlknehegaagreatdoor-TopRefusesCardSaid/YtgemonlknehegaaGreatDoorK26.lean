/- The chain of TopRefuses, part 26. -/
import Derived.Test.YtgemonlknehegaaGreatDoorK25
namespace Go.Proofs.YtgemonlknehegaaGreatDoor.AI
open Go
set_option linter.unusedVariables false
set_option linter.unusedSimpArgs false
section
variable {κ κ' : Kp} {sh sh' : SH} {h h' : H}
def ElsRel (κ : Kp) (sz : Nat) : Els → List AV → Nat → Prop
  | .cells l k, cs, n => sdenL κ l = some cs ∧ n = k
  | .recs S l, cs, n => cs = encL S l ∧ n = l.length ∧ sz = S.length
  | .bytes l, cs, n => cs = bytesCells l ∧ n = l.length ∧ sz = 1
theorem srcEls_ok {sz : Nat} {x v : SV} {ax : AV} {sh2 : SH} {k : Els → DT (SV × SH)} (hv : (srcEls sz sh x k).val = some (v, sh2)) (st : St κ sh h) (hx : sden κ x = some ax) :
    ∃ els n cs, slen ax = some n ∧ hcells h sz n ax = some cs ∧ ElsRel κ sz els cs n ∧ (k els).val = some (v, sh2) := by
  unfold srcEls at hv
  split at hv
  · rename_i q
    split at hv
    · rename_i e1
      rw [sden_nil hx]
      refine ⟨.cells [] 0, 0, [], ?_, ?_, ⟨rfl, rfl⟩, hv⟩
      · show whenS (Nat.beq q.no 1) (some 0) = _; rw [e1]; rfl
      · show whenS (Nat.beq q.no 1) (some []) = _; rw [e1]; rfl
    · cases hv
  · obtain ⟨p, _, rfl⟩ := sden_etl hx
    exact ⟨.cells [] 0, 0, [], rfl, rfl, ⟨rfl, rfl⟩, hv⟩
  · rename_i x off len cap
    obtain ⟨p, d1, rfl⟩ := sden_sl hx
    split at hv
    · exact ⟨.cells [] 0, 0, [], rfl, rfl, ⟨rfl, rfl⟩, hv⟩
    · rename_i len
      split at hv
      · rename_i ty cells o hg
        obtain ⟨p', ao, d2, d3, cs, d4, rfl⟩ := st.rel x _ hg
        rw [d1] at d2; cases d2
        split at hv
        · rename_i cs' hc
          obtain ⟨k1, rfl⟩ := ltake_some hc
          rw [ldrop_eq] at k1 hv
          rw [List.length_drop] at k1
          have hl := sdenL_length d4
          have es : Nat.succ len * sz = (len + 1) * sz := rfl
          rw [es] at k1
          refine ⟨.cells ((cells.drop off).take ((len + 1) * sz)) (len + 1), len + 1, (cs.drop off).take ((len + 1) * sz), rfl, ?_, ⟨sdenL_take _ (sdenL_drop off d4), rfl⟩, hv⟩
          show h.row p none (fun _ cells _ _ => ltake (Nat.mul (len + 1) sz) (ldrop off cells)) = _
          rw [row_eq d3, ldrop_eq]
          have : Nat.mul (len + 1) sz = (len + 1) * sz := rfl
          rw [this, ltake_of (by rw [List.length_drop]; omega)]
        · cases hv
      · cases hv
  · rename_i x sz' lo len
    obtain ⟨p, d1, rfl⟩ := sden_tsl hx
    split at hv
    · rename_i ty S l e1 hg
      cases beq_iff.1 e1
      obtain ⟨p', ao, d2, d3, rfl⟩ := st.rel x _ hg
      rw [d1] at d2; cases d2
      split at hv
      · rename_i e2
        have e2 := beq_iff.1 e2
        rw [llen_eq] at e2
        subst e2
        obtain ⟨g1, g2⟩ := need_some hv
        have g1 := of_decide_eq_true g1
        have hle : lo * S.length + len * S.length ≤ l.length * S.length := by rw [← Nat.add_mul]; exact Nat.mul_le_mul_right _ g1
        refine ⟨.recs S ((l.drop lo).take len), len, _, rfl, hcells_eq d3 (by rw [encL_length]; exact hle), ⟨?_, ?_, rfl⟩, g2⟩
        · rw [encL_drop, encL_take]
        · rw [List.length_take, List.length_drop]; omega
      · cases hv
    · rename_i ty l e1 hg
      cases beq_iff.1 e1
      obtain ⟨p', ao, d2, d3, rfl⟩ := st.rel x _ hg
      rw [d1] at d2; cases d2
      split at hv
      · rename_i e2
        cases beq_iff.1 e2
        obtain ⟨g1, g2⟩ := need_some hv
        have g1 := of_decide_eq_true g1
        refine ⟨.bytes ((l.drop lo).take len), len, _, rfl, hcells_eq d3 (by rw [bytesCells_length]; omega), ⟨?_, ?_, rfl⟩, g2⟩
        · rw [Nat.mul_one, Nat.mul_one, bytesCells_drop, bytesCells_take]
        · rw [List.length_take, List.length_drop]; omega
      · cases hv
    · cases hv
  · cases hv
theorem toRcs_den {S : List FK} : ∀ {n : Nat} {vs : List SV} {l : List Rc} {as : List AV}, toRcs S n vs = some l → sdenL κ vs = some as → as = encL S l ∧ l.length = n
  | 0, [], l, as, h, hd => by cases h; exact ⟨sdenL_nil.1 hd, rfl⟩
  | 0, _ :: _, l, as, h, hd => by cases h
  | n + 1, vs, l, as, h, hd => by
    unfold toRcs at h
    split at h
    · rename_i v hv
      split at h
      · rename_i r l' h1 h2
        cases h
        obtain ⟨k1, rfl⟩ := ltake_some hv
        rw [llen_eq] at k1 h1 h2
        rw [ldrop_eq] at h2
        obtain ⟨e1, _⟩ := toRc_den h1 (sdenL_take _ hd)
        obtain ⟨e3, e4⟩ := toRcs_den h2 (sdenL_drop _ hd)
        refine ⟨?_, by simp [e4]⟩
        rw [encL_cons, ← e1, ← e3, List.take_append_drop]
      · cases h
    · cases h
theorem sAppend_good {P : Program} {e sz n : Nat} {s v : SV} {as : AV} {els : Els} {sh2 : SH} {cs : List AV} (hv : (sAppend P e sz sh s els).val = some (v, sh2)) (hr : ElsRel κ sz els cs n) (st : St κ sh h) (hs : sden κ s = some as) :
    small n = true ∧ Good κ sh h v sh2 (aAppend e sz h as cs n) := by
  unfold sAppend at hv
  split at hv
  · rename_i l k
    obtain ⟨h1, rfl⟩ := hr
    split at hv
    · rename_i hsm
      refine ⟨hsm, ?_⟩
      split at hv
      · rename_i S hS
        split at hv
        · exact app0_good hv st hs
        · rename_i k
          split at hv
          · split at hv
            · rename_i c l' hb hz
              rw [Bool.and_eq_true] at hz
              cases beq_iff.1 hz.1
              have hz2 := beq_iff.1 hz.2
              rw [llen_eq] at hz2
              obtain ⟨g1, g2⟩ := need_some hv
              obtain ⟨_, e2⟩ := svBytes_ok hb g1 h1
              have hl : l'.length = k + 1 := by
                rw [← bytesCells_length, ← e2, sdenL_length h1, hz2]
              have := appBytes_good (fun _ e => by rw [e] at hl; cases hl) g2 st hs
              rw [e2]; rw [hl] at this; exact this
            · cases hv
          · split at hv
            · rename_i l' hz hc
              obtain ⟨e1, e2⟩ := toRcs_den hc h1
              have hz := beq_iff.1 hz
              rw [llen_eq] at hz
              have := appRecs_good (fun _ e => by rw [e] at e2; cases e2) hv st hs
              rw [e1, ← hz]; rw [e2] at this; exact this
            · cases hv
      · exact appRaw_good hv st hs h1
    · cases hv
  · rename_i S l
    obtain ⟨rfl, rfl, rfl⟩ := hr
    split at hv
    · rename_i S' hS
      split at hv
      · rename_i e1 e2
        obtain ⟨g1, g2⟩ := need_some hv
        exact ⟨blt_iff.2 (of_decide_eq_true g1), appRecs_good (fun e => by cases e) g2 st hs⟩
      · cases hv
    · cases hv
  · rename_i l
    obtain ⟨rfl, rfl, rfl⟩ := hr
    split at hv
    · rename_i S' hS
      split at hv
      · rename_i e1
        obtain ⟨g1, g2⟩ := need_some hv
        exact ⟨blt_iff.2 (of_decide_eq_true g1), appBytes_good (fun e => by cases e) g2 st hs⟩
      · cases hv
    · cases hv
theorem smallS_ok {s v : SV} {as : AV} {sh2 : SH} {k : DT (SV × SH)} (hv : (smallS s k).val = some (v, sh2)) (hs : sden κ s = some as) : k.val = some (v, sh2) ∧ ∃ m, slen as = some m ∧ small m = true := by
  unfold smallS at hv
  split at hv
  · rename_i q
    split at hv
    · rename_i e1
      rw [sden_nil hs]
      refine ⟨hv, 0, ?_, rfl⟩
      show whenS (Nat.beq q.no 1) (some 0) = _; rw [e1]; rfl
    · cases hv
  · rename_i x off len cap
    obtain ⟨p, d1, rfl⟩ := sden_sl hs
    split at hv
    · rename_i e1; exact ⟨hv, len, rfl, e1⟩
    · cases hv
  · obtain ⟨p, _, rfl⟩ := sden_etl hs
    exact ⟨hv, 0, rfl, rfl⟩
  · rename_i x z lo len
    obtain ⟨p, d1, rfl⟩ := sden_tsl hs
    obtain ⟨g1, g2⟩ := need_some hv
    exact ⟨g2, len, rfl, blt_iff.2 (of_decide_eq_true g1)⟩
  · cases hv
/-! ### Maps -/
theorem okK3_ok {q : EqK} {k : SV} {ak : AV} (h : okK3 q k = true) (hd : sden κ k = some ak) : okK 4 q ak = true := by
  unfold okK3 at h
  split at h
  · rw [sden_i hd]; rfl
  · rw [sden_s hd]; rfl
  · rename_i fs xs
    obtain ⟨as, d1, rfl⟩ := sden_agg hd
    show okL (okK 3) fs as = true
    rw [List.all_eq_true] at h
    clear hd
    induction fs with
    | nil => rfl
    | cons f l ih =>
      have hf := h f (List.mem_cons_self ..)
      have hl := ih (fun x hx => h x (List.mem_cons_of_mem _ hx))
      have key : ∀ a, part as f.1 f.2.1 = some a → okK 3 f.2.2 a = true → okL (okK 3) (f :: l) as = true := fun a h1 h2 => by
        unfold okL
        rw [h1]
        show pick (okK 3 f.2.2 a) (okL (okK 3) l as) false = true
        rw [h2]; exact hl
      split at hf
      · rename_i o kk n e1 e2 e3
        rw [lget_eq] at e3
        obtain ⟨a, q1, q2⟩ := sdenL_get d1 e3
        refine key a ?_ ?_
        · rw [e1]; show lget as f.1 = _; rw [lget_eq]; exact q2
        · rw [e2, sden_i q1]; rfl
      · rename_i o s e1 e2 e3
        rw [lget_eq] at e3
        obtain ⟨a, q1, q2⟩ := sdenL_get d1 e3
        refine key a ?_ ?_
        · rw [e1]; show lget as f.1 = _; rw [lget_eq]; exact q2
        · rw [e2, sden_s q1]; rfl
      · cases hf
  · cases h
theorem mden_cons {e : SV × SV × Nat} {l : List (SV × SV × Nat)} {r : List ME} : mden κ (e :: l) = some r ↔ ∃ k v s, sden κ e.1 = some k ∧ sden κ e.2.1 = some v ∧ mden κ l = some s ∧ r = ⟨k, v, e.2.2⟩ :: s := by
  cases h1 : sden κ e.1 <;> cases h2 : sden κ e.2.1 <;> cases h3 : mden κ l <;> simp [mden, h1, h2, h3, eq_comm]
theorem mden_append : ∀ {l m : List (SV × SV × Nat)} {r s : List ME}, mden κ l = some r → mden κ m = some s → mden κ (l ++ m) = some (r ++ s)
  | [], m, r, s, h, h' => by have : r = [] := by simpa [mden, eq_comm] using h
                             subst this; exact h'
  | e :: l, m, r, s, h, h' => by
    obtain ⟨k, v, t, h1, h2, h3, rfl⟩ := mden_cons.1 h
    exact mden_cons.2 ⟨k, v, t ++ s, h1, h2, mden_append h3 h', rfl⟩
theorem mden_set : ∀ {l : List (SV × SV × Nat)} {r : List ME} {i : Nat} {k v : SV} {ak av : AV} {b : Nat}, mden κ l = some r → (∃ e, r[i]? = some e ∧ e.born = b) → sden κ k = some ak → sden κ v = some av →
    mden κ (l.set i (k, v, b)) = some (lmodify (fun e => ⟨ak, av, e.born⟩) i r)
  | [], r, i, k, v, ak, av, b, h, ⟨e, he, _⟩, _, _ => by have : r = [] := by simpa [mden, eq_comm] using h
                                                         subst this; simp at he
  | x :: l, r, i, k, v, ak, av, b, h, ⟨e, he, hb⟩, hk, hv => by
    obtain ⟨k', v', t, h1, h2, h3, rfl⟩ := mden_cons.1 h
    cases i with
    | zero =>
      simp at he; subst he
      exact mden_cons.2 ⟨ak, av, t, hk, hv, h3, by rw [← hb]; rfl⟩
    | succ i =>
      exact mden_cons.2 ⟨k', v', _, h1, h2, mden_set h3 ⟨e, by simpa using he, hb⟩ hk hv, rfl⟩
theorem afind_cons (eq : AV → Option Bool) (e : ME) (l : List ME) (i : Nat) : afind eq (e :: l) i = bindS (eq e.k) fun b => pick b (some (some (i, e))) (afind eq l (Nat.succ i)) := rfl
theorem sFind_ok {q : EqK} {k : SV} {ak : AV} {f : Nat → SV → SV → Nat → DT (SV × SH)} {g : DT (SV × SH)} {r : SV × SH} (hk : sden κ k = some ak) : ∀ {es : List (SV × SV × Nat)} {mes : List ME} {i : Nat}, (sFind q k f g es i).val = some r → mden κ es = some mes →
    (∃ j e me, es[j]? = some e ∧ mes[j]? = some me ∧ sden κ e.1 = some me.k ∧ sden κ e.2.1 = some me.v ∧ me.born = e.2.2 ∧ afind (fun v => aeq 5 q ak v) mes i = some (some (i + j, me)) ∧ (f (i + j) e.1 e.2.1 e.2.2).val = some r) ∨ (afind (fun v => aeq 5 q ak v) mes i = some none ∧ g.val = some r)
  | [], mes, i, h, hm => by
    have : mes = [] := by simpa [mden, eq_comm] using hm
    subst this; exact .inr ⟨rfl, h⟩
  | e :: l, mes, i, h, hm => by
    obtain ⟨k', v', t, h1, h2, h3, rfl⟩ := mden_cons.1 hm
    unfold sFind at h
    split at h
    · rename_i tb htb
      have e1 := seq3_ok 5 q k e.1 tb ak k' htb hk h1
      rw [afind_cons]
      show _ ∨ (bindS (aeq 5 q ak k') _ = _ ∧ _)
      have yes : tb.c = true → (f i e.1 e.2.1 e.2.2).val = some r → ∃ j e' me, (e :: l)[j]? = some e' ∧ (⟨k', v', e.2.2⟩ :: t : List ME)[j]? = some me ∧ sden κ e'.1 = some me.k ∧ sden κ e'.2.1 = some me.v ∧ me.born = e'.2.2 ∧ (bindS (aeq 5 q ak k') fun b => pick b (some (some (i, (⟨k', v', e.2.2⟩ : ME)))) (afind (fun v => aeq 5 q ak v) t (Nat.succ i))) = some (some (i + j, me)) ∧ (f (i + j) e'.1 e'.2.1 e'.2.2).val = some r := fun hc hf => by
        refine ⟨0, e, ⟨k', v', e.2.2⟩, rfl, rfl, h1, h2, rfl, ?_, hf⟩
        rw [e1, hc]; rfl
      have no : tb.c = false → (sFind q k f g l (Nat.succ i)).val = some r → (∃ j e' me, (e :: l)[j]? = some e' ∧ (⟨k', v', e.2.2⟩ :: t : List ME)[j]? = some me ∧ sden κ e'.1 = some me.k ∧ sden κ e'.2.1 = some me.v ∧ me.born = e'.2.2 ∧ (bindS (aeq 5 q ak k') fun b => pick b (some (some (i, (⟨k', v', e.2.2⟩ : ME)))) (afind (fun v => aeq 5 q ak v) t (Nat.succ i))) = some (some (i + j, me)) ∧ (f (i + j) e'.1 e'.2.1 e'.2.2).val = some r) ∨ ((bindS (aeq 5 q ak k') fun b => pick b (some (some (i, (⟨k', v', e.2.2⟩ : ME)))) (afind (fun v => aeq 5 q ak v) t (Nat.succ i))) = some none ∧ g.val = some r) := fun hc hf => by
        rw [e1, hc]
        rcases sFind_ok hk hf h3 with ⟨j, e', me, a1, a2, a3, a4, a5, a6, a7⟩ | ⟨a1, a2⟩
        · refine .inl ⟨j + 1, e', me, a1, a2, a3, a4, a5, ?_, ?_⟩
          · show afind _ t (Nat.succ i) = _; rw [a6]; congr 3; show i + 1 + j = i + (j + 1); omega
          · have : Nat.succ i + j = i + (j + 1) := by show i + 1 + j = i + (j + 1); omega
            rw [← this]; exact a7
        · exact .inr ⟨a1, a2⟩
      split at h
      · split at h
        · rename_i hc; exact .inl (yes hc h)
        · rename_i hc; exact no hc h
      · rcases node_some h with ⟨hc, hf⟩ | ⟨hc, hf⟩
        · exact .inl (yes hc hf)
        · exact no hc hf
    · cases h
theorem slook_ok (k : List UInt8) : ∀ (l : List (List UInt8 × Int)) (i : Nat), (slook l k = none ∧ afind (fun v => aeq 5 .str (.str k) v) (smapE l i) i = some none) ∨ (∃ n j, slook l k = some n ∧ afind (fun v => aeq 5 .str (.str k) v) (smapE l i) i = some (some (i + j, ⟨.str k, .int .i64 n, i + j⟩)) ∧ ∀ m, smapE (sput l k m) i = lmodify (fun e => ⟨.str k, .int .i64 m, e.born⟩) j (smapE l i))
  | [], i => .inl ⟨rfl, rfl⟩
  | p :: l, i => by
    have e0 : smapE (p :: l) i = ⟨.str p.1, .int .i64 p.2, i⟩ :: smapE l (i + 1) := rfl
    rw [e0, afind_cons]
    have e1 : aeq 5 .str (.str k) (.str p.1) = some (k == p.1) := by
      show some (beqB k p.1) = _; rw [beqB_eq]
    rw [e1]
    by_cases h : p.1 = k
    · refine .inr ⟨p.2, 0, ?_, ?_, fun m => ?_⟩
      · show (if p.1 = k then some p.2 else slook l k) = _; rw [if_pos h]
      · rw [h]; show pick (k == k) _ _ = _; rw [beq_self_eq_true]; rfl
      · show smapE (if p.1 = k then (k, m) :: l else p :: sput l k m) i = _; rw [if_pos h]; rfl
    · have h2 : (k == p.1) = false := by rw [beq_eq_false_iff_ne]; exact fun e => h e.symm
      rw [h2]
      show (slook (p :: l) k = none ∧ afind _ (smapE l (i + 1)) (i + 1) = some none) ∨ (∃ n j, slook (p :: l) k = some n ∧ afind _ (smapE l (i + 1)) (i + 1) = _ ∧ _)
      have e3 : slook (p :: l) k = slook l k := by show (if p.1 = k then some p.2 else slook l k) = _; rw [if_neg h]
      rw [e3]
      rcases slook_ok k l (i + 1) with ⟨a, b⟩ | ⟨n, j, a, b, c⟩
      · exact .inl ⟨a, b⟩
      · refine .inr ⟨n, j + 1, a, ?_, fun m => ?_⟩
        · rw [b]; have : i + 1 + j = i + (j + 1) := by omega
          rw [this]
        · show smapE (if p.1 = k then (k, m) :: l else p :: sput l k m) i = _
          rw [if_neg h]
          show ⟨.str p.1, .int .i64 p.2, i⟩ :: smapE (sput l k m) (i + 1) = _
          rw [c m]; rfl
theorem smapE_none (k : List UInt8) (m : Int) : ∀ (l : List (List UInt8 × Int)) (i : Nat), slook l k = none → smapE (sput l k m) i = smapE l i ++ [⟨.str k, .int .i64 m, i + l.length⟩] ∧ (sput l k m).length = l.length + 1
  | [], i, _ => ⟨rfl, rfl⟩
  | p :: l, i, h => by
    have h' : (if p.1 = k then some p.2 else slook l k) = none := h
    by_cases hp : p.1 = k
    · rw [if_pos hp] at h'; cases h'
    · rw [if_neg hp] at h'
      obtain ⟨a, b⟩ := smapE_none k m l (i + 1) h'
      have e : sput (p :: l) k m = p :: sput l k m := by show (if p.1 = k then (k, m) :: l else p :: sput l k m) = _; rw [if_neg hp]
      rw [e]
      refine ⟨?_, by simp [b]⟩
      show ⟨.str p.1, .int .i64 p.2, i⟩ :: smapE (sput l k m) (i + 1) = _
      rw [a]
      have : i + 1 + l.length = i + (l.length + 1) := by omega
      rw [this]; rfl
theorem sput_length (k : List UInt8) (m : Int) : ∀ (l : List (List UInt8 × Int)) {n : Int}, slook l k = some n → (sput l k m).length = l.length
  | [], _, h => by cases h
  | p :: l, n, h => by
    have h' : (if p.1 = k then some p.2 else slook l k) = some n := h
    by_cases hp : p.1 = k
    · have e : sput (p :: l) k m = (k, m) :: l := by show (if p.1 = k then (k, m) :: l else p :: sput l k m) = _; rw [if_pos hp]
      rw [e]; simp
    · rw [if_neg hp] at h'
      have e : sput (p :: l) k m = p :: sput l k m := by show (if p.1 = k then (k, m) :: l else p :: sput l k m) = _; rw [if_neg hp]
      rw [e]; simp [sput_length k m l h']
/-- looking up -/
noncomputable def aLookup (q : EqK) (z : AV) (ok : Bool) (h : H) (m k : AV) : Option AV := bindS (mapGet q h m k) fun r => match r with
  | some (_, en) => some (pick ok (.tuple [en.v, .bool true]) en.v)
  | none => some (pick ok (.tuple [z, .bool false]) z)
theorem sLookup_ok {q : EqK} {z : AV} {ok : Bool} {m k v : SV} {am ak : AV} (hv : (sLookup q (ofAV z) ok sh m k).val = some v) (st : St κ sh h) (hm : sden κ m = some am) (hk : sden κ k = some ak) : ∃ av, aLookup q z ok h am ak = some av ∧ sden κ v = some av := by
  have tup : ∀ {w : SV} {a : AV} {b : Bool} {o : Bool}, sden κ w = some a → sden κ (okV ok w (.b o b)) = some (pick ok (.tuple [a, .bool b]) a) := fun {w a b o} hw => by
    cases ok
    · exact hw
    · show sden κ (.tuple [w, .b o b]) = _
      simp only [sden, sdenL, hw]; rfl
  unfold sLookup at hv
  split at hv
  · rename_i hok
    have hok' := okK3_ok hok hk
    split at hv
    · rename_i n
      split at hv
      · rename_i e1
        rw [sden_nil hm, ← leaf_some hv]
        refine ⟨pick ok (.tuple [z, .bool false]) z, ?_, tup (sden_ofAV z)⟩
        show bindS (whenS (okK 4 q ak) (whenS (Nat.beq n.no 2) (some none))) _ = _
        rw [hok', e1]; rfl
      · cases hv
    · rename_i x
      obtain ⟨p, d1, rfl⟩ := sden_map hm
      split at hv
      · rename_i es clock hg
        obtain ⟨p', ao, d2, d3, mes, d4, rfl⟩ := st.rel x _ hg
        rw [d1] at d2; cases d2
        obtain ⟨r, hr, hv'⟩ := bind_some hv
        have hmg : mapGet q h (.map p) ak = afind (fun v => aeq 5 q ak v) mes 0 := by
          show whenS (okK 4 q ak) (h.map p none fun es _ => afind (fun v => aeq 5 q ak v) es 0) = _
          rw [hok', map_eq d3]; rfl
        unfold aLookup
        rw [hmg]
        rw [← leaf_some hv']
        rcases sFind_ok hk hr d4 with ⟨j, e, me, a1, a2, a3, a4, a5, a6, a7⟩ | ⟨a1, a2⟩
        · rw [a6, ← leaf_some a7]
          exact ⟨_, rfl, tup a4⟩
        · rw [a1, ← leaf_some a2]
          exact ⟨_, rfl, tup (sden_ofAV z)⟩
      · rename_i l hg
        obtain ⟨p', ao, d2, d3, rfl⟩ := st.rel x _ hg
        rw [d1] at d2; cases d2
        split at hv
        · rename_i o n o' kk hz
          rw [← leaf_some hv]
          have hz' : z = .int .i64 n := by
            have := sden_ofAV (κ := κ) z
            rw [hz] at this
            exact sden_i this
          rw [sden_s hk] at hok' ⊢
          have hmg : mapGet .str h (.map p) (.str kk) = afind (fun v => aeq 5 .str (.str kk) v) (smapE l 0) 0 := by
            show whenS (okK 4 .str (.str kk)) (h.map p none fun es _ => afind (fun v => aeq 5 .str (.str kk) v) es 0) = _
            rw [hok', map_eq d3]; rfl
          unfold aLookup
          rw [hmg, hz']
          rcases slook_ok kk l 0 with ⟨a, b⟩ | ⟨m, j, a, b, _⟩
          · rw [a, b]; exact ⟨_, rfl, rfl⟩
          · rw [a, b]; exact ⟨_, rfl, rfl⟩
        · cases hv
      · cases hv
    · cases hv
  · cases hv
theorem key1_ok {x y : SV} {ax ay : AV} {c : Bool} (h : key1 x y = some c) (hc : c = true) (hx : sden κ x = some ax) (hy : sden κ y = some ay) : flat1 ax ay = true := by
  unfold key1 at h
  split at h
  · rename_i o u o' w
    cases h
    rw [sden_b hx, sden_b hy]
    show beqv u w = true
    rw [beqv_iff]; exact hc
  · rename_i o k u o' k' w
    split at h
    · rename_i hk
      cases ikeq_iff.1 hk
      cases h
      rw [sden_i hx, sden_i hy, of_decide_eq_true hc]
      show pick (ikeq k k) (intEq w w) false = true
      rw [ikeq_iff.2 rfl]
      show intEq w w = true
      cases w with
      | ofNat n => exact Nat.beq_refl n
      | negSucc n => exact decide_eq_true rfl
    · cases h
  · rename_i o u o' w
    cases h
    rw [sden_s hx, sden_s hy, of_decide_eq_true hc]
    show beqB w w = true
    rw [beqB_eq]; exact beq_self_eq_true w
  · cases h
theorem keyL_ok : ∀ {l m : List SV} {al am : List AV} {c : Bool}, keyL l m = some c → c = true → sdenL κ l = some al → sdenL κ m = some am → flatL al am = true
  | [], [], al, am, c, h, hc, hl, hm => by rw [sdenL_nil.1 hl, sdenL_nil.1 hm]; rfl
  | a :: l, b :: m, al, am, c, h, hc, hl, hm => by
    obtain ⟨ax, s, h1, h2, rfl⟩ := sdenL_cons.1 hl
    obtain ⟨bx, t, h3, h4, rfl⟩ := sdenL_cons.1 hm
    unfold keyL at h
    split at h
    · rename_i x y e1 e2
      cases h
      rw [Bool.and_eq_true] at hc
      show Bool.rec false (flatL s t) (flat1 ax bx) = true
      rw [key1_ok e1 hc.1 h1 h3]
      exact keyL_ok e2 hc.2 h2 h4
    · cases h
  | [], _ :: _, al, am, c, h, hc, hl, hm => by cases h
  | _ :: _, [], al, am, c, h, hc, hl, hm => by cases h
theorem key3_ok {x y : SV} {ax ay : AV} {c : Bool} (h : key3 x y = some c) (hc : c = true) (hx : sden κ x = some ax) (hy : sden κ y = some ay) : keySame ax ay = true := by
  unfold key3 at h
  split at h
  · obtain ⟨l, d1, rfl⟩ := sden_agg hx
    obtain ⟨m, d2, rfl⟩ := sden_agg hy
    exact keyL_ok h hc d1 d2
  · have hf := key1_ok h hc hx hy
    have : ∀ l, ax ≠ .agg l := fun l e => by
      subst e
      unfold key1 at h
      split at h
      · cases sden_b hx
      · cases sden_i hx
      · cases sden_s hx
      · cases h
    show ax.onAgg (flat1 ax ay) _ = true
    cases ax <;> first | exact hf | exact absurd rfl (this _)
theorem mapTurn_eq {q : EqK} {p : Pos} {ak : AV} {es : List ME} {clock : Nat} (hok : okK 4 q ak = true) (hg : h.objs.get p = some (.map es clock)) (f : Pos → List ME → Nat → Nat → ME → List VR) (g : Pos → List ME → Nat → List VR) :
    mapTurn q h (.map p) ak f g = liftO (afind (fun v => aeq 5 q ak v) es 0) fun r => match r with | some (i, e) => f p es clock i e | none => g p es clock := by
  show pick (okK 4 q ak) (h.map p [] fun es clock => liftO (afind (fun v => aeq 5 q ak v) es 0) fun r => match r with | some (i, e) => f p es clock i e | none => g p es clock) [] = _
  rw [hok, map_eq hg]; rfl
theorem sMapPut_good {q : EqK} {m k x v : SV} {am ak ax : AV} {sh2 : SH} (hv : (sMapPut q sh m k x).val = some (v, sh2)) (st : St κ sh h) (hm : sden κ m = some am) (hk : sden κ k = some ak) (hx : sden κ x = some ax) : Good κ sh h v sh2 (mapPut q h am ak ax) := by
  unfold sMapPut at hv
  split at hv
  · rename_i y hok
    have hok' := okK3_ok hok hk
    obtain ⟨p, d1, rfl⟩ := sden_map hm
    split at hv
    · rename_i es clock hg
      obtain ⟨p', ao, d2, d3, mes, d4, rfl⟩ := st.rel y _ hg
      rw [d1] at d2; cases d2
      unfold mapPut
      rw [mapTurn_eq hok' d3]
      rcases sFind_ok hk hv d4 with ⟨j, e, me, a1, a2, a3, a4, a5, a6, a7⟩ | ⟨a1, a2⟩
      · rw [a6]
        split at a7
        · rename_i c hc
          obtain ⟨g1, g2⟩ := need_some a7
          cases leaf_some g2
          show Good _ _ _ _ _ (whenL (keySame me.k ak) [⟨.undef, h.set p (.map (lmodify (fun e => ⟨ak, ax, e.born⟩) (0 + j) mes) clock)⟩])
          rw [key3_ok hc g1 a3 hk]
          obtain ⟨s1, f1⟩ := st.put (o := .map (es.set (0 + j) (k, x, e.2.2)) clock) (ao := .map (lmodify (fun e => ⟨ak, ax, e.born⟩) (0 + j) mes) clock) d1 hg ⟨_, mden_set d4 ⟨me, by rw [Nat.zero_add]; exact a2, a5⟩ hk hx, rfl⟩
          exact Good.one ⟨κ, rfl, s1, f1⟩
        · cases a7
      · rw [a1]
        cases leaf_some a2
        show Good _ _ _ _ _ [⟨.undef, h.set p (.map (lapp mes [⟨ak, ax, clock⟩]) (Nat.succ clock))⟩]
        obtain ⟨s1, f1⟩ := st.put (o := .map (lapp es [(k, x, clock)]) (Nat.succ clock)) (ao := .map (lapp mes [⟨ak, ax, clock⟩]) (Nat.succ clock)) d1 hg (by
          rw [lapp_eq, lapp_eq]
          exact ⟨_, mden_append d4 (mden_cons.2 ⟨ak, ax, [], hk, hx, rfl, rfl⟩), rfl⟩)
        exact Good.one ⟨κ, rfl, s1, f1⟩
    · rename_i l hg
      obtain ⟨p', ao, d2, d3, rfl⟩ := st.rel y _ hg
      rw [d1] at d2; cases d2
      split at hv
      · rename_i o kk o' n
        cases leaf_some hv
        rw [sden_s hk] at hok' ⊢
        rw [sden_i hx]
        unfold mapPut
        rw [mapTurn_eq hok' d3]
        rcases slook_ok kk l 0 with ⟨a, b⟩ | ⟨m', j, a, b, c⟩
        · rw [b]
          obtain ⟨e1, e2⟩ := smapE_none kk n l 0 a
          show Good _ _ _ _ _ [⟨.undef, h.set p (.map (lapp (smapE l 0) [⟨.str kk, .int .i64 n, l.length⟩]) (Nat.succ l.length))⟩]
          obtain ⟨s1, f1⟩ := st.put (o := .smap (sput l kk n)) (ao := .map (lapp (smapE l 0) [⟨.str kk, .int .i64 n, l.length⟩]) (Nat.succ l.length)) d1 hg (by
            show _ = AObj.map (smapE (sput l kk n) 0) (sput l kk n).length
            rw [e1, e2, lapp_eq, Nat.zero_add])
          exact Good.one ⟨κ, rfl, s1, f1⟩
        · rw [b]
          show Good _ _ _ _ _ (whenL (keySame (.str kk) (.str kk)) [⟨.undef, h.set p (.map (lmodify (fun e => ⟨.str kk, .int .i64 n, e.born⟩) (0 + j) (smapE l 0)) l.length)⟩])
          have : keySame (.str kk) (.str kk) = true := by show beqB kk kk = true; rw [beqB_eq]; exact beq_self_eq_true kk
          rw [this]
          obtain ⟨s1, f1⟩ := st.put (o := .smap (sput l kk n)) (ao := .map (lmodify (fun e => ⟨.str kk, .int .i64 n, e.born⟩) (0 + j) (smapE l 0)) l.length) d1 hg (by
            show _ = AObj.map (smapE (sput l kk n) 0) (sput l kk n).length
            rw [c, sput_length kk n l a, Nat.zero_add])
          exact Good.one ⟨κ, rfl, s1, f1⟩
      · cases hv
    · cases hv
  · cases hv
/-! ### Clearing -/
theorem encL_replicate (S : List FK) (n : Nat) (r : Rc) : encL S (List.replicate n r) = (List.replicate n (encR S r)).flatten := by
  induction n with
  | zero => rfl
  | succ n ih => rw [List.replicate_succ, encL_cons, ih, List.replicate_succ, List.flatten_cons]
theorem flat1_same {x y : AV} (h : flat1 x y = true) : x = y := by
  cases x with
  | bool b => cases y with
    | bool b' =>
      have h' : beqv b b' = true := h
      rw [beqv_iff] at h'
      rw [beq_iff_eq.1 h']
    | _ => cases h
  | int k n => cases y with
    | int k' n' =>
      have h' : pick (ikeq k k') (intEq n n') false = true := h
      cases h1 : ikeq k k' with
      | false => rw [h1] at h'; cases h'
      | true =>
      rw [h1] at h'
      have h2 : intEq n n' = true := h'
      cases ikeq_iff.1 h1
      have : n = n' := by
        cases n <;> cases n'
        · have h3 : Nat.beq _ _ = true := h2; rw [beq_iff.1 h3]
        · exact of_decide_eq_true h2
        · exact of_decide_eq_true h2
        · exact of_decide_eq_true h2
      rw [this]
    | _ => cases h
  | str s => cases y with
    | str s' =>
      have h' : beqB s s' = true := h
      rw [beqB_eq] at h'
      rw [beq_iff_eq.1 h']
    | _ => cases h
  | _ => cases h
theorem flatL_same : ∀ {l m : List AV}, flatL l m = true → l = m := by
  intro l
  induction l with
  | nil => intro m h; exact (isNil_eq.1 (show isNil m = true from h)).symm
  | cons a l ih =>
    intro m h
    cases m with
    | nil => cases h
    | cons b m =>
      have h' : Bool.rec false (flatL l m) (flat1 a b) = true := h
      cases hf : flat1 a b with
      | false => rw [hf] at h'; cases h'
      | true => rw [hf] at h'; rw [flat1_same hf, ih h']
theorem St.again (s : St κ sh h) {x : Nat} {o o0 : SO} (hg : sh.get x = some o0) (hr : ∀ ao, ORel κ o0 ao → ORel κ o ao) : St κ (sh.put x o) h ∧ Fr κ sh h κ (sh.put x o) h := by
  have hget : ∀ y o', (sh.put x o).get y = some o' → (y = x ∧ o' = o) ∨ (y ≠ x ∧ sh.get y = some o') := fun y o' hy => by
    rw [get_put] at hy
    by_cases e : y = x
    · rw [if_pos e, hg] at hy; cases hy; exact .inl ⟨e, rfl⟩
    · rw [if_neg e] at hy; exact .inr ⟨e, hy⟩
  refine ⟨⟨fun y o' hy => ?_, s.inj, s.fresh, s.low, fun y o' hy => ?_⟩, ⟨Kp.le_refl κ, Nat.le_refl _, Nat.le_refl _, fun _ _ _ => rfl, fun _ _ => rfl, fun y o' hy hl => ?_, fun y q hy hq => by rw [s.fresh y hy] at hq; cases hq⟩⟩
  · rcases hget y o' hy with ⟨rfl, rfl⟩ | ⟨e, hy⟩
    · obtain ⟨p, ao, h1, h2, h3⟩ := s.rel _ _ hg
      exact ⟨p, ao, h1, h2, hr ao h3⟩
    · exact s.rel y o' hy
  · rcases hget y o' hy with ⟨rfl, rfl⟩ | ⟨e, hy⟩
    · exact s.bnd _ _ hg
    · exact s.bnd _ _ hy
  · rcases hget y o' hy with ⟨rfl, rfl⟩ | ⟨e, hy⟩
    · exact ⟨_, hg⟩
    · exact ⟨_, hy⟩
noncomputable def aClear (zc : List AV) (h : H) (ax : AV) : List VR := liftO (slen ax) fun n => liftO (hputS h ax (reps zc n)) fun h => [⟨.tuple [], h⟩]
theorem sClear_good {S0 : List FK} {sz : Nat} {x v : SV} {ax : AV} {sh2 : SH} {zc : List AV} (hzc : zc = encR S0 (zrec S0)) (hsz : 0 < sz) (hv : (sClear S0 sz sh x).val = some (v, sh2)) (st : St κ sh h) (hx : sden κ x = some ax) : Good κ sh h v sh2 (aClear zc h ax) := by
  unfold sClear at hv
  split at hv
  · rename_i q
    split at hv
    · rename_i e1
      cases leaf_some hv
      rw [sden_nil hx]
      show Good _ _ _ _ _ (liftO (whenS (Nat.beq q.no 1) (some 0)) fun n => liftO (hputS h (.nil q) (reps zc n)) fun h => [⟨.tuple [], h⟩])
      rw [e1]
      exact Good.same st rfl
    · cases hv
  · obtain ⟨p, _, rfl⟩ := sden_etl hx
    cases leaf_some hv
    exact Good.same st rfl
  · rename_i y sz' lo len
    obtain ⟨p, d1, rfl⟩ := sden_tsl hx
    split at hv
    · rename_i ty S l hg
      obtain ⟨p', ao, d2, d3, rfl⟩ := st.rel y _ hg
      rw [d1] at d2; cases d2
      split at hv
      · rename_i e1 e2 e3
        cases beq_iff.1 e1
        have e2 := beq_iff.1 e2
        rw [llen_eq] at e2
        obtain ⟨g1, g2⟩ := need_some hv
        have g1 := of_decide_eq_true g1
        cases leaf_some g2
        have hzc' : zc = encR S (zrec S) := by rw [sameFK_eq e3]; exact hzc
        subst e2
        show Good _ _ _ _ _ (liftO (hputS h (.slice p (lo * S.length) len (.opn lo)) (reps zc len)) fun h => [⟨.tuple [], h⟩])
        have er : reps zc len = encL S (List.replicate len (zrec S)) := by rw [reps_eq, encL_replicate, hzc']
        rw [er]
        have hset : lput (lo * S.length) (encL S (List.replicate len (zrec S))) (encL S l) = some (encL S (l.take lo ++ (List.replicate len (zrec S) ++ l.drop (lo + len)))) := by
          have hle : lo * S.length + len * S.length ≤ l.length * S.length := by rw [← Nat.add_mul]; exact Nat.mul_le_mul_right _ g1
          rw [lput_of (by rw [encL_length, encL_length, List.length_replicate]; exact hle)]
          rw [encL_append, encL_append, encL_take, encL_length, List.length_replicate, ← Nat.add_mul, encL_drop]
          simp
        have hlen : (l.take lo ++ (List.replicate len (zrec S) ++ l.drop (lo + len))).length = l.length := by
          rw [List.length_append, List.length_append, List.length_take, List.length_replicate, List.length_drop]; omega
        cases len with
        | zero =>
          have he : l.take lo ++ (List.replicate 0 (zrec S) ++ l.drop (lo + 0)) = l := by simp
          rw [he]
          obtain ⟨s1, f1⟩ := st.again (o := .lrow ty S l) hg (fun ao h => h)
          exact Good.one ⟨κ, rfl, s1, f1⟩
        | succ len =>
          have hne : ∃ a r, encL S (List.replicate (len + 1) (zrec S)) = a :: r := by
            cases he : encL S (List.replicate (len + 1) (zrec S)) with
            | nil =>
              have := congrArg List.length he
              rw [encL_length, List.length_replicate, Nat.succ_mul] at this
              have this : len * S.length + S.length = 0 := this
              omega
            | cons a r => exact ⟨a, r, rfl⟩
          obtain ⟨a, r, he⟩ := hne
          have hp : hputS h (.slice p (lo * S.length) (len + 1) (.opn lo)) (encL S (List.replicate (len + 1) (zrec S))) = some (h.set p (.row ty (encL S (l.take lo ++ (List.replicate (len + 1) (zrec S) ++ l.drop (lo + (len + 1))))) (l.length * S.length) (some l.length))) := by
            have h1 := hput_eq d3 hset
            have hone := allOne_encL S (List.replicate (len + 1) (zrec S))
            rw [he] at h1 hone ⊢
            show whenS (allOne (a :: r)) (hput h p (lo * S.length) (a :: r)) = _
            rw [hone]; exact h1
          rw [hp]
          obtain ⟨s1, f1⟩ := st.put (o := .lrow ty S (l.take lo ++ (List.replicate (len + 1) (zrec S) ++ l.drop (lo + (len + 1))))) (ao := .row ty (encL S (l.take lo ++ (List.replicate (len + 1) (zrec S) ++ l.drop (lo + (len + 1))))) (l.length * S.length) (some l.length)) d1 hg (by
            show _ = AObj.row ty _ (_ * S.length) (some _)
            rw [hlen])
          exact Good.one ⟨κ, rfl, s1, f1⟩
      · cases hv
    · cases hv
  · cases hv
end
end Go.Proofs.YtgemonlknehegaaGreatDoor.AI
