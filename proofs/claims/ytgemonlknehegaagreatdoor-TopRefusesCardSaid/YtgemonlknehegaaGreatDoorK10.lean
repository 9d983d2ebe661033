/- The chain of TopRefuses, part 10. -/
import Derived.Test.YtgemonlknehegaaGreatDoorK09
import Derived.OrdersIn
namespace Go.Proofs.YtgemonlknehegaaGreatDoor.AI
open Go
set_option linter.unusedVariables false
set_option linter.unusedSimpArgs false
section
variable {P : Program} {nt : Nat} {ops : Array Oper}
theorem bit_set (e i b : Nat) : Nat.testBit (Nat.lor e (2 ^ i)) b = (Nat.testBit e b || decide (i = b)) := by
  show (e ||| 2 ^ i).testBit b = _
  rw [Nat.testBit_or, Nat.testBit_two_pow]
theorem sub_iff {a b : Nat} : sub a b = true ↔ ∀ i, Nat.testBit a i = true → Nat.testBit b i = true := by
  unfold sub
  rw [beq_iff]
  constructor
  · intro h i hi
    have : (a &&& b).testBit i = true := by rw [show a &&& b = a from h]; exact hi
    rw [Nat.testBit_and] at this
    simp at this; exact this.2
  · intro h
    show a &&& b = a
    apply Nat.eq_of_testBit_eq
    intro i
    rw [Nat.testBit_and]
    cases hi : a.testBit i with
    | false => rfl
    | true => rw [h i hi]; rfl
theorem pickB {b x y : Bool} : pick b x y = true ↔ (b = true ∧ x = true) ∨ (b = false ∧ y = true) := by cases b <;> simp [pick]
theorem lall_iff {α : Type} {f : α → Bool} {l : List α} : lall f l = true ↔ ∀ x ∈ l, f x = true := by rw [lall_eq, List.all_eq_true]
theorem memN_iff {n : Nat} {l : List Nat} : memN n l = true ↔ n ∈ l := by rw [memN_eq]; simp
/-- edges that bind -/
def Edg (o : Oper) (b : Nat) : Prop := ∃ e ∈ o.after, Region.binds .any e = true ∧ e.on = b
theorem dep_bits (o : Oper) (b : Nat) : Nat.testBit (depOf o) b = true ↔ Edg o b := by
  have gen : ∀ (l : List Edge) (s : Nat), Nat.testBit (l.foldl (fun s e => if Region.binds .any e then s ||| 2 ^ e.on else s) s) b = true ↔ Nat.testBit s b = true ∨ ∃ e ∈ l, Region.binds .any e = true ∧ e.on = b := by
    intro l
    induction l with
    | nil => intro s; simp
    | cons e l ih =>
      intro s
      rw [List.foldl_cons, ih]
      by_cases hb : Region.binds .any e = true
      · rw [if_pos hb, Nat.testBit_or, Nat.testBit_two_pow]
        simp [hb]
        constructor
        · rintro ((h | h) | h)
          · exact .inl h
          · exact .inr (.inl h)
          · exact .inr (.inr h)
        · rintro (h | h | h)
          · exact .inl (.inl h)
          · exact .inl (.inr h)
          · exact .inr h
      · rw [if_neg hb]; simp [hb]
  unfold depOf Edg
  rw [gen]
  simp
theorem anc_bits (o : Oper) (acc : Nat → Nat) (b : Nat) (h : Nat.testBit (o.after.toList.foldl (fun s e => if Region.binds .any e then s ||| 2 ^ e.on ||| acc e.on else s) 0) b = true) :
    ∃ e ∈ o.after, Region.binds .any e = true ∧ (e.on = b ∨ Nat.testBit (acc e.on) b = true) := by
  have gen : ∀ (l : List Edge) (s : Nat), Nat.testBit (l.foldl (fun s e => if Region.binds .any e then s ||| 2 ^ e.on ||| acc e.on else s) s) b = true → Nat.testBit s b = true ∨ ∃ e ∈ l, Region.binds .any e = true ∧ (e.on = b ∨ Nat.testBit (acc e.on) b = true) := by
    intro l
    induction l with
    | nil => intro s h; exact .inl h
    | cons e l ih =>
      intro s h
      rw [List.foldl_cons] at h
      rcases ih _ h with h1 | ⟨e', he, h1⟩
      · by_cases hb : Region.binds .any e = true
        · rw [if_pos hb, Nat.testBit_or, Nat.testBit_or, Nat.testBit_two_pow] at h1
          simp at h1
          rcases h1 with (h2 | h2) | h2
          · exact .inl h2
          · exact .inr ⟨e, by simp, hb, .inl h2⟩
          · exact .inr ⟨e, by simp, hb, .inr h2⟩
        · rw [if_neg hb] at h1; exact .inl h1
      · exact .inr ⟨e', by simp [he], h1⟩
  rcases gen _ 0 h with h1 | ⟨e, he, h1⟩
  · simp at h1
  · exact ⟨e, by simpa using he, h1⟩
/-- WHAT THE PLAN's ITEMS ARE. -/
structure Items (P : Program) (nt : Nat) (ops : Array Oper) (all : List PI) : Prop where
  item : ∀ p ∈ all, ∃ o, ops[p.ix]? = some o ∧ p.dep = depOf o ∧ p.looks = looksOf ops o ∧ p.item = compileItem P nt ops o
  each : ∀ i, i < ops.size → ∃ p ∈ all, p.ix = i
  uniq : ∀ p ∈ all, ∀ q ∈ all, p.ix = q.ix → p = q
  anc : ∀ p ∈ all, ∀ b, Nat.testBit p.anc b = true → ∃ o, ops[p.ix]? = some o ∧ (Edg o b ∨ ∃ q ∈ all, Edg o q.ix ∧ Nat.testBit q.anc b = true)
theorem zip_items (P : Program) (nt : Nat) (ops : Array Oper) (f : Oper → AItem) (hf : f = compileItem P nt ops) : ∀ (l : List Oper) (k : Nat) (acc : Nat → Nat) (done : List PI), (∀ i, i < l.length → ops[k + i]? = l[i]?) →
    (∀ j, acc j ≠ 0 → ∃ q ∈ done, q.ix = j ∧ q.anc = acc j) →
    (∀ p ∈ zipPI ops l (ancs l k acc) k f, ∃ o, ops[p.ix]? = some o ∧ p.dep = depOf o ∧ p.looks = looksOf ops o ∧ p.item = compileItem P nt ops o ∧ k ≤ p.ix ∧ p.ix < k + l.length) ∧
    (∀ i, i < l.length → ∃ p ∈ zipPI ops l (ancs l k acc) k f, p.ix = k + i) ∧
    (∀ p ∈ zipPI ops l (ancs l k acc) k f, ∀ q ∈ zipPI ops l (ancs l k acc) k f, p.ix = q.ix → p = q) ∧
    (∀ p ∈ zipPI ops l (ancs l k acc) k f, ∀ b, Nat.testBit p.anc b = true → ∃ o, ops[p.ix]? = some o ∧ (Edg o b ∨ ∃ q ∈ done ++ zipPI ops l (ancs l k acc) k f, Edg o q.ix ∧ Nat.testBit q.anc b = true)) := by
  intro l
  induction l with
  | nil =>
    intro k acc done _ _
    refine ⟨fun p hp => ?_, fun i hi => ?_, fun p hp => ?_, fun p hp => ?_⟩
    · cases hp
    · simp at hi
    · cases hp
    · cases hp
  | cons o l ih =>
    intro k acc done hl hacc
    have hk : ops[k]? = some o := by simpa using hl 0 (by simp)
    generalize hm : o.after.toList.foldl (fun s e => if Region.binds .any e then s ||| 2 ^ e.on ||| acc e.on else s) 0 = m
    have ez : zipPI ops (o :: l) (ancs (o :: l) k acc) k f = ⟨k, depOf o, m, looksOf ops o, f o, false⟩ :: zipPI ops l (ancs l (k + 1) (fun j => if j = k then m else acc j)) (k + 1) f := by rw [← hm]; rfl
    rw [ez]
    obtain ⟨i1, i2, i3, i4⟩ := ih (k + 1) (fun j => if j = k then m else acc j) (⟨k, depOf o, m, looksOf ops o, f o, false⟩ :: done) (fun i hi => by
      have := hl (i + 1) (by simpa using hi)
      rw [show k + 1 + i = k + (i + 1) by omega, this]; simp) (fun j hj => by
      by_cases e : j = k
      · rw [if_pos e] at hj ⊢
        exact ⟨_, List.mem_cons_self, e.symm, rfl⟩
      · rw [if_neg e] at hj ⊢
        obtain ⟨q, hq, e1⟩ := hacc j hj
        exact ⟨q, List.mem_cons_of_mem _ hq, e1⟩)
    refine ⟨fun p hp => ?_, fun i hi => ?_, fun p hp q hq e => ?_, fun p hp b hb => ?_⟩
    · rcases List.mem_cons.1 hp with rfl | hp
      · exact ⟨o, hk, rfl, rfl, by rw [hf], Nat.le_refl _, by simp⟩
      · obtain ⟨o', a1, a2, a3, a4, a5, a6⟩ := i1 p hp
        exact ⟨o', a1, a2, a3, a4, by omega, by simp; omega⟩
    · cases i with
      | zero => exact ⟨_, List.mem_cons_self, rfl⟩
      | succ i =>
        obtain ⟨p, hp, e⟩ := i2 i (by simpa using hi)
        exact ⟨p, List.mem_cons_of_mem _ hp, by omega⟩
    · rcases List.mem_cons.1 hp with rfl | hp
      · rcases List.mem_cons.1 hq with rfl | hq
        · rfl
        · obtain ⟨_, _, _, _, _, a5, _⟩ := i1 q hq
          simp at e; omega
      · rcases List.mem_cons.1 hq with rfl | hq
        · obtain ⟨_, _, _, _, _, a5, _⟩ := i1 p hp
          simp at e; omega
        · exact i3 p hp q hq e
    · rcases List.mem_cons.1 hp with rfl | hp
      · refine ⟨o, hk, ?_⟩
        have hb' : Nat.testBit m b = true := hb
        rw [← hm] at hb'
        obtain ⟨e, he, hbi, h1⟩ := anc_bits o acc b hb'
        rcases h1 with h1 | h1
        · exact .inl ⟨e, he, hbi, h1⟩
        · have hnz : acc e.on ≠ 0 := fun h0 => by rw [h0] at h1; simp at h1
          obtain ⟨q, hq, e1, e2⟩ := hacc _ hnz
          exact .inr ⟨q, List.mem_append.2 (.inl hq), ⟨e, he, hbi, e1.symm⟩, by rw [e2]; exact h1⟩
      · obtain ⟨o', a1, a2⟩ := i4 p hp b hb
        refine ⟨o', a1, a2.imp id ?_⟩
        rintro ⟨q, hq, a3⟩
        refine ⟨q, ?_, a3⟩
        simp only [List.mem_append, List.mem_cons] at hq ⊢
        rcases hq with (h | h) | h
        · exact .inr (.inl h)
        · exact .inl h
        · exact .inr (.inr h)
noncomputable def mark1 (all : List PI) (p : PI) : PI := ⟨p.ix, p.dep, p.anc, p.looks, p.item, pick (isHv p) true (bnot (lall (fun q => bnot (turns p q)) all))⟩
theorem marked_eq (all : List PI) : marked all = all.map (mark1 all) := by unfold marked; rw [lmap_eq]; rfl
theorem items_all (P : Program) (nt : Nat) (ops : Array Oper) : Items P nt ops (marked (zipPI ops ops.toList (ancs ops.toList 0 (fun _ => 0)) 0 (compileItem P nt ops))) := by
  obtain ⟨i1, i2, i3, i4⟩ := zip_items P nt ops (compileItem P nt ops) rfl ops.toList 0 (fun _ => 0) [] (fun i hi => by simp) (fun j hj => absurd rfl hj)
  generalize zipPI ops ops.toList (ancs ops.toList 0 (fun _ => 0)) 0 (compileItem P nt ops) = all at *
  rw [marked_eq]
  refine ⟨fun p hp => ?_, fun i hi => ?_, fun p hp q hq e => ?_, fun p hp b hb => ?_⟩
  · obtain ⟨p', hp', rfl⟩ := List.mem_map.1 hp
    obtain ⟨o, a1, a2, a3, a4, _⟩ := i1 p' hp'
    exact ⟨o, a1, a2, a3, a4⟩
  · obtain ⟨p, hp, e⟩ := i2 i (by simpa using hi)
    exact ⟨_, List.mem_map_of_mem hp, by simpa [mark1] using e⟩
  · obtain ⟨p', hp', rfl⟩ := List.mem_map.1 hp
    obtain ⟨q', hq', rfl⟩ := List.mem_map.1 hq
    rw [i3 p' hp' q' hq' e]
  · obtain ⟨p', hp', rfl⟩ := List.mem_map.1 hp
    obtain ⟨o, a1, a2⟩ := i4 p' hp' b hb
    refine ⟨o, a1, a2.imp id ?_⟩
    rintro ⟨q, hq, a3⟩
    rw [List.nil_append] at hq
    exact ⟨_, List.mem_map_of_mem (f := mark1 all) hq, a3⟩
/-- WHAT A PLAN TELLS. -/
structure PlanOk (P : Program) (nt : Nat) (ops : Array Oper) (all pl : List PI) : Prop where
  items : Items P nt ops all
  apart : ∀ p ∈ all, ∀ q ∈ all, apart2 p q = true
  sync : ∀ p ∈ all, (p.sy = true → isHv p = true ∨ isPu p = true) ∧ (p.sy = false → isHv p = false)
  mem : ∀ p ∈ pl, p ∈ all
  valid : valid all pl 0 = true
theorem pickAll_mem {all : List PI} : ∀ {l : List Nat} {r pl : List PI}, pickAll all l r = some pl → (∀ p ∈ r, p ∈ all) → ∀ p ∈ pl, p ∈ all := by
  intro l
  induction l with
  | nil => intro r pl h hr; cases h; exact hr
  | cons i l ih =>
    intro r pl h hr
    have h' : bindS (lget all i) (fun p => pickAll all l (p :: r)) = some pl := h
    obtain ⟨p, hp, h2⟩ := bindS_some h'
    rw [lget_eq] at hp
    exact ih h2 fun q hq => by
      rcases List.mem_cons.1 hq with rfl | hq
      · exact List.mem_of_getElem? hp
      · exact hr q hq
theorem plan_ok {pl : List PI} (h : plan P nt ops = some pl) : ∃ all, PlanOk P nt ops all pl := by
  unfold plan planOf at h
  refine ⟨marked (zipPI ops ops.toList (ancs ops.toList 0 (fun _ => 0)) 0 (compileItem P nt ops)), ?_⟩
  have hi := items_all P nt ops
  generalize marked (zipPI ops ops.toList (ancs ops.toList 0 (fun _ => 0)) 0 (compileItem P nt ops)) = all at *
  obtain ⟨h1, h2⟩ := whenS_some h
  obtain ⟨h3, h4⟩ := whenS_some h2
  obtain ⟨pl', h5, h6⟩ := bindS_some h4
  obtain ⟨h7, h8⟩ := whenS_some h6
  cases h8
  refine ⟨hi, fun p hp q hq => lall_iff.1 (lall_iff.1 h1 p hp) q hq, fun p hp => ?_, pickAll_mem h5 (fun _ h => by cases h), h7⟩
  have := lall_iff.1 h3 p hp
  rcases pickB.1 this with ⟨a1, a2⟩ | ⟨a1, a2⟩
  · refine ⟨fun _ => ?_, fun h => by rw [a1] at h; cases h⟩
    rcases pickB.1 a2 with ⟨a3, _⟩ | ⟨_, a3⟩
    · exact .inl a3
    · exact .inr a3
  · refine ⟨fun h => (by rw [a1] at h; cases h), fun _ => ?_⟩
    rw [bnot_eq] at a2; simpa using a2
theorem apart_nosync {p q : PI} (h : apart2 p q = true) (hs : p.sy = false) {d : Nat} (hd : p.item.dst = some d) : (d ∈ q.looks → Nat.testBit q.anc p.ix = true) := by
  unfold apart2 at h
  rw [hd] at h
  simp only at h
  intro hm
  rcases pickB.1 h with ⟨_, a2⟩ | ⟨a1, _⟩
  · rcases pickB.1 a2 with ⟨a3, _⟩ | ⟨_, a4⟩
    · exact a3
    · rw [hs] at a4; cases a4
  · rw [memN_iff.2 hm] at a1; cases a1
theorem apart_looks {p q : PI} (h : apart2 p q = true) {d : Nat} (hd : p.item.dst = some d) (hm : d ∈ q.looks) : Nat.testBit q.anc p.ix = true ∨ (p.sy = true ∧ (p.ix = q.ix ∨ Nat.testBit p.anc q.ix = true)) := by
  unfold apart2 at h
  rw [hd] at h
  simp only at h
  rcases pickB.1 h with ⟨_, a2⟩ | ⟨a1, _⟩
  · rcases pickB.1 a2 with ⟨a3, _⟩ | ⟨_, a4⟩
    · exact .inl a3
    · rcases pickB.1 a4 with ⟨a5, a6⟩ | ⟨_, a6⟩
      · rcases pickB.1 a6 with ⟨a7, _⟩ | ⟨_, a7⟩
        · exact .inr ⟨a5, .inl (beq_iff.1 a7)⟩
        · exact .inr ⟨a5, .inr a7⟩
      · cases a6
  · rw [memN_iff.2 hm] at a1; cases a1
theorem apart_dst {p q : PI} (h : apart2 p q = true) {d : Nat} (hd : p.item.dst = some d) (hm : d ∉ q.looks) (hne : p.ix ≠ q.ix) : q.item.dst ≠ some d := by
  unfold apart2 at h
  rw [hd] at h
  simp only at h
  rcases pickB.1 h with ⟨a1, _⟩ | ⟨_, a2⟩
  · exact absurd (memN_iff.1 a1) hm
  · rcases pickB.1 a2 with ⟨a3, _⟩ | ⟨_, a4⟩
    · exact absurd (beq_iff.1 a3) hne
    · intro e
      rw [e] at a4
      simp only [bnot_eq] at a4
      have : Nat.beq d d = true := Nat.beq_refl d
      rw [this] at a4; cases a4
end
end Go.Proofs.YtgemonlknehegaaGreatDoor.AI
namespace Go.Proofs.YtgemonlknehegaaGreatDoor.AI
open Go
set_option linter.unusedVariables false
set_option linter.unusedSimpArgs false
section
variable {P : Program} {N : Nat} {σ σ' σ0 : Sig} {h h' h0 : H} {w w' w0 : World}
noncomputable def matP (c : Nat → Bool) : List Pend → H → H
  | [], h => h
  | p :: l, h => if c p.ix = true then (matP c l h).set p.b p.o else matP c l h
theorem mat_eq (anc : Nat) (l : List Pend) (h : H) : mat anc l h = matP (Nat.testBit anc) l h := by
  induction l with
  | nil => rfl
  | cons p l ih =>
    have e : mat anc (p :: l) h = pick (Nat.testBit anc p.ix) ((mat anc l h).set p.b p.o) (mat anc l h) := rfl
    have e2 : matP (Nat.testBit anc) (p :: l) h = if Nat.testBit anc p.ix = true then (matP (Nat.testBit anc) l h).set p.b p.o else matP (Nat.testBit anc) l h := rfl
    rw [e, e2, ih]
    cases hb : Nat.testBit anc p.ix <;> simp [pick]
theorem matAll_eq (l : List Pend) (h : H) : matAll l h = matP (fun _ => true) l h := by
  induction l with
  | nil => rfl
  | cons p l ih =>
    have e : matAll (p :: l) h = (matAll l h).set p.b p.o := rfl
    rw [e, ih]
    simp [matP]
theorem matP_next (c : Nat → Bool) (l : List Pend) (h : H) : (matP c l h).next = h.next := by
  induction l with
  | nil => rfl
  | cons p l ih =>
    unfold matP
    split
    · exact ih
    · exact ih
theorem matP_congr {c c' : Nat → Bool} {l : List Pend} (h : H) (hc : ∀ q ∈ l, c q.ix = c' q.ix) : matP c l h = matP c' l h := by
  induction l with
  | nil => rfl
  | cons p l ih =>
    unfold matP
    rw [hc p (by simp), ih fun q hq => hc q (by simp [hq])]
/-- numbers that are apart, and not in memory -/
structure PD (l : List Pend) (h : H) : Prop where
  inj : ∀ q ∈ l, ∀ q' ∈ l, q.b = q'.b → q = q'
  non : ∀ q ∈ l, h.objs.get q.b = none
theorem set_get (h : H) (b x : Pos) (o : AObj) : (h.set b o).objs.get x = if x = b then some o else h.objs.get x := by
  show (h.objs.set b o).get x = _
  rw [T.get_set]
theorem matP_some {c : Nat → Bool} : ∀ {l : List Pend} {h : H} {x : Pos} {o : AObj}, (matP c l h).objs.get x = some o → (∃ q ∈ l, c q.ix = true ∧ q.b = x ∧ q.o = o) ∨ h.objs.get x = some o := by
  intro l
  induction l with
  | nil => intro h x o hx; exact .inr hx
  | cons p l ih =>
    intro h x o hx
    unfold matP at hx
    split at hx
    · rename_i hc
      rw [set_get] at hx
      split at hx
      · rename_i e; cases hx; exact .inl ⟨p, by simp, hc, e.symm, rfl⟩
      · rcases ih hx with ⟨q, hq, h1⟩ | h1
        · exact .inl ⟨q, by simp [hq], h1⟩
        · exact .inr h1
    · rcases ih hx with ⟨q, hq, h1⟩ | h1
      · exact .inl ⟨q, by simp [hq], h1⟩
      · exact .inr h1
theorem matP_get_in {c : Nat → Bool} : ∀ {l : List Pend} {h : H}, (∀ q ∈ l, ∀ q' ∈ l, q.b = q'.b → q = q') → ∀ q ∈ l, c q.ix = true → (matP c l h).objs.get q.b = some q.o := by
  intro l
  induction l with
  | nil => intro h _ q hq; cases hq
  | cons p l ih =>
    intro h hi q hq hc
    unfold matP
    split
    · rw [set_get]
      split
      · rename_i e
        rw [hi q hq p (by simp) e]
      · rename_i e
        rcases List.mem_cons.1 hq with rfl | hq
        · exact absurd rfl e
        · exact ih (fun a ha b hb => hi a (by simp [ha]) b (by simp [hb])) q hq hc
    · rename_i hcp
      rcases List.mem_cons.1 hq with rfl | hq
      · exact absurd hc hcp
      · exact ih (fun a ha b hb => hi a (by simp [ha]) b (by simp [hb])) q hq hc
theorem matP_get_out {c : Nat → Bool} : ∀ {l : List Pend} {h : H} {x : Pos}, (∀ q ∈ l, q.b ≠ x) → (matP c l h).objs.get x = h.objs.get x := by
  intro l
  induction l with
  | nil => intro h x _; rfl
  | cons p l ih =>
    intro h x hx
    unfold matP
    split
    · rw [set_get, if_neg (fun e => hx p (by simp) e.symm)]
      exact ih fun q hq => hx q (by simp [hq])
    · exact ih fun q hq => hx q (by simp [hq])
theorem matP_iff {c : Nat → Bool} {l : List Pend} {h : H} (hp : PD l h) {x : Pos} {o : AObj} : (matP c l h).objs.get x = some o ↔ (∃ q ∈ l, c q.ix = true ∧ q.b = x ∧ q.o = o) ∨ h.objs.get x = some o := by
  constructor
  · exact matP_some
  · rintro (⟨q, hq, hc, rfl, rfl⟩ | hx)
    · exact matP_get_in hp.inj q hq hc
    · rw [matP_get_out (fun q hq e => by have := hp.non q hq; rw [e, hx] at this; cases this)]
      exact hx
/-- less is known, and more numbers are taken -/
theorem Ext.weak (e : Ext P N σ0 h0 w0 σ h w) (hs : ∀ b o, h'.objs.get b = some o → h.objs.get b = some o) (hn : h.next.toNat ≤ h'.next.toNat) : Ext P N σ0 h0 w0 σ h' w :=
  ⟨⟨fun b o hb => e.holds.rep b o (hs b o hb), fun b b' o o' l l' hb hb' => e.holds.inj b b' o o' l l' (hs _ _ hb) (hs _ _ hb'), fun b hb => e.holds.fresh b (Nat.le_trans hn hb), fun b o l hb => e.holds.low b o l (hs _ _ hb), e.holds.bound⟩,
   e.le, fun b o l hb => e.foot b o l (hs _ _ hb), e.kept, e.size, e.os, e.tape, e.output, e.old, Nat.le_trans e.next hn⟩
theorem Holds.weak (e : Holds P N σ h w) (hs : ∀ b o, h'.objs.get b = some o → h.objs.get b = some o) (hn : h.next.toNat ≤ h'.next.toNat) : Holds P N σ h' w := (Ext.weak (Ext.refl e) hs hn).holds
/-- A BLOCK OF A NUMBER THAT WAS KEPT FOR IT. -/
theorem Ext.name (e : Ext P N σ0 h0 w0 σ h w) {b : Pos} (hb : σ b = none) (h1 : h0.next.toNat ≤ b.toNat) (h2 : b.toNat < h.next.toNat) {l : Loc} {o : AObj} {ob : Obj} (hlk : l.blk = w.heap.size) (hr : Rep P (σ.put b l) l o ob)
    (hg : ∀ x ox, h'.objs.get x = some ox → (x = b ∧ ox = o) ∨ (x ≠ b ∧ h.objs.get x = some ox)) (hn : h'.next = h.next)
    (hw : w'.heap = w.heap.push ob) (hos : w'.os = w.os) (htape : w'.tape = w.tape) (hout : w'.output = w.output) : Ext P N σ0 h0 w0 (σ.put b l) h' w' := by
  have hle := Sig.le_put hb l
  have hh := e.holds
  have hne : ∀ x ox lx, h.objs.get x = some ox → σ x = some lx → lx.blk < w.heap.size := fun x ox lx hx hlx => hh.lt hx hlx
  refine ⟨⟨fun x ox hx => ?_, fun x x' ox ox' lx lx' hx hx' hlx hlx' ee => ?_, fun x hx => ?_, fun x ox lx hx hlx => ?_, by rw [hw]; simp; exact Nat.le_succ_of_le hh.bound⟩, Sig.le_trans e.le hle, fun x ox lx hx hlx => ?_, fun k hk hf => ?_, by rw [hw]; simp; exact Nat.le_succ_of_le e.size, hos.trans e.os, htape.trans e.tape, hout.trans e.output, fun x hx => ?_, by rw [hn]; exact e.next⟩
  · rcases hg x ox hx with ⟨rfl, rfl⟩ | ⟨hxb, hx⟩
    · exact ⟨l, ob, Sig.put_same _ _ _, by rw [hw, Array.getElem?_push, if_pos hlk], hr⟩
    · obtain ⟨lx, obx, a1, a2, a3⟩ := hh.rep x ox hx
      have := hne x ox lx hx a1
      exact ⟨lx, obx, hle _ _ a1, by rw [hw, Array.getElem?_push, if_neg (by omega), a2], a3.mono hle⟩
  · have g := hg x ox hx
    have g' := hg x' ox' hx'
    clear hx hx'
    rcases g with ⟨e1, _⟩ | ⟨n1, hx⟩
    · rcases g' with ⟨e2, _⟩ | ⟨n2, hx'⟩
      · rw [e1, e2]
      · rw [e1, Sig.put_same] at hlx; cases hlx
        rw [Sig.put_ne _ _ n2] at hlx'
        have := hne x' ox' lx' hx' hlx'
        omega
    · rcases g' with ⟨e2, _⟩ | ⟨n2, hx'⟩
      · rw [e2, Sig.put_same] at hlx'; cases hlx'
        rw [Sig.put_ne _ _ n1] at hlx
        have := hne x ox lx hx hlx
        omega
      · rw [Sig.put_ne _ _ n1] at hlx; rw [Sig.put_ne _ _ n2] at hlx'
        exact hh.inj x x' ox ox' lx lx' hx hx' hlx hlx' ee
  · rw [hn] at hx
    rw [Sig.put_ne _ _ (fun ee => by rw [ee] at hx; omega)]
    exact hh.fresh x hx
  · rcases hg x ox hx with ⟨rfl, rfl⟩ | ⟨hxb, hx⟩
    · rw [Sig.put_same] at hlx; cases hlx; rw [hlk]; exact hh.bound
    · rw [Sig.put_ne _ _ hxb] at hlx; exact hh.low x ox lx hx hlx
  · rcases hg x ox hx with ⟨rfl, rfl⟩ | ⟨hxb, hx⟩
    · rw [Sig.put_same] at hlx; cases hlx; exact .inr (by rw [hlk]; exact e.size)
    · rw [Sig.put_ne _ _ hxb] at hlx; exact e.foot x ox lx hx hlx
  · have hkw : k < w.heap.size := Nat.lt_of_lt_of_le hk e.size
    rw [hw, Array.getElem?_push, if_neg (by omega)]
    exact e.kept k hk hf
  · rw [Sig.put_ne _ _ (fun ee => by rw [ee] at hx; omega)]
    exact e.old x hx
/-- WHAT A PART OF MEMORY DOES, THE WHOLE DOES. -/
theorem frame {c1 c2 : Nat → Bool} {l : List Pend} (hp : PD l h) (hc : ∀ i, c1 i = true → c2 i = true) (hs : Holds P N σ (matP c2 l h) w) (e : Ext P N σ (matP c1 l h) w σ' h' w')
    (hun : ∀ q ∈ l, c2 q.ix = false → σ q.b = none) (hlt : ∀ q ∈ l, q.b.toNat < h.next.toNat) {l' : List Pend} (hl' : ∀ q, q ∈ l' ↔ q ∈ l ∧ c1 q.ix = false) :
    PD l' h' ∧ Ext P N σ (matP c2 l h) w σ' (matP c2 l' h') w' := by
  have n1 := matP_next c1 l h
  have n2 := matP_next c2 l h
  have hsub : ∀ x o, (matP c1 l h).objs.get x = some o → (matP c2 l h).objs.get x = some o := fun x o hx => by
    rw [matP_iff hp] at hx ⊢
    exact hx.imp (fun ⟨q, a, b, c⟩ => ⟨q, a, hc _ b, c⟩) id
  have hq2 : ∀ q ∈ l, c2 q.ix = true → (matP c2 l h).objs.get q.b = some q.o := fun q hq hcq => (matP_iff hp).2 (.inl ⟨q, hq, hcq, rfl, rfl⟩)
  have hq1 : ∀ q ∈ l, c1 q.ix = false → ∀ o, (matP c1 l h).objs.get q.b ≠ some o := fun q hq hcq o hx => by
    rcases (matP_iff hp).1 hx with ⟨q', a1, a2, a3, _⟩ | hx
    · rw [hp.inj q' a1 q hq a3, hcq] at a2; cases a2
    · rw [hp.non q hq] at hx; cases hx
  -- the place of a block that is not in the part
  have hoff : ∀ q ∈ l, c1 q.ix = false → c2 q.ix = true → ∀ lq, σ q.b = some lq → lq.blk < w.heap.size ∧ ∀ x o lx, (matP c1 l h).objs.get x = some o → σ x = some lx → lx.blk ≠ lq.blk := fun q hq hc1 hc2 lq hlq => by
    refine ⟨hs.lt (hq2 q hq hc2) hlq, fun x o lx hx hlx ee => ?_⟩
    have := hs.inj x q.b o q.o lx lq (hsub x o hx) (hq2 q hq hc2) hlx hlq ee
    rw [this] at hx
    exact hq1 q hq hc1 o hx
  have hloc : ∀ q ∈ l, c2 q.ix = true → ∃ lq ob, σ q.b = some lq ∧ w.heap[lq.blk]? = some ob ∧ Rep P σ lq q.o ob := fun q hq hcq => hs.rep _ _ (hq2 q hq hcq)
  have hnon : ∀ q ∈ l', h'.objs.get q.b = none := fun q hq => by
    obtain ⟨a1, a2⟩ := (hl' q).1 hq
    cases hx : h'.objs.get q.b with
    | none => rfl
    | some o =>
      exfalso
      obtain ⟨lx, ob, b1, b2, b3⟩ := e.holds.rep _ _ hx
      have hold : σ' q.b = σ q.b := e.old q.b (by rw [n1]; exact hlt q a1)
      cases hcq : c2 q.ix with
      | false => rw [hold, hun q a1 hcq] at b1; cases b1
      | true =>
        rw [hold] at b1
        obtain ⟨d1, d2⟩ := hoff q a1 a2 hcq lx b1
        rcases e.foot q.b o lx hx (by rw [hold]; exact b1) with ⟨y, oy, ly, f1, f2, f3⟩ | f
        · exact d2 y oy ly f1 f2 f3
        · omega
  have hp' : PD l' h' := ⟨fun q hq q' hq' => hp.inj q ((hl' q).1 hq).1 q' ((hl' q').1 hq').1, hnon⟩
  have hold : ∀ q ∈ l', σ' q.b = σ q.b := fun q hq => e.old q.b (by rw [n1]; exact hlt q ((hl' q).1 hq).1)
  refine ⟨hp', ⟨⟨fun x o hx => ?_, fun x x' o o' lx lx' hx hx' hlx hlx' ee => ?_, fun x hx => e.holds.fresh x (by rw [matP_next] at hx; exact hx), fun x o lx hx hlx => ?_, e.holds.bound⟩, e.le, fun x o lx hx hlx => ?_, fun k hk hf => ?_, e.size, e.os, e.tape, e.output, fun x hx => e.old x (by rw [n1]; rw [n2] at hx; exact hx), by rw [matP_next, matP_next]; have := e.next; rw [n1] at this; exact this⟩⟩
  · rcases (matP_iff hp').1 hx with ⟨q, hq, hcq, rfl, rfl⟩ | hx
    · obtain ⟨a1, a2⟩ := (hl' q).1 hq
      obtain ⟨lq, ob, b1, b2, b3⟩ := hloc q a1 hcq
      obtain ⟨d1, d2⟩ := hoff q a1 a2 hcq lq b1
      exact ⟨lq, ob, e.le _ _ b1, by rw [e.kept _ d1 d2, b2], b3.mono e.le⟩
    · exact e.holds.rep x o hx
  · have key : ∀ q ∈ l', c2 q.ix = true → ∀ y oy ly lq, h'.objs.get y = some oy → σ' y = some ly → σ' q.b = some lq → ly.blk ≠ lq.blk := fun q hq hcq y oy ly lq hy hly hlq ee => by
      obtain ⟨a1, a2⟩ := (hl' q).1 hq
      rw [hold q hq] at hlq
      obtain ⟨d1, d2⟩ := hoff q a1 a2 hcq lq hlq
      rcases e.foot y oy ly hy hly with ⟨z, oz, lz, f1, f2, f3⟩ | f
      · exact d2 z oz lz f1 f2 (f3.trans ee)
      · omega
    have g := (matP_iff hp').1 hx
    have g' := (matP_iff hp').1 hx'
    clear hx hx'
    rcases g with ⟨q, hq, hcq, e1, _⟩ | hx
    · rcases g' with ⟨q', hq', hcq', e2, _⟩ | hx'
      · rw [← e1] at hlx ⊢; rw [← e2] at hlx' ⊢
        rw [hold q hq] at hlx; rw [hold q' hq'] at hlx'
        exact hs.inj _ _ _ _ lx lx' (hq2 q ((hl' q).1 hq).1 hcq) (hq2 q' ((hl' q').1 hq').1 hcq') hlx hlx' ee
      · rw [← e1] at hlx
        exact absurd ee.symm (key q hq hcq x' o' lx' lx hx' hlx' hlx)
    · rcases g' with ⟨q', hq', hcq', e2, _⟩ | hx'
      · rw [← e2] at hlx'
        exact absurd ee (key q' hq' hcq' x o lx lx' hx hlx hlx')
      · exact e.holds.inj x x' o o' lx lx' hx hx' hlx hlx' ee
  · rcases (matP_iff hp').1 hx with ⟨q, hq, hcq, rfl, rfl⟩ | hx
    · rw [hold q hq] at hlx
      exact hs.low _ _ lx (hq2 q ((hl' q).1 hq).1 hcq) hlx
    · exact e.holds.low x o lx hx hlx
  · rcases (matP_iff hp').1 hx with ⟨q, hq, hcq, rfl, rfl⟩ | hx
    · rw [hold q hq] at hlx
      exact .inl ⟨_, _, lx, hq2 q ((hl' q).1 hq).1 hcq, hlx, rfl⟩
    · rcases e.foot x o lx hx hlx with ⟨z, oz, lz, f1, f2, f3⟩ | f
      · exact .inl ⟨z, oz, lz, hsub z oz f1, f2, f3⟩
      · exact .inr f
  · exact e.kept k hk fun x o lx hx hlx => hf x o lx (hsub x o hx) hlx
end
end Go.Proofs.YtgemonlknehegaaGreatDoor.AI
namespace Go.Proofs.YtgemonlknehegaaGreatDoor.AI
open Go
set_option linter.unusedVariables false
set_option linter.unusedSimpArgs false
def LE (s : Array Bool) (i : Nat) : Prop := s.getD i false = true
def cE (s : Array Bool) (i : Nat) : Bool := s.getD i false
def Rcd (ks : List Look) (ps : List Pend) (t : Tm) (h : H) (p : PI) : Prop :=
  (wantedA t p.item.guard = some false ∧ (∀ d, p.item.dst = some d → tget t d = .undef) ∧ ∀ q ∈ ps, q.ix ≠ p.ix) ∨
  (wantedA t p.item.guard = some true ∧ ∃ v, (∀ d, p.item.dst = some d → tget t d = v) ∧
    ((∃ f, p.item.op = .pure f ∧ f t = some v) ∨
     (∃ f, p.item.op = .load f ∧ f t h = some v ∧ ∃ k ∈ ks, k.ix = p.ix ∧ k.v = v ∧ ∀ h, k.f h = f t h) ∨
     (∃ f aa b, p.item.op = .alloc f ∧ f t = some aa ∧ v = aa.val b ∧ (⟨p.ix, b, aa.obj⟩ : Pend) ∈ ps)))
structure Inv (P : Program) (N nt : Nat) (ops : Array Oper) (all : List PI) (rec : Rec) (RS : List TH) (σ0 : Sig) (h0 : H) (w0 : World) (ds : List Deferred)
    (s : Array Bool) (e : Nat) (l : List PI) (ks : List Look) (ps : List Pend) (tV : Tm) (hV : H) (tE : Tm) (σ : Sig) (a : Act) (w : World) : Prop where
  ssize : s.size = ops.size
  tr : TR σ tE a.tmps
  size : a.tmps.size = nt
  defers : a.defers = ds
  ext : Ext P N σ0 h0 w0 σ (matP (cE s) ps hV) w
  sub : ∀ i, LE s i → Nat.testBit e i = true
  sync : ∀ p ∈ all, p.sy = true → Nat.testBit e p.ix = true → LE s p.ix
  closed : ∀ p ∈ all, LE s p.ix → ∀ b, Nat.testBit p.anc b = true → LE s b
  vclosed : ∀ p ∈ all, Nat.testBit e p.ix = true → ∀ b, Nat.testBit p.anc b = true → Nat.testBit e b = true
  agree : ∀ d, (∀ p ∈ all, Nat.testBit e p.ix = true → ¬ LE s p.ix → p.item.dst ≠ some d) → tget tE d = tget tV d
  recs : ∀ p ∈ all, Nat.testBit e p.ix = true → ¬ LE s p.ix → Rcd ks ps tV hV p
  pd : PD ps hV
  pnum : ∀ q ∈ ps, h0.next.toNat ≤ q.b.toNat ∧ q.b.toNat < hV.next.toNat ∧ Nat.testBit e q.ix = true ∧ ∃ p ∈ all, p.ix = q.ix ∧ ∃ f, p.item.op = .alloc f
  pix : ∀ q ∈ ps, ∀ q' ∈ ps, q.ix = q'.ix → q = q'
  pun : ∀ q ∈ ps, ¬ LE s q.ix → σ q.b = none
  run : runPlan rec l ks ps tV hV ≠ []
  res : ∀ x ∈ runPlan rec l ks ps tV hV, x ∈ RS
  lmem : ∀ p ∈ l, p ∈ all
  val : valid all l e = true
section
variable {P : Program} {N nt : Nat} {ops : Array Oper} {all pl : List PI} {rec : Rec} {RS : List TH} {σ0 : Sig} {h0 : H} {w0 : World} {ds : List Deferred}
    {s : Array Bool} {e : Nat} {l : List PI} {ks : List Look} {ps : List Pend} {tV : Tm} {hV : H} {tE : Tm} {σ : Sig} {a : Act} {w : World}
theorem anc_sub (hi : Items P nt ops all) {X : Nat → Prop} (hX : ∀ q ∈ all, X q.ix → ∀ b, Nat.testBit q.anc b = true → X b) {p : PI} (hp : p ∈ all) (hd : ∀ b, Nat.testBit p.dep b = true → X b) : ∀ b, Nat.testBit p.anc b = true → X b := by
  intro b hb
  obtain ⟨o, ho, hor⟩ := hi.anc p hp b hb
  obtain ⟨o', ho', e1, _, _⟩ := hi.item p hp
  rw [ho] at ho'; cases ho'
  rw [e1] at hd
  rcases hor with h1 | ⟨q, hq, h2, h3⟩
  · exact hd b ((dep_bits o b).2 h1)
  · exact hX q hq (hd q.ix ((dep_bits o q.ix).2 h2)) b h3
theorem looks_op {o : Oper} {t t' : Tm} (h : ∀ d ∈ looksOf ops o, tget t d = tget t' d) : SameOn o.op.operands.toList t t' := by
  intro x hx
  cases x with
  | tmp i =>
    show tget t i = tget t' i
    refine h i ?_
    unfold looksOf
    rw [lapp_eq]
    refine List.mem_append.2 (.inl ?_)
    rw [List.mem_filterMap]
    exact ⟨_, hx, rfl⟩
  | const v => rfl
  | global g => rfl
  | func f => rfl
theorem looks_guard {o : Oper} {t t' : Tm} (h : ∀ d ∈ looksOf ops o, tget t d = tget t' d) : wantedA t (compileItem P nt ops o).guard = wantedA t' (compileItem P nt ops o).guard := by
  have hg : (compileItem P nt ops o).guard = match o.guard with | none => none | some (j, w) => some ((ops[j]?).bind (·.dst), w) := rfl
  rw [hg]
  cases hgo : o.guard with
  | none => rfl
  | some p =>
    obtain ⟨j, wv⟩ := p
    cases hd : (ops[j]?).bind (·.dst) with
    | none => simp only [hd, wantedA]
    | some d =>
      simp only [hd, wantedA]
      rw [h d ?_]
      unfold looksOf
      rw [lapp_eq, hgo]
      refine List.mem_append.2 (.inr ?_)
      simp only [hd]
      simp
theorem item_same {o : Oper} {t t' : Tm} (h : ∀ d ∈ looksOf ops o, tget t d = tget t' d) : OpSame (compileItem P nt ops o).op t t' := by
  unfold compileItem
  simp only
  split
  · split
    · split
      · exact op_same (looks_op h)
      · trivial
    · exact op_same (looks_op h)
  · trivial
theorem pi_guard (hi : Items P nt ops all) {p : PI} (hp : p ∈ all) {t t' : Tm} (h : ∀ d ∈ p.looks, tget t d = tget t' d) : wantedA t p.item.guard = wantedA t' p.item.guard := by
  obtain ⟨o, _, _, e2, e3⟩ := hi.item p hp
  rw [e2] at h; rw [e3]; exact looks_guard h
theorem pi_same (hi : Items P nt ops all) {p : PI} (hp : p ∈ all) {t t' : Tm} (h : ∀ d ∈ p.looks, tget t d = tget t' d) : OpSame p.item.op t t' := by
  obtain ⟨o, _, _, e2, e3⟩ := hi.item p hp
  rw [e2] at h; rw [e3]; exact item_same h
theorem tget_tput {t : Tm} {dst : Option Tmp} {v : AV} {d : Nat} (h : dst ≠ some d) : tget (tput t dst v) d = tget t d := by
  cases dst with
  | none => rfl
  | some d' =>
    show tget (t.set (posOf d') v) d = _
    rw [tget_set, if_neg (fun e => h (by rw [e]))]
theorem tget_tput_same {t : Tm} {d : Nat} {v : AV} : tget (tput t (some d) v) d = v := by
  show tget (t.set (posOf d) v) d = _
  rw [tget_set, if_pos rfl]
/-- a record stands where what it looks at stands -/
theorem Rcd.keep (hi : Items P nt ops all) {p : PI} (hp : p ∈ all) {ks' : List Look} {ps' : List Pend} {t t' : Tm} {h h' : H} (r : Rcd ks ps t h p) (hl : ∀ d ∈ p.looks, tget t d = tget t' d) (hd : ∀ d, p.item.dst = some d → tget t' d = tget t d)
    (hload : ∀ f v, p.item.op = .load f → f t h = some v → ∀ k ∈ ks, k.ix = p.ix → k.v = v → (∀ h, k.f h = f t h) → f t h' = some v ∧ k ∈ ks') (hps : ∀ q ∈ ps, q.ix = p.ix → q ∈ ps') (hnew : ∀ q ∈ ps', q ∈ ps ∨ q.ix ≠ p.ix) : Rcd ks' ps' t' h' p := by
  have hs := pi_same hi hp hl
  rcases r with ⟨r1, r2, r4⟩ | ⟨r1, v, r2, r3⟩
  · exact .inl ⟨by rw [← pi_guard hi hp hl]; exact r1, fun d hd' => by rw [hd d hd']; exact r2 d hd', fun q hq => (hnew q hq).elim (r4 q) id⟩
  · refine .inr ⟨by rw [← pi_guard hi hp hl]; exact r1, v, fun d hd' => by rw [hd d hd']; exact r2 d hd', ?_⟩
    rcases r3 with ⟨f, g1, g2⟩ | ⟨f, g1, g2, k, hk, k1, k2, k3⟩ | ⟨f, aa, b, g1, g2, g3, g4⟩
    · rw [g1] at hs
      exact .inl ⟨f, g1, by rw [← (show f t = f t' from hs)]; exact g2⟩
    · have hs' : ∀ h, f t h = f t' h := by rw [g1] at hs; exact hs
      obtain ⟨c1, c2⟩ := hload f v g1 g2 k hk k1 k2 k3
      exact .inr (.inl ⟨f, g1, by rw [← hs']; exact c1, k, c2, k1, k2, fun h => by rw [k3, hs']⟩)
    · rw [g1] at hs
      exact .inr (.inr ⟨f, aa, b, g1, by rw [← (show f t = f t' from hs)]; exact g2, g3, hps _ g4 rfl⟩)
theorem runPlan_cons {p : PI} : runPlan rec (p :: l) ks ps tV hV = liftO (wantedA tV p.item.guard) fun w => pick w
      (p.item.op.on []
        (fun f => liftO (f tV) fun v => runPlan rec l ks ps (tput tV p.item.dst v) hV)
        (fun f => liftO (f tV hV) fun v => runPlan rec l (⟨p.ix, f tV, v⟩ :: ks) ps (tput tV p.item.dst v) hV)
        (fun f => liftO (f tV) fun a => runPlan rec l ks (⟨p.ix, hV.next, a.obj⟩ :: ps) (tput tV p.item.dst (a.val hV.next)) hV.bump)
        (fun f => bindO (f rec tV (mat p.anc ps hV)) fun r => liftO (recheck p.anc r.h ks) fun ks => runPlan rec l ks (lfilter (fun q => bnot (Nat.testBit p.anc q.ix)) ps) (tput tV p.item.dst r.v) r.h))
      (runPlan rec l ks ps (tput tV p.item.dst .undef) hV) := rfl
theorem valid_cons {p : PI} (h : valid all (p :: l) e = true) : Nat.testBit e p.ix = false ∧ (∀ b, Nat.testBit p.dep b = true → Nat.testBit e b = true) ∧ valid all l (Nat.lor e (2 ^ p.ix)) = true ∧
    (p.sy = true → ∀ q ∈ all, Nat.testBit e q.ix = true ∨ q.ix = p.ix ∨ ¬ ∀ b, Nat.testBit q.dep b = true → Nat.testBit e b = true) := by
  unfold valid at h
  rcases pickB.1 h with ⟨_, h2⟩ | ⟨h1, h2⟩
  · cases h2
  · rcases pickB.1 h2 with ⟨h3, h4⟩ | ⟨_, h4⟩
    · rcases pickB.1 h4 with ⟨h5, h6⟩ | ⟨h5, h6⟩
      · rcases pickB.1 h6 with ⟨h7, h8⟩ | ⟨_, h8⟩
        · refine ⟨h1, sub_iff.1 h3, h8, fun _ q hq => ?_⟩
          have := lall_iff.1 h7 q hq
          rcases pickB.1 this with ⟨a1, _⟩ | ⟨_, a2⟩
          · exact .inl a1
          · rcases pickB.1 a2 with ⟨a3, _⟩ | ⟨_, a4⟩
            · exact .inr (.inl (beq_iff.1 a3))
            · refine .inr (.inr fun hall => ?_)
              rw [bnot_eq, sub_iff.2 hall] at a4; cases a4
        · cases h8
      · exact ⟨h1, sub_iff.1 h3, h6, fun hs => by rw [hs] at h5; cases h5⟩
    · cases h4
theorem matP_objs {c : Nat → Bool} {l : List Pend} {h h' : H} (e : h.objs = h'.objs) : (matP c l h).objs = (matP c l h').objs := by
  induction l with
  | nil => exact e
  | cons p l ih =>
    unfold matP
    split
    · show (matP c l h).objs.set p.b p.o = (matP c l h').objs.set p.b p.o
      rw [ih]
    · exact ih
theorem load_bump {o : Oper} {f : Tm → H → Option AV} (hc : compileOp P o = .load f) (t : Tm) (h : H) : f t h.bump = f t h := by
  obtain ⟨dst, op, ty, pos, after, guard⟩ := o
  cases op <;> simp only [compileOp, compileBin, compileConvert, compileSlice, compileIndexAddr, compileIndex, compileLookup, compileMapEntry, compileCall, compileBuiltin, compileLen, compileAppend, compileCopy] at hc <;> (repeat' split at hc) <;> cases hc <;> rfl
theorem Inv.adv (hpl : PlanOk P nt ops all pl) {p : PI} (I : Inv P N nt ops all rec RS σ0 h0 w0 ds s e (p :: l) ks ps tV hV tE σ a w) (hns : p.sy = false) :
    ∃ ks' ps' tV' hV', Inv P N nt ops all rec RS σ0 h0 w0 ds s (Nat.lor e (2 ^ p.ix)) l ks' ps' tV' hV' tE σ a w := by
  have hpa : p ∈ all := I.lmem p (by simp)
  obtain ⟨v1, v2, v3, _⟩ := valid_cons I.val
  have hnE : ¬ LE s p.ix := fun hle => by rw [I.sub _ hle] at v1; cases v1
  have hanc : ∀ b, Nat.testBit p.anc b = true → Nat.testBit e b = true := anc_sub hpl.items I.vclosed hpa v2
  have hpp : Nat.testBit p.anc p.ix = false := by
    cases hb : Nat.testBit p.anc p.ix with
    | false => rfl
    | true => rw [hanc _ hb] at v1; cases v1
  have hin : ∀ b, Nat.testBit (Nat.lor e (2 ^ p.ix)) b = true ↔ Nat.testBit e b = true ∨ p.ix = b := fun b => by rw [bit_set]; simp
  -- what others look at
  have hlk : ∀ q ∈ all, Nat.testBit e q.ix = true → ∀ d ∈ q.looks, p.item.dst ≠ some d := fun q hq hqe d hd ee => by
    have := apart_nosync (hpl.apart p hpa q hq) hns ee hd
    rw [I.vclosed q hq hqe _ this] at v1; cases v1
  have hself : ∀ d ∈ p.looks, p.item.dst ≠ some d := fun d hd ee => by
    have := apart_nosync (hpl.apart p hpa p hpa) hns ee hd
    rw [hpp] at this; cases this
  have hdst : ∀ q ∈ all, Nat.testBit e q.ix = true → ∀ d, q.item.dst = some d → p.item.dst ≠ some d := fun q hq hqe d hd ee => by
    have hne : p.ix ≠ q.ix := fun e2 => by rw [e2, hqe] at v1; cases v1
    by_cases hm : d ∈ q.looks
    · exact hlk q hq hqe d hm ee
    · exact apart_dst (hpl.apart p hpa q hq) ee hm hne hd
  -- what stands, whatever value comes
  have gen : ∀ (ks' : List Look) (ps' : List Pend) (v : AV) (hV' : H), (∀ k ∈ ks, k ∈ ks') → (∀ q ∈ ps, q ∈ ps') → (∀ x o, (matP (cE s) ps' hV').objs.get x = some o → (matP (cE s) ps hV).objs.get x = some o) → hV.next.toNat ≤ hV'.next.toNat →
      PD ps' hV' → (∀ q ∈ ps', q ∈ ps ∨ (h0.next.toNat ≤ q.b.toNat ∧ q.b.toNat < hV'.next.toNat ∧ q.ix = p.ix ∧ (∃ f, p.item.op = .alloc f) ∧ σ q.b = none)) → (∀ q ∈ ps', ∀ q' ∈ ps', q.ix = q'.ix → q = q') →
      (∀ q ∈ all, Nat.testBit e q.ix = true → ¬ LE s q.ix → Rcd ks ps tV hV q → Rcd ks' ps' (tput tV p.item.dst v) hV' q) →
      Rcd ks' ps' (tput tV p.item.dst v) hV' p → runPlan rec l ks' ps' (tput tV p.item.dst v) hV' ≠ [] → (∀ x ∈ runPlan rec l ks' ps' (tput tV p.item.dst v) hV', x ∈ RS) →
      Inv P N nt ops all rec RS σ0 h0 w0 ds s (Nat.lor e (2 ^ p.ix)) l ks' ps' (tput tV p.item.dst v) hV' tE σ a w := by
    intro ks' ps' v hV' hks hps hmat hnx hpd hpn hpix hrec hrp hrun hres
    refine ⟨I.ssize, I.tr, I.size, I.defers, I.ext.weak hmat (by rw [matP_next, matP_next]; exact hnx), fun i hi => (hin i).2 (.inl (I.sub i hi)), fun q hq hqs hqe => ?_, I.closed, fun q hq hqe b hb => ?_, fun d hd => ?_, fun q hq hqe hqn => ?_, hpd, fun q hq => ?_, hpix, fun q hq hqn => ?_, hrun, hres, fun q hq => I.lmem q (by simp [hq]), v3⟩
    · rcases (hin _).1 hqe with h1 | h1
      · exact I.sync q hq hqs h1
      · have := hpl.items.uniq p hpa q hq h1
        subst this
        rw [hns] at hqs; cases hqs
    · rcases (hin _).1 hqe with h1 | h1
      · exact (hin b).2 (.inl (I.vclosed q hq h1 b hb))
      · have := hpl.items.uniq p hpa q hq h1
        subst this
        exact (hin b).2 (.inl (hanc b hb))
    · rw [tget_tput (hd p hpa ((hin _).2 (.inr rfl)) hnE)]
      exact I.agree d fun q hq hqe hqn => hd q hq ((hin _).2 (.inl hqe)) hqn
    · rcases (hin _).1 hqe with h1 | h1
      · exact hrec q hq h1 hqn (I.recs q hq h1 hqn)
      · have := hpl.items.uniq p hpa q hq h1
        subst this
        exact hrp
    · rcases hpn q hq with h1 | ⟨a1, a2, a3, a4, _⟩
      · obtain ⟨b1, b2, b3, b4⟩ := I.pnum q h1
        exact ⟨b1, Nat.lt_of_lt_of_le b2 hnx, (hin _).2 (.inl b3), b4⟩
      · exact ⟨a1, a2, (hin _).2 (.inr a3.symm), p, hpa, a3.symm, a4⟩
    · rcases hpn q hq with h1 | ⟨_, _, _, _, a5⟩
      · exact I.pun q h1 hqn
      · exact a5
  have keep : ∀ (ks' : List Look) (ps' : List Pend) (v : AV) (hV' : H), (∀ k ∈ ks, k ∈ ks') → (∀ q ∈ ps, q ∈ ps') → (∀ q ∈ ps', q ∈ ps ∨ q.ix = p.ix) → (∀ f : Tm → H → Option AV, ∀ q ∈ all, Nat.testBit e q.ix = true → q.item.op = .load f → ∀ u, f tV hV = some u → f tV hV' = some u) →
      ∀ q ∈ all, Nat.testBit e q.ix = true → ¬ LE s q.ix → Rcd ks ps tV hV q → Rcd ks' ps' (tput tV p.item.dst v) hV' q := by
    intro ks' ps' v hV' hks hps hnw hld q hq hqe hqn hr
    exact hr.keep hpl.items hq (fun d hd => (tget_tput (hlk q hq hqe d hd)).symm) (fun d hd => tget_tput (hdst q hq hqe d hd)) (fun f u hf hu k hk _ _ _ => ⟨hld f q hq hqe hf u hu, hks k hk⟩) (fun q' hq' _ => hps q' hq') (fun q' hq' => (hnw q' hq').imp id (fun e2 e3 => by rw [← e2, e3, hqe] at v1; cases v1))
  have hlself : ∀ v, ∀ d ∈ p.looks, tget tV d = tget (tput tV p.item.dst v) d := fun v d hd => (tget_tput (hself d hd)).symm
  have hput : ∀ v, ∀ d, p.item.dst = some d → tget (tput tV p.item.dst v) d = v := fun v d hd => by rw [hd]; exact tget_tput_same
  have hrun := I.run
  have hres := I.res
  rw [runPlan_cons] at hrun hres
  obtain ⟨b, hb, e1⟩ := liftO_ne hrun
  rw [e1] at hrun hres
  cases b with
  | false =>
    have hrun' : runPlan rec l ks ps (tput tV p.item.dst .undef) hV ≠ [] := hrun
    refine ⟨ks, ps, _, hV, gen ks ps .undef hV (fun _ h => h) (fun _ h => h) (fun _ _ h => h) (Nat.le_refl _) I.pd (fun q hq => .inl hq) I.pix (keep ks ps .undef hV (fun _ h => h) (fun _ h => h) (fun _ h => .inl h) fun _ _ _ _ _ _ h => h) ?_ hrun' hres⟩
    exact .inl ⟨by rw [← pi_guard hpl.items hpa (hlself .undef)]; exact hb, hput .undef, fun q hq ee => by have := (I.pnum q hq).2.2.1; rw [ee, v1] at this; cases this⟩
  | true =>
    cases hop : p.item.op with
    | bad => rw [hop] at hrun; exact absurd rfl hrun
    | pure f =>
      rw [hop] at hrun hres
      have hrun' : (liftO (f tV) fun v => runPlan rec l ks ps (tput tV p.item.dst v) hV) ≠ [] := hrun
      obtain ⟨v, hv, e2⟩ := liftO_ne hrun'
      have hres' : ∀ x ∈ (liftO (f tV) fun v => runPlan rec l ks ps (tput tV p.item.dst v) hV), x ∈ RS := hres
      rw [e2] at hrun' hres'
      refine ⟨ks, ps, _, hV, gen ks ps v hV (fun _ h => h) (fun _ h => h) (fun _ _ h => h) (Nat.le_refl _) I.pd (fun q hq => .inl hq) I.pix (keep ks ps v hV (fun _ h => h) (fun _ h => h) (fun _ h => .inl h) fun _ _ _ _ _ _ h => h) ?_ hrun' hres'⟩
      have hs := pi_same hpl.items hpa (hlself v)
      rw [hop] at hs
      exact .inr ⟨by rw [← pi_guard hpl.items hpa (hlself v)]; exact hb, v, hput v, .inl ⟨f, hop, by rw [← (show f tV = f _ from hs)]; exact hv⟩⟩
    | load f =>
      rw [hop] at hrun hres
      have hrun' : (liftO (f tV hV) fun v => runPlan rec l (⟨p.ix, f tV, v⟩ :: ks) ps (tput tV p.item.dst v) hV) ≠ [] := hrun
      obtain ⟨v, hv, e2⟩ := liftO_ne hrun'
      have hres' : ∀ x ∈ (liftO (f tV hV) fun v => runPlan rec l (⟨p.ix, f tV, v⟩ :: ks) ps (tput tV p.item.dst v) hV), x ∈ RS := hres
      rw [e2] at hrun' hres'
      refine ⟨⟨p.ix, f tV, v⟩ :: ks, ps, _, hV, gen _ ps v hV (fun _ h => by simp [h]) (fun _ h => h) (fun _ _ h => h) (Nat.le_refl _) I.pd (fun q hq => .inl hq) I.pix (keep _ ps v hV (fun _ h => by simp [h]) (fun _ h => h) (fun _ h => .inl h) fun _ _ _ _ _ _ h => h) ?_ hrun' hres'⟩
      have hs := pi_same hpl.items hpa (hlself v)
      rw [hop] at hs
      have hs' : ∀ h, f tV h = f (tput tV p.item.dst v) h := hs
      exact .inr ⟨by rw [← pi_guard hpl.items hpa (hlself v)]; exact hb, v, hput v, .inr (.inl ⟨f, hop, by rw [← hs']; exact hv, ⟨p.ix, f tV, v⟩, by simp, rfl, rfl, fun h => hs' h⟩)⟩
    | alloc f =>
      rw [hop] at hrun hres
      have hrun' : (liftO (f tV) fun a => runPlan rec l ks (⟨p.ix, hV.next, a.obj⟩ :: ps) (tput tV p.item.dst (a.val hV.next)) hV.bump) ≠ [] := hrun
      obtain ⟨aa, hv, e2⟩ := liftO_ne hrun'
      have hres' : ∀ x ∈ (liftO (f tV) fun a => runPlan rec l ks (⟨p.ix, hV.next, a.obj⟩ :: ps) (tput tV p.item.dst (a.val hV.next)) hV.bump), x ∈ RS := hres
      rw [e2] at hrun' hres'
      have hfr : σ hV.next = none := I.ext.holds.fresh _ (by rw [matP_next]; exact Nat.le_refl _)
      have hnon : hV.objs.get hV.next = none := by
        cases hg : hV.objs.get hV.next with
        | none => rfl
        | some o =>
          obtain ⟨lx, _, h1, _⟩ := I.ext.holds.rep hV.next o ((matP_iff I.pd).2 (.inr hg))
          rw [hfr] at h1; cases h1
      have hcE : cE s p.ix = false := by
        unfold cE
        cases hb : s.getD p.ix false with
        | false => rfl
        | true => exact absurd hb hnE
      refine ⟨ks, ⟨p.ix, hV.next, aa.obj⟩ :: ps, _, hV.bump, gen ks _ (aa.val hV.next) hV.bump (fun _ h => h) (fun _ h => by simp [h]) (fun x o hx => ?_) (by show hV.next.toNat ≤ hV.next.succ.toNat; rw [Pos.toNat_succ]; omega)
        ⟨fun q hq q' hq' ee => ?_, fun q hq => ?_⟩ (fun q hq => ?_) (fun q hq q' hq' ee => ?_) (keep ks _ (aa.val hV.next) hV.bump (fun _ h => h) (fun _ h => by simp [h]) (fun q hq => by rcases List.mem_cons.1 hq with rfl | hq; exact .inr rfl; exact .inl hq) fun f q hq hqe hf u hu => ?_) ?_ hrun' hres'⟩
      · have e3 : matP (cE s) (⟨p.ix, hV.next, aa.obj⟩ :: ps) hV.bump = matP (cE s) ps hV.bump := by
          show (if cE s p.ix = true then _ else _) = _
          rw [hcE, if_neg Bool.false_ne_true]
        rw [e3, show (matP (cE s) ps hV.bump).objs = (matP (cE s) ps hV).objs from matP_objs rfl] at hx
        exact hx
      · rcases List.mem_cons.1 hq with rfl | hq
        · rcases List.mem_cons.1 hq' with rfl | hq'
          · rfl
          · have := (I.pnum q' hq').2.1
            rw [← ee] at this
            exact absurd this (Nat.lt_irrefl _)
        · rcases List.mem_cons.1 hq' with rfl | hq'
          · have := (I.pnum q hq).2.1
            rw [ee] at this
            exact absurd this (Nat.lt_irrefl _)
          · exact I.pd.inj q hq q' hq' ee
      · rcases List.mem_cons.1 hq with rfl | hq
        · exact hnon
        · exact I.pd.non q hq
      · rcases List.mem_cons.1 hq with rfl | hq
        · refine .inr ⟨?_, ?_, rfl, ⟨f, hop⟩, hfr⟩
          · have := I.ext.next; rw [matP_next] at this; exact this
          · show hV.next.toNat < hV.next.succ.toNat; rw [Pos.toNat_succ]; omega
        · exact .inl hq
      · rcases List.mem_cons.1 hq with rfl | hq
        · rcases List.mem_cons.1 hq' with rfl | hq'
          · rfl
          · have := (I.pnum q' hq').2.2.1
            rw [← ee] at this
            have e9 : Nat.testBit e p.ix = true := this
            rw [v1] at e9; cases e9
        · rcases List.mem_cons.1 hq' with rfl | hq'
          · have := (I.pnum q hq).2.2.1
            rw [ee] at this
            have e9 : Nat.testBit e p.ix = true := this
            rw [v1] at e9; cases e9
          · exact I.pix q hq q' hq' ee
      · obtain ⟨o, _, _, _, e3⟩ := hpl.items.item q hq
        rw [e3] at hf
        obtain ⟨_, _, h3⟩ := item_op hf (by intro e; cases e)
        rw [load_bump h3]; exact hu
      · have hs := pi_same hpl.items hpa (hlself (aa.val hV.next))
        rw [hop] at hs
        exact .inr ⟨by rw [← pi_guard hpl.items hpa (hlself _)]; exact hb, _, hput _, .inr (.inr ⟨f, aa, hV.next, hop, by rw [← (show f tV = f _ from hs)]; exact hv, rfl, by simp⟩)⟩
    | heavy f =>
      have := (hpl.sync p hpa).2 hns
      unfold isHv at this
      rw [hop] at this
      cases this
end
end Go.Proofs.YtgemonlknehegaaGreatDoor.AI
