/- The chain of TopRefuses, part 27. -/
import Derived.Test.YtgemonlknehegaaGreatDoorK26
namespace Go.Proofs.YtgemonlknehegaaGreatDoor.AI
open Go
set_option linter.unusedVariables false
set_option linter.unusedSimpArgs false
def TRel (κ : Kp) (t3 : T3) (t : Tm) : Prop := ∀ p v, t3.get p = some v → ∃ a, sden κ v = some a ∧ t.get p = some a
theorem TRel.mono {κ κ' : Kp} {t3 : T3} {t : Tm} (hl : κ.le κ') (h : TRel κ t3 t) : TRel κ' t3 t := fun p v hv => by
  obtain ⟨a, h1, h2⟩ := h p v hv; exact ⟨a, sden_mono hl h1, h2⟩
theorem TRel.set {κ : Kp} {t3 : T3} {t : Tm} (h : TRel κ t3 t) (p : Pos) {v : SV} {a : AV} (hv : sden κ v = some a) : TRel κ (t3.set p v) (t.set p a) := fun q w hw => by
  rw [T.get_set] at hw ⊢
  by_cases e : q = p
  · rw [if_pos e] at hw ⊢; cases hw; exact ⟨a, hv, rfl⟩
  · rw [if_neg e] at hw ⊢; exact h q w hw
theorem TRel.put {κ : Kp} {t3 : T3} {t : Tm} (h : TRel κ t3 t) (d : Option Tmp) {v : SV} {a : AV} (hv : sden κ v = some a) : TRel κ (tput3 t3 d v) (tput t d a) := by
  cases d with
  | none => exact h
  | some d => exact h.set _ hv
/-- the symbolic side alone says the same in other words -/
theorem TRel.again {κ : Kp} {t3 : T3} {t : Tm} (h : TRel κ t3 t) (p : Pos) {v w : SV} {a : AV} (hv : t3.get p = some v) (hd : sden κ v = some a) (hw : sden κ w = some a) : TRel κ (t3.set p w) t := fun q u hu => by
  rw [T.get_set] at hu
  by_cases e : q = p
  · rw [if_pos e] at hu; cases hu
    obtain ⟨a', h1, h2⟩ := h p v hv
    rw [hd] at h1; cases h1
    exact ⟨a, hw, by rw [e]; exact h2⟩
  · rw [if_neg e] at hu; exact h q u hu
def taskOf (g : FuncId) (as : List AV) : Task :=
  match Nat.beq g yieldF with
  | true => (match as with | .yield b :: l => .round b l | _ => .call g as)
  | false => .call g as
theorem taskOf_call {g : FuncId} (h : Nat.beq g yieldF = false) (as : List AV) : taskOf g as = .call g as := by unfold taskOf; rw [h]
theorem taskOf_round (b : Pos) (l : List AV) : taskOf yieldF (.yield b :: l) = .round b l := rfl
def RecRel (rec3 : R3) (rec : Rec) : Prop := ∀ g args sh v sh', (rec3 g args sh).val = some (v, sh') → ∀ κ h as, St κ sh h → sdenL κ args = some as → Good κ sh h v sh' (rec (taskOf g as) h)
def OpRel (s : SOp) (a : AOp) : Prop :=
  match s, a with
  | .bad, _ => True
  | .pure f3, .pure f => ∀ κ t3 t v, TRel κ t3 t → (f3 t3).val = some v → ∃ av, f t = some av ∧ sden κ v = some av
  | .load f3, .load f => ∀ κ t3 t sh h v, TRel κ t3 t → St κ sh h → (f3 t3 sh).val = some v → ∃ av, f t h = some av ∧ sden κ v = some av
  | .alloc f3, .alloc f => ∀ κ t3 t o mk, TRel κ t3 t → (f3 t3).val = some (o, mk) → ∃ aa, f t = some aa ∧ ORel κ o aa.obj ∧ ∀ (κ' : Kp) x p, κ.le κ' → κ' x = some p → sden κ' (mk x) = some (aa.val p)
  | .heavy f3, .heavy f => ∀ rec3 rec, RecRel rec3 rec → ∀ κ t3 t sh h v sh', TRel κ t3 t → St κ sh h → (f3 rec3 t3 sh).val = some (v, sh') → Good κ sh h v sh' (f rec t h)
  | _, _ => False
section
variable {κ : Kp} {t3 : T3} {t : Tm} {P : Program}
theorem opd3_ok (ht : TRel κ t3 t) {x : Operand} {v : SV} (h : opd3 x t3 = some v) : sden κ v = some (opd x t) := by
  cases x with
  | tmp i =>
    obtain ⟨a, h1, h2⟩ := ht _ _ h
    rw [h1]
    show some a = some (Option.rec AV.undef (fun v => v) (t.get (posOf i)))
    rw [h2]
  | const v => cases h; exact sden_ofAV _
  | global g => cases h
  | func f => cases h; rfl
theorem opds3_ok (ht : TRel κ t3 t) : ∀ {xs : List Operand} {vs : List SV}, opds3 xs t3 = some vs → sdenL κ vs = some (opds xs t)
  | [], vs, h => by cases h; rfl
  | x :: l, vs, h => by
    unfold opds3 at h
    split at h
    · rename_i v ws h1 h2
      cases h
      exact sdenL_cons.2 ⟨_, _, opd3_ok ht h1, opds3_ok ht h2, rfl⟩
    · cases h
theorem un1_some {x : Operand} {f : SV → DT SV} {v : SV} (h : (un1 x t3 f).val = some v) : ∃ w, opd3 x t3 = some w ∧ (f w).val = some v := by
  unfold un1 at h
  split at h
  · rename_i w hw; exact ⟨w, hw, h⟩
  · cases h
theorem un2_some {x y : Operand} {f : SV → SV → DT SV} {v : SV} (h : (un2 x y t3 f).val = some v) : ∃ u w, opd3 x t3 = some u ∧ opd3 y t3 = some w ∧ (f u w).val = some v := by
  unfold un2 at h
  split at h
  · rename_i u w hu hw; exact ⟨u, w, hu, hw, h⟩
  · cases h
theorem optOpd_ok (ht : TRel κ t3 t) {x : Option Operand} {v : Option SV} (h : optOpd x t3 = some v) : OptRel κ v (x.map (opd · t)) := by
  cases x with
  | none => cases h; exact .inl ⟨rfl, rfl⟩
  | some x =>
    unfold optOpd at h
    simp only at h
    split at h
    · rename_i w hw; cases h; exact .inr ⟨w, _, rfl, rfl, opd3_ok ht hw⟩
    · cases h
theorem sPick_ok {c a b v : SV} {ac aa ab : AV} (h : (sPick c a b).val = some v) (hc : sden κ c = some ac) (ha : sden κ a = some aa) (hb : sden κ b = some ab) : ∃ av, (ac.onBool none fun r => some (pick r aa ab)) = some av ∧ sden κ v = some av := by
  unfold sPick at h
  split at h
  · rename_i o x
    rw [sden_b hc]
    refine ⟨pick x aa ab, rfl, ?_⟩
    split at h
    · split at h
      · rw [← leaf_some h]; exact ha
      · rw [← leaf_some h]; exact hb
    · split at h
      · rename_i o1 u o2 w
        rw [← leaf_some h, sden_b ha, sden_b hb]
        cases x <;> rfl
      · rcases node_some h with ⟨h1, h2⟩ | ⟨h1, h2⟩
        · rw [h1, ← leaf_some h2]; exact ha
        · rw [h1, ← leaf_some h2]; exact hb
  · cases h
theorem splaces_ok (ht : TRel κ t3 t) : ∀ {ps : List (Nat × Nat × Operand)} {qs : List (Nat × Nat × SV)} {cs r : List SV} {as : List AV}, splaces t3 ps = some qs → safill qs cs = some r → sdenL κ cs = some as → ∃ ar, afill t ps as = some ar ∧ sdenL κ r = some ar ∧ r.length = cs.length
  | [], qs, cs, r, as, h, h2, hd => by cases h; cases h2; exact ⟨as, rfl, hd, rfl⟩
  | p :: l, qs, cs, r, as, h, h2, hd => by
    unfold splaces at h
    split at h
    · rename_i v rs h3 h4
      cases h
      unfold safill at h2
      split at h2
      · rename_i hb
        rw [Bool.and_eq_true] at hb
        split at h2
        · rename_i cs' hc
          obtain ⟨k1, rfl⟩ := lput_some hc
          have hv := opd3_ok ht h3
          have hcd := cells_den hb.1 hv
          have hl := sdenL_length hcd
          have hl2 := sdenL_length hd
          have hnew := sdenL_append (sdenL_append (sdenL_take p.1 hd) hcd) (sdenL_drop (p.1 + v.cells.length) hd)
          obtain ⟨ar, e1, e2, e4⟩ := splaces_ok ht h4 h2 hnew
          refine ⟨ar, ?_, e2, by rw [e4, List.length_append, List.length_append, List.length_take, List.length_drop]; omega⟩
          show whenS (Nat.beq (llen (opd p.2.2 t).cells) p.2.1) (bindS (lput p.1 (opd p.2.2 t).cells as) fun cs => afill t l cs) = _
          have e3 : Nat.beq (llen (opd p.2.2 t).cells) p.2.1 = true := by rw [llen_eq, hl, ← llen_eq]; exact hb.2
          rw [e3, lput_of (by omega)]
          rw [hl]
          exact e1
        · cases h2
      · cases h2
    · cases h
theorem reps_den {cs : List SV} {as : List AV} (h : sdenL κ cs = some as) : ∀ n : Nat, sdenL κ (reps cs n) = some (reps as n)
  | 0 => rfl
  | n + 1 => by
    show sdenL κ (lapp cs (reps cs n)) = some (lapp as (reps as n))
    rw [lapp_eq, lapp_eq]
    exact sdenL_append h (reps_den h n)
theorem ofAV_cells (a : AV) : sdenL κ (ofAV a).cells = some a.cells ∨ (ofAV a).noO = false := by
  cases h : (ofAV a).noO with
  | true => exact .inl (cells_den h (sden_ofAV a))
  | false => exact .inr rfl
theorem ofAV1_noO {a : AV} : (ofAV1 a).noO = true ∨ ∃ x, ofAV1 a = .o x := by
  cases h : ofAV1 a <;> first | exact .inr ⟨_, rfl⟩ | exact .inl rfl
theorem cells_len (a : AV) (κ : Kp) : sdenL κ (ofAV a).cells = some a.cells := by
  cases a with
  | agg l => exact sdenL_ofAV1 l
  | bool b => rfl
  | int k n => rfl
  | str l => rfl
  | nil k => rfl
  | func f u w => cases u <;> cases w <;> rfl
  | tuple l => cases l <;> rfl
  | bad => rfl
  | ptr b o => rfl
  | slice b o l c => rfl
  | etail b o k l z => rfl
  | map b => rfl
  | yield b => rfl
/-! ### Each kind -/
theorem rel_move (x : Operand) : OpRel (.pure fun tm => un1 x tm .leaf) (.pure fun tm => some (opd x tm)) := fun κ t3 t v ht h => by
  obtain ⟨w, h1, h2⟩ := un1_some h
  rw [← leaf_some h2]
  exact ⟨_, rfl, opd3_ok ht h1⟩
theorem rel_bin (op : BinOp) (x y : Operand) : OpRel (.pure fun tm => un2 x y tm (sBin op)) (.pure fun tm => aBin op (opd x tm) (opd y tm)) := fun κ t3 t v ht h => by
  obtain ⟨u, w, h1, h2, h3⟩ := un2_some h
  exact sBin_ok h3 (opd3_ok ht h1) (opd3_ok ht h2)
theorem seBin_rel (op : BinOp) (ti : TypeId) (x y : Operand) : OpRel (seBin P op ti x y) (compileBin P op ti x y) := by
  cases op with
  | eql =>
    unfold seBin compileBin
    simp only
    cases hg : P.eqGuardType P.depth ti with
    | true => trivial
    | false =>
      cases hq : compileEq P 5 ti with
      | none => trivial
      | some q =>
        intro κ t3 t v ht h
        obtain ⟨u, w, h1, h2, h3⟩ := un2_some h
        split at h3
        · rename_i r hr
          rw [← leaf_some h3]
          have := seq3_ok 5 q u w r _ _ hr (opd3_ok ht h1) (opd3_ok ht h2)
          refine ⟨.bool r.c, ?_, rfl⟩
          show bindS (aeq 5 q (opd x t) (opd y t)) _ = _
          rw [this]; rfl
        · cases h3
  | neq =>
    unfold seBin compileBin
    simp only
    cases hg : P.eqGuardType P.depth ti with
    | true => trivial
    | false =>
      cases hq : compileEq P 5 ti with
      | none => trivial
      | some q =>
        intro κ t3 t v ht h
        obtain ⟨u, w, h1, h2, h3⟩ := un2_some h
        split at h3
        · rename_i r hr
          rw [← leaf_some h3]
          have := seq3_ok 5 q u w r _ _ hr (opd3_ok ht h1) (opd3_ok ht h2)
          refine ⟨.bool (bnot r.c), ?_, by rw [bnot_eq]; rfl⟩
          show bindS (aeq 5 q (opd x t) (opd y t)) _ = _
          rw [this]; rfl
        · cases h3
  | add => exact rel_bin .add x y
  | sub => exact rel_bin .sub x y
  | mul => exact rel_bin .mul x y
  | quo => exact rel_bin .quo x y
  | rem => exact rel_bin .rem x y
  | and => exact rel_bin .and x y
  | or => exact rel_bin .or x y
  | xor => exact rel_bin .xor x y
  | andNot => exact rel_bin .andNot x y
  | shl => exact rel_bin .shl x y
  | shr => exact rel_bin .shr x y
  | lss => exact rel_bin .lss x y
  | leq => exact rel_bin .leq x y
  | gtr => exact rel_bin .gtr x y
  | geq => exact rel_bin .geq x y
theorem seConvert_rel (s d : TypeId) (x : Operand) : OpRel (seConvert P s d x) (compileConvert P s d x) := by
  unfold seConvert
  split
  · rename_i k k' h1 h2
    simp only [compileConvert, h1, h2]
    intro κ t3 t v ht h
    obtain ⟨w, e1, e2⟩ := un1_some h
    exact sConvInt_ok e2 (opd3_ok ht e1)
  · rename_i h1 h2
    simp only [compileConvert, h1, h2]
    intro κ t3 t v ht h
    obtain ⟨w, e1, e2⟩ := un1_some h
    split at e2
    · rename_i o l
      rw [← leaf_some e2]
      refine ⟨.str l, ?_, rfl⟩
      dsimp only
      rw [sden_s (opd3_ok ht e1)]; rfl
    · cases e2
  · rename_i e h1 h2
    split
    · rename_i h3 h4
      simp only [compileConvert, h1, h2, h3, h4]
      intro κ t3 t o mk ht h
      dsimp only at h ⊢
      split at h
      · rename_i o' l hx
        obtain ⟨g1, g2⟩ := need_some h
        cases leaf_some g2
        rw [sden_s (opd3_ok ht hx)]
        refine ⟨⟨.row e (bytesCells l) l.length (some l.length), fun b => .slice b 0 l.length (.opn 0)⟩, ?_, rfl, fun κ' x p hle hx => by simp only [sden, hx, Nat.zero_mul]⟩
        show force (llen l) (fun n => whenS (Nat.blt n 9223372036854775808) (some (⟨.row e (bytesCells l) n (some n), fun b => .slice b 0 n (.opn 0)⟩ : AA))) = _
        rw [force_eq, llen_eq, blt_iff.2 (of_decide_eq_true g1)]; rfl
      · cases h
    · trivial
  · rename_i e h1 h2
    split
    · rename_i h3
      simp only [compileConvert, h1, h2, h3]
      intro κ t3 t sh h v ht st hv
      obtain ⟨w, e1, e2⟩ := un1_some hv
      exact sToStr_ok e2 st (opd3_ok ht e1)
    · trivial
  · rename_i u h1 h2
    split
    · rename_i sz h3
      simp only [compileConvert, h1, h2, h3]
      intro κ t3 t sh h v ht st hv
      dsimp only at hv ⊢
      obtain ⟨w, e1, e2⟩ := un1_some hv
      split at e2
      · rename_i b off
        split at e2
        · rename_i ty cells hg
          split at e2
          · rename_i f1 f2
            rw [← leaf_some e2]
            obtain ⟨p, d1, hp⟩ := sden_ptr (opd3_ok ht e1)
            rw [hp]
            obtain ⟨p', ao, d2, d3, cs, d4, rfl⟩ := st.rel b _ hg
            rw [d1] at d2; cases d2
            refine ⟨.ptr p off, ?_, by simp only [sden, d1]⟩
            show h.row p none (fun _ _ n o => match o with | none => whenS (Nat.blt off n) (pick (Nat.beq sz 0) none (some (AV.ptr p off))) | some _ => none) = _
            rw [row_eq d3]
            show whenS (Nat.blt off cs.length) _ = _
            rw [sdenL_length d4, ← llen_eq, f1, f2]; rfl
          · cases e2
        · cases e2
      · cases e2
    · trivial
  · rename_i u h1 h2
    split
    · rename_i sz h3
      simp only [compileConvert, h1, h2, h3]
      intro κ t3 t sh h v ht st hv
      dsimp only at hv ⊢
      obtain ⟨w, e1, e2⟩ := un1_some hv
      split at e2
      · rename_i b off
        split at e2
        · rename_i ty cells hg
          split at e2
          · rename_i f1 f2 f3 f4
            rw [← leaf_some e2]
            obtain ⟨p, d1, hp⟩ := sden_ptr (opd3_ok ht e1)
            rw [hp]
            obtain ⟨p', ao, d2, d3, cs, d4, rfl⟩ := st.rel b _ hg
            rw [d1] at d2; cases d2
            refine ⟨.ptr p off, ?_, by simp only [sden, d1]⟩
            show h.row p none (fun ty _ n o => match o with | none => whenS (Nat.beq ty u) (whenS (Nat.beq off 0) (whenS (Nat.beq n sz) (pick (Nat.beq sz 0) none (some (AV.ptr p off))))) | some _ => none) = _
            rw [row_eq d3]
            show whenS (Nat.beq ty u) (whenS (Nat.beq off 0) (whenS (Nat.beq cs.length sz) _)) = _
            rw [sdenL_length d4, ← llen_eq, f1, f2, f3, f4]; rfl
          · cases e2
        · cases e2
      · cases e2
    · trivial
  · trivial
theorem seAppend_rel (e : TypeId) (ud : TypeDesc) (s x : Operand) : OpRel (seAppend P e ud s x) (compileAppend P e ud s x) := by
  unfold seAppend compileAppend
  cases hi : P.info? e with
  | none => trivial
  | some i =>
    cases hz : zeroOf P e with
    | none => trivial
    | some z =>
      simp only
      split
      · rename_i b1 b2 b3
        simp only [b1, b2, b3]
        cases ud with
        | string =>
          simp only
          split
          · rename_i b4
            intro rec3 rec hr κ t3 t sh h v sh' ht st hv
            simp only at hv
            split at hv
            · rename_i o l sv hx hs
              obtain ⟨k1, m, k2, k3⟩ := smallS_ok hv (opd3_ok ht hs)
              obtain ⟨k4, k5⟩ := sAppend_good k1 (els := .bytes l) ⟨rfl, rfl, beq_iff.1 b4⟩ st (opd3_ok ht hs)
              dsimp only
              rw [sden_s (opd3_ok ht hx)]
              show Good κ sh h v sh' (liftO (slen (opd s t)) fun m => force (llen l) fun n => whenL (Nat.beq i.size 1) (whenL (small n) (whenL (small m) (aAppend e i.size h (opd s t) (bytesCells l) n))))
              rw [k2]
              show Good κ sh h v sh' (force (llen l) fun n => whenL (Nat.beq i.size 1) (whenL (small n) (whenL (small m) (aAppend e i.size h (opd s t) (bytesCells l) n))))
              rw [force_eq, llen_eq, b4, k4, k3]; exact k5
            · cases hv
          · trivial
        | slice el =>
          intro rec3 rec hr κ t3 t sh h v sh' ht st hv
          simp only at hv
          split at hv
          · rename_i xv sv hx hs
            obtain ⟨k1, m, k2, k3⟩ := smallS_ok hv (opd3_ok ht hs)
            obtain ⟨els, n, cs, f1, f2, f3, f4⟩ := srcEls_ok k1 st (opd3_ok ht hx)
            obtain ⟨k4, k5⟩ := sAppend_good f4 f3 st (opd3_ok ht hs)
            show Good κ sh h v sh' (liftO (slen (opd x t)) fun n => liftO (slen (opd s t)) fun m => whenL (small n) (whenL (small m) (liftO (hcells h i.size n (opd x t)) fun cs => aAppend e i.size h (opd s t) cs n)))
            rw [f1]
            show Good κ sh h v sh' (liftO (slen (opd s t)) fun m => whenL (small n) (whenL (small m) (liftO (hcells h i.size n (opd x t)) fun cs => aAppend e i.size h (opd s t) cs n)))
            rw [k2, k4]
            show Good κ sh h v sh' (whenL (small m) (liftO (hcells h i.size n (opd x t)) fun cs => aAppend e i.size h (opd s t) cs n))
            rw [k3, f2]; exact k5
          · cases hv
        | _ => trivial
      · trivial
end
end Go.Proofs.YtgemonlknehegaaGreatDoor.AI
namespace Go.Proofs.YtgemonlknehegaaGreatDoor.AI
open Go
set_option linter.unusedVariables false
set_option linter.unusedSimpArgs false
section
variable {κ : Kp} {t3 : T3} {t : Tm} {P : Program}
theorem sLen_ok {w v : SV} {a : AV} (h : (sLen w).val = some v) (hd : sden κ w = some a) : (∃ o l, w = .s o l ∧ sden κ v = some (.int .i64 (Int.ofNat l.length)) ∧ a = .str l) ∨ ((∀ o l, w ≠ .s o l) ∧ ∃ n, slen a = some n ∧ sden κ v = some (.int .i64 (Int.ofNat n))) := by
  unfold sLen at h
  split at h
  · rename_i o l
    refine .inl ⟨o, l, rfl, ?_, sden_s hd⟩
    split at h
    · rw [← leaf_some h, llen_eq]; rfl
    · rw [← leaf_some h]; rfl
  · rename_i k
    split at h
    · rename_i e1
      rw [← leaf_some h, sden_nil hd]
      refine .inr ⟨fun o l => by simp, 0, ?_, rfl⟩
      show whenS (Nat.beq k.no 1) (some 0) = _; rw [e1]; rfl
    · cases h
  · obtain ⟨p, _, rfl⟩ := sden_sl hd
    rw [← leaf_some h]
    exact .inr ⟨fun o l => by simp, _, rfl, rfl⟩
  · obtain ⟨p, _, rfl⟩ := sden_tsl hd
    rw [← leaf_some h]
    exact .inr ⟨fun o l => by simp, _, rfl, rfl⟩
  · obtain ⟨p, _, rfl⟩ := sden_etl hd
    rw [← leaf_some h]
    exact .inr ⟨fun o l => by simp, _, rfl, rfl⟩
  · cases h
theorem mden_length : ∀ {l : List (SV × SV × Nat)} {r : List ME}, mden κ l = some r → r.length = l.length
  | [], _, h => by simp [mden] at h; rw [h]; rfl
  | e :: l, _, h => by obtain ⟨_, _, s, _, _, h3, rfl⟩ := mden_cons.1 h; simp [mden_length h3]
theorem rel_len (ty : TypeId) (x : Operand) : OpRel (match P.underlying ty with
      | some .string => .pure fun tm => un1 x tm fun v => (match v with | .s _ _ => sLen v | _ => .fail)
      | some (.slice _) => .pure fun tm => un1 x tm fun v => (match v with | .s _ _ => .fail | v => sLen v)
      | some (.map _ _) => .load fun tm h => un1 x tm (sLenM h)
      | _ => .bad) (compileLen P ty x) := by
  split
  · rename_i h1
    simp only [compileLen, h1]
    intro κ t3 t v ht h
    dsimp only at h ⊢
    obtain ⟨w, e1, e2⟩ := un1_some h
    split at e2
    · rename_i o l
      rcases sLen_ok e2 (opd3_ok ht e1) with ⟨o', l', hw, hv, ha⟩ | ⟨hn, _⟩
      · rw [ha]
        refine ⟨_, ?_, hv⟩
        show some (force (llen l') fun n => AV.int .i64 (Int.ofNat n)) = _
        rw [force_eq, llen_eq]
      · exact absurd rfl (hn o l)
    · cases e2
  · rename_i e h1
    simp only [compileLen, h1]
    intro κ t3 t v ht h
    dsimp only at h ⊢
    obtain ⟨w, e1, e2⟩ := un1_some h
    split at e2
    · cases e2
    · rename_i hns
      rcases sLen_ok e2 (opd3_ok ht e1) with ⟨o', l', hw, hv, ha⟩ | ⟨hn, n, hs, hv⟩
      · exact absurd hw (by intro e; exact hns o' l' e)
      · refine ⟨_, ?_, hv⟩
        rw [hs]; rfl
  · rename_i kt vt h1
    simp only [compileLen, h1]
    intro κ t3 t sh h v ht st hv
    dsimp only at hv ⊢
    obtain ⟨w, e1, e2⟩ := un1_some hv
    unfold sLenM at e2
    split at e2
    · rename_i k
      split at e2
      · rename_i e3
        rw [← leaf_some e2, sden_nil (opd3_ok ht e1)]
        refine ⟨.int .i64 (Int.ofNat 0), ?_, rfl⟩
        show whenS (Nat.beq k.no 2) _ = _; rw [e3]; rfl
      · cases e2
    · rename_i b
      obtain ⟨p, d1, hp⟩ := sden_map (opd3_ok ht e1)
      split at e2
      · rename_i es clock hg
        rw [← leaf_some e2, hp]
        obtain ⟨p', ao, d2, d3, mes, d4, rfl⟩ := st.rel b _ hg
        rw [d1] at d2; cases d2
        refine ⟨.int .i64 (Int.ofNat mes.length), ?_, ?_⟩
        · show h.map p none (fun es _ => some (force (llen es) fun n => AV.int .i64 (Int.ofNat n))) = _
          rw [map_eq d3, force_eq, llen_eq]
        · rw [llen_eq, mden_length d4]; rfl
      · cases e2
    · cases e2
  · trivial
theorem seBuiltin_rel (b : Builtin) (tys : List TypeId) (args : List Operand) : OpRel (seBuiltin P b tys args) (compileBuiltin P b tys args) := by
  cases b with
  | len =>
    unfold seBuiltin compileBuiltin
    simp only
    split
    · exact rel_len _ _
    · trivial
  | cap =>
    unfold seBuiltin compileBuiltin
    simp only
    split
    · split
      · rename_i t0 x e h1
        simp only [h1]
        intro κ t3 t v ht h
        dsimp only at h ⊢
        obtain ⟨w, e1, e2⟩ := un1_some h
        split at e2
        · rename_i k
          split at e2
          · rename_i e3
            rw [← leaf_some e2, sden_nil (opd3_ok ht e1)]
            refine ⟨.int .i64 (Int.ofNat 0), ?_, rfl⟩
            show whenS (Nat.beq k.no 1) _ = _; rw [e3]; rfl
          · cases e2
        · obtain ⟨p, _, hp⟩ := sden_sl (opd3_ok ht e1)
          rw [← leaf_some e2, hp]
          exact ⟨_, rfl, rfl⟩
        · cases e2
      · trivial
    · trivial
  | min =>
    unfold seBuiltin compileBuiltin
    simp only
    split
    · rename_i x l
      intro κ t3 t v ht h
      dsimp only at h ⊢
      split at h
      · rename_i a r hr
        obtain ⟨ax, s, d1, d2, d3⟩ := sdenL_cons.1 (opds3_ok ht hr)
        have d3' : opd x t = ax ∧ opds l t = s := by
          have : opds (x :: l) t = opd x t :: opds l t := rfl
          rw [this] at d3; exact ⟨(List.cons.inj d3).1, (List.cons.inj d3).2⟩
        rw [d3'.1, d3'.2]
        exact sFoldMin_ok h d1 d2
      · cases h
    · trivial
  | max =>
    unfold seBuiltin compileBuiltin
    simp only
    split
    · rename_i x l
      intro κ t3 t v ht h
      dsimp only at h ⊢
      split at h
      · rename_i a r hr
        obtain ⟨ax, s, d1, d2, d3⟩ := sdenL_cons.1 (opds3_ok ht hr)
        have d3' : opd x t = ax ∧ opds l t = s := by
          have : opds (x :: l) t = opd x t :: opds l t := rfl
          rw [this] at d3; exact ⟨(List.cons.inj d3).1, (List.cons.inj d3).2⟩
        rw [d3'.1, d3'.2]
        exact sFoldMin_ok h d1 d2
      · cases h
    · trivial
  | append =>
    unfold seBuiltin compileBuiltin
    simp only
    split
    · split
      · rename_i e ud h1 h2
        simp only [h1, h2]
        exact seAppend_rel e ud _ _
      · trivial
    · trivial
  | clear =>
    unfold seBuiltin compileBuiltin
    simp only
    split
    · split
      · rename_i t0 x e h1
        simp only [h1]
        cases hz : zeroOf P e with
        | none => trivial
        | some z =>
          simp only
          split
          · rename_i z' sz S hzz hsz hS
            cases hzz
            split
            · rename_i b1 b2 b3
              intro rec3 rec hr κ t3 t sh h v sh' ht st hv
              dsimp only at hv ⊢
              split at hv
              · rename_i w hw
                have hb3 : sz ≠ 0 := beq_false.1 b3
                have hz' : z.cells = encR S (zrec S) := flatL_same b1
                exact sClear_good hz' (by omega) hv st (opd3_ok ht hw)
              · cases hv
            · trivial
          · trivial
      · trivial
    · trivial
  | unsafeSliceData =>
    unfold seBuiltin compileBuiltin
    simp only
    split
    · rename_i x
      intro κ t3 t sh h v ht st hv
      dsimp only at hv ⊢
      obtain ⟨w, e1, e2⟩ := un1_some hv
      split at e2
      · rename_i k
        split at e2
        · rename_i e3
          rw [← leaf_some e2, sden_nil (opd3_ok ht e1)]
          refine ⟨.nil .p, ?_, rfl⟩
          show whenS (Nat.beq k.no 1) (some (AV.nil .p)) = _; rw [e3]; rfl
        · cases e2
      · rename_i b sz lo len
        obtain ⟨p, d1, hp⟩ := sden_tsl (opd3_ok ht e1)
        split at e2
        · rename_i ty l hg
          split at e2
          · rename_i e3
            cases beq_iff.1 e3
            obtain ⟨g1, g2⟩ := need_some e2
            rw [← leaf_some g2, hp]
            obtain ⟨p', ao, d2, d3, rfl⟩ := st.rel b _ hg
            rw [d1] at d2; cases d2
            refine ⟨.ptr p (lo * 1), ?_, by simp only [sden, d1, Nat.add_zero]⟩
            show h.row p none (fun _ _ _ o => bindS o fun least => whenS (Nat.blt lo least) (some (AV.ptr p (lo * 1)))) = _
            rw [row_eq d3]
            show whenS (Nat.blt lo l.length) (some (AV.ptr p (lo * 1))) = _
            rw [blt_iff.2 (of_decide_eq_true g1)]; rfl
          · cases e2
        · cases e2
      · cases e2
    · trivial
  | unsafeString =>
    unfold seBuiltin compileBuiltin
    simp only
    split
    · split
      · rename_i t0 r x n e h1
        simp only [h1]
        split
        · rename_i h2
          simp only [h2]
          split
          · rename_i h3
            simp only [h3]
            intro rec3 rec hr κ t3 t sh h v sh' ht st hv
            dsimp only at hv ⊢
            split at hv
            · rename_i k o q m hx hn
              split at hv
              · rename_i e3
                obtain ⟨g1, g2⟩ := need_some hv
                cases leaf_some g2
                rw [sden_i (opd3_ok ht hn), sden_nil (opd3_ok ht hx), of_decide_eq_true g1]
                show Good κ sh h _ sh (whenL (Nat.beq k.no 0) [⟨.str [], h⟩])
                rw [e3]
                exact Good.same st rfl
              · cases hv
            · rename_i b z i fo o q m hx hn
              obtain ⟨p, d1, hp⟩ := sden_eptr (opd3_ok ht hx)
              split at hv
              · rename_i ty l hg hf
                rw [Bool.and_eq_true] at hf
                cases beq_iff.1 hf.1
                cases beq_iff.1 hf.2
                split at hv
                · rename_i hty
                  cases beq_iff.1 hty
                  obtain ⟨g1, g2⟩ := need_some hv
                  cases leaf_some g2
                  simp only [Bool.and_eq_true, decide_eq_true_eq] at g1
                  obtain ⟨⟨⟨c1, c2⟩, c3⟩, c4⟩ := g1
                  obtain ⟨p', ao, d2, d3, rfl⟩ := st.rel b _ hg
                  rw [d1] at d2; cases d2
                  rw [sden_i (opd3_ok ht hn), hp, nn_nat c1]
                  generalize hm : m.toNat = mm at *
                  cases mm with
                  | zero => omega
                  | succ mm =>
                    show Good κ sh h _ _ (h.row p [] fun ty cells _ _ => whenL (Nat.beq ty e) (whenL (small (mm + 1)) (liftO (ltake (mm + 1) (ldrop (i * 1 + 0) cells)) fun cs => liftO (cellsBytes cs) fun l => [⟨.str l, h.del p⟩])))
                    rw [row_eq d3, Nat.beq_refl, show small (mm + 1) = true from blt_iff.2 c2]
                    show Good κ sh h _ _ (liftO (ltake (mm + 1) (ldrop (i * 1 + 0) (bytesCells l))) fun cs => liftO (cellsBytes cs) fun l => [⟨.str l, h.del p⟩])
                    rw [Nat.mul_one, Nat.add_zero, ldrop_eq, ltake_of (by rw [List.length_drop, bytesCells_length]; omega), bytesCells_drop, bytesCells_take]
                    show Good κ sh h _ _ (liftO (cellsBytes (bytesCells ((l.drop i).take (mm + 1)))) fun l => [⟨.str l, h.del p⟩])
                    rw [cellsBytes_bytes]
                    obtain ⟨s1, f1⟩ := st.del d1 hg
                    exact Good.one ⟨κ, rfl, s1, f1⟩
                · cases hv
              · cases hv
            · cases hv
          · trivial
        · trivial
      · trivial
    · trivial
  | _ => unfold seBuiltin; trivial
theorem seCall_rel (c : Call) (args : List Operand) : OpRel (seCall P c args) (compileCall P c args) := by
  unfold seCall compileCall
  cases hc : c.callee with
  | builtin b => exact seBuiltin_rel b _ args
  | invoke _ _ => trivial
  | value f =>
    simp only
    have gen : ∀ f : Operand, OpRel (.heavy fun rec tm h => match opd3 f tm, opds3 args tm with | some v, some vs => sCall rec v vs h | _, _ => .fail) (.heavy fun rec tm h => aCall rec (opd f tm) (opds args tm) h) := fun f rec3 rec hr κ t3 t sh h v sh' ht st hv => by
      dsimp only at hv ⊢
      split at hv
      · rename_i w vs h1 h2
        unfold sCall at hv
        split at hv
        · rename_i g first cap
          obtain ⟨r, s, d1, d2, hp⟩ := sden_func (opd3_ok ht h1)
          rw [hp]
          show Good κ sh h v sh' (rec (.call g (lapp r (lapp (opds args t) s))) h)
          rw [lapp_eq, lapp_eq]
          split at hv
          · cases hv
          · rename_i hy
            rw [← taskOf_call hy]
            exact hr _ _ _ _ _ hv κ h _ st (sdenL_append d1 (sdenL_append (opds3_ok ht h2) d2))
        · rename_i x
          have hd := opd3_ok ht h1
          cases hx : κ x with
          | none => simp [sden, hx] at hd
          | some p =>
            have hp : opd f t = .yield p := by simp [sden, hx] at hd; exact hd.symm
            rw [hp]
            show Good κ sh h v sh' (rec (.round p (opds args t)) h)
            rw [← taskOf_round]
            exact hr _ _ _ _ _ hv κ h _ st (sdenL_cons.2 ⟨_, _, by simp [sden, hx], opds3_ok ht h2, rfl⟩)
        · cases hv
      · cases hv
    cases f with
    | func g =>
      simp only
      cases hg : P.funcs[g]? with
      | none => trivial
      | some fn =>
        simp only
        cases hb : fn.body with
        | some _ =>
          intro rec3 rec hr κ t3 t sh h v sh' ht st hv
          dsimp only at hv ⊢
          split at hv
          · rename_i vs hy h2
            rw [← taskOf_call hy]
            exact hr _ _ _ _ _ hv κ h _ st (opds3_ok ht h2)
          · cases hv
        | none =>
          simp only
          split
          · rename_i hn
            split
            · rename_i x
              exact rel_move x
            · trivial
          · trivial
    | tmp i => exact gen (.tmp i)
    | const v => exact gen (.const v)
    | global g => exact gen (.global g)
theorem seOp_rel (o : Oper) : OpRel (seOp P o) (compileOp P o) := by
  unfold seOp compileOp
  cases ho : o.op with
  | move x => exact rel_move x
  | assign x => exact rel_move x
  | pick c a b =>
    simp only
    intro κ t3 t v ht h
    dsimp only at h ⊢
    split at h
    · rename_i x hc
      rw [sden_b (opd3_ok ht hc)]
      refine ⟨pick x (opd a t) (opd b t), rfl, ?_⟩
      split at h
      · obtain ⟨w, e1, e2⟩ := un1_some h
        rw [← leaf_some e2]; exact opd3_ok ht e1
      · obtain ⟨w, e1, e2⟩ := un1_some h
        rw [← leaf_some e2]; exact opd3_ok ht e1
    · rename_i cv hne hc
      obtain ⟨u, w, h1, h2, h3⟩ := un2_some h
      exact sPick_ok h3 (opd3_ok ht hc) (opd3_ok ht h1) (opd3_ok ht h2)
    · cases h
  | alloc e =>
    simp only
    cases hz : zeroOf P e with
    | none => trivial
    | some z =>
      intro κ t3 t o mk ht h
      cases leaf_some h
      refine ⟨_, rfl, ⟨z.cells, cells_len z κ, ?_⟩, fun κ' x p hle hx => by simp only [sden, hx]⟩
      show AObj.row e z.cells (llen z.cells) none = _
      rw [llen_eq]
  | box e x =>
    simp only
    intro κ t3 t o mk ht h
    dsimp only at h ⊢
    split at h
    · rename_i v hv
      split at h
      · cases h
      · rename_i hno
        cases leaf_some h
        have hcd := cells_den (by cases v <;> first | rfl | exact absurd rfl (hno _)) (opd3_ok ht hv)
        refine ⟨_, rfl, ⟨_, hcd, ?_⟩, fun κ' x p hle hx => by simp only [sden, hx]⟩
        show AObj.row e (opd x t).cells (llen (opd x t).cells) none = _
        rw [llen_eq]
    · cases h
  | build ty parts =>
    simp only
    split
    · rename_i d z h1 h2
      simp only [h1, h2]
      split
      · rename_i pf h3 h4
        simp only [h3, h4]
        split
        · rename_i ps h5
          simp only [h5]
          intro κ t3 t v ht h
          dsimp only at h ⊢
          split at h
          · rename_i qs hq
            split at h
            · rename_i cs hcs
              rw [← leaf_some h]
              obtain ⟨ar, e1, e2, _⟩ := splaces_ok ht hq hcs (cells_len z κ)
              rw [e1]
              exact ⟨_, rfl, by simp only [sden, e2]⟩
            · cases h
          · cases h
        · trivial
      · trivial
    · trivial
  | buildSlice ty len parts =>
    simp only
    split
    · rename_i e h1
      simp only [h1]
      split
      · rename_i z sz ps h2 h3 h4
        simp only [h2, h3, h4]
        split
        · rename_i b1 b2
          simp only [b1, b2]
          intro κ t3 t o mk ht h
          dsimp only at h ⊢
          split at h
          · rename_i qs hq
            split at h
            · rename_i cs hcs
              cases leaf_some h
              obtain ⟨ar, e1, e2, e3⟩ := splaces_ok ht hq hcs (reps_den (cells_len z κ) len)
              rw [e1]
              refine ⟨_, rfl, ⟨ar, e2, ?_⟩, fun κ' x p hle hx => by simp only [sden, hx]⟩
              have h5 : (reps (ofAV z).cells len).length = len * sz := by
                rw [← sdenL_length (reps_den (cells_len z κ) len), reps_eq, List.length_flatten, List.map_replicate, List.sum_replicate_nat, ← llen_eq, beq_iff.1 b2]
              show AObj.row e ar (len * sz) none = _
              rw [sdenL_length e2, e3, h5]
            · cases h
          · cases h
        · trivial
      · trivial
    · trivial
  | load ty x =>
    simp only
    split
    · rename_i d sz h1 h2
      simp only [h1, h2]
      cases hg : isAggD d with
      | true =>
        intro κ t3 t sh h v ht st hv
        obtain ⟨w, e1, e2⟩ := un1_some hv
        exact sLoad_ok e2 st (opd3_ok ht e1)
      | false =>
        intro κ t3 t sh h v ht st hv
        obtain ⟨w, e1, e2⟩ := un1_some hv
        exact sLoad_ok e2 st (opd3_ok ht e1)
    · trivial
  | store ty x v =>
    simp only
    cases hs : sizeOfT P ty with
    | none => trivial
    | some sz =>
      intro rec3 rec hr κ t3 t sh h w sh' ht st hv
      dsimp only at hv ⊢
      split at hv
      · rename_i p u hp hu
        obtain ⟨sh2, e1, e2⟩ := bind_some hv
        cases leaf_some e2
        obtain ⟨h', f1, f2, f3⟩ := sStore_ok e1 st (opd3_ok ht hp) (opd3_ok ht hu)
        rw [f1]
        exact Good.one ⟨κ, rfl, f2, f3⟩
      · cases hv
  | nilCheck x =>
    simp only
    intro κ t3 t v ht h
    dsimp only at h ⊢
    obtain ⟨w, e1, e2⟩ := un1_some h
    have hd := opd3_ok ht e1
    split at e2
    · obtain ⟨p, d1, hp⟩ := sden_ptr hd; rw [← leaf_some e2, hp]; exact ⟨_, rfl, by rw [hp] at hd; exact hd⟩
    · obtain ⟨p, d1, hp⟩ := sden_eptr hd; rw [← leaf_some e2, hp]; exact ⟨_, rfl, by rw [hp] at hd; exact hd⟩
    · obtain ⟨r, s, d1, d2, hp⟩ := sden_func hd; rw [← leaf_some e2, hp]; exact ⟨_, rfl, by rw [hp] at hd; exact hd⟩
    · obtain ⟨p, d1, hp⟩ := sden_yield hd; rw [← leaf_some e2, hp]; exact ⟨_, rfl, by rw [hp] at hd; exact hd⟩
    · cases e2
  | binOp op ty x y yt => exact seBin_rel op ty x y
  | unOp op ty x =>
    cases op with
    | not =>
      simp only
      intro κ t3 t v ht h
      dsimp only at h ⊢
      obtain ⟨w, e1, e2⟩ := un1_some h
      split at e2
      · rw [← leaf_some e2, sden_b (opd3_ok ht e1)]
        exact ⟨_, rfl, by rw [bnot_eq]; rfl⟩
      · cases e2
    | _ => trivial
  | convert s d x => exact seConvert_rel s d x
  | makeFunc fn first captured =>
    cases fn with
    | func f =>
      simp only
      intro κ t3 t v ht h
      dsimp only at h ⊢
      split at h
      · rename_i a c ha hc
        rw [← leaf_some h]
        exact ⟨_, rfl, by simp only [sden, opds3_ok ht ha, opds3_ok ht hc]⟩
      · cases h
    | _ => trivial
  | makeMap ty r =>
    cases r with
    | some _ => trivial
    | none =>
      simp only
      split
      · split
        · intro κ t3 t o mk ht h
          cases leaf_some h
          exact ⟨_, rfl, rfl, fun κ' x p hle hx => by simp only [sden, hx]⟩
        · intro κ t3 t o mk ht h
          cases leaf_some h
          exact ⟨_, rfl, ⟨[], rfl, rfl⟩, fun κ' x p hle hx => by simp only [sden, hx]⟩
      · trivial
  | makeSlice ty l c =>
    simp only
    split
    · rename_i e h1
      simp only [h1]
      split
      · rename_i z i h2 h3
        simp only [h2, h3]
        split
        · rename_i b1 b2 b3
          simp only [b1, b2, b3]
          intro κ t3 t o mk ht h
          dsimp only at h ⊢
          split at h
          · rename_i n m hn hm
            split at h
            · rename_i c1 c2
              cases leaf_some h
              cases hl : opd3 l t3 with
              | none => rw [hl] at hn; cases hn
              | some lv =>
                cases hc : opd3 c t3 with
                | none => rw [hc] at hm; cases hm
                | some cv =>
                  rw [hl] at hn; rw [hc] at hm
                  obtain ⟨k1, hk1⟩ := clNat_den hn (opd3_ok ht hl)
                  obtain ⟨k2, hk2⟩ := clNat_den hm (opd3_ok ht hc)
                  rw [hk1, hk2]
                  refine ⟨⟨.row e (reps z.cells m) (m * i.size) none, fun b => .slice b 0 n (.known m)⟩, ?_, ⟨_, reps_den (cells_len z κ) m, ?_⟩, fun κ' x p hle hx => by simp only [sden, hx]⟩
                  · show whenS (Nat.ble n m) (whenS (small m) (force n fun l => force m fun c => some (⟨.row e (reps z.cells c) (Nat.mul c i.size) none, fun b => .slice b 0 l (.known c)⟩ : AA))) = _
                    rw [c1, c2, force_eq, force_eq]; rfl
                  · show AObj.row e _ (m * i.size) none = _
                    rw [reps_eq, List.length_flatten, List.map_replicate, List.sum_replicate_nat, ← llen_eq, beq_iff.1 b1]
            · cases h
          · cases h
        · trivial
      · trivial
    · trivial
  | slice ty x lo hi mx =>
    show OpRel _ (compileSlice P ty x lo hi mx)
    unfold compileSlice
    simp only
    split
    · rename_i h1
      simp only [h1]
      cases mx with
      | some _ => trivial
      | none =>
        intro κ t3 t v ht h
        dsimp only at h ⊢
        split at h
        · rename_i w a b hw ha hb
          exact sSliceStr_ok h (opd3_ok ht hw) (optOpd_ok ht ha) (optOpd_ok ht hb)
        · cases h
    · rename_i e h1
      simp only [h1]
      cases hs : sizeOfT P e with
      | none => trivial
      | some sz =>
        simp only
        cases hb : Nat.beq sz 0 with
        | true => trivial
        | false =>
          intro κ t3 t sh h v ht st hv
          dsimp only at hv ⊢
          split at hv
          · rename_i w a b c hw ha hb hc
            exact sSlice_ok hv st (opd3_ok ht hw) (optOpd_ok ht ha) (optOpd_ok ht hb) (optOpd_ok ht hc)
          · cases hv
    · trivial
  | fieldAddr s x f =>
    simp only
    split
    · rename_i fs h1
      simp only [h1]
      cases hf : fs[f]? with
      | none => trivial
      | some fd =>
        simp only
        cases hs : sizeOfT P fd.type with
        | none => trivial
        | some sz =>
          simp only
          cases hb : Nat.beq sz 0 with
          | true => trivial
          | false =>
            intro κ t3 t v ht h
            dsimp only at h ⊢
            obtain ⟨w, e1, e2⟩ := un1_some h
            have hd := opd3_ok ht e1
            split at e2
            · obtain ⟨p, d1, hp⟩ := sden_ptr hd
              rw [← leaf_some e2, hp]
              refine ⟨_, rfl, ?_⟩
              rw [force_eq]; simp only [sden, d1]; rfl
            · obtain ⟨p, d1, hp⟩ := sden_eptr hd
              rw [← leaf_some e2, hp]
              refine ⟨_, rfl, ?_⟩
              rw [force_eq]; simp only [sden, d1]
              rw [← Nat.add_assoc]; rfl
            · cases e2
    · trivial
  | indexAddr ty x i =>
    show OpRel _ (compileIndexAddr P ty x i)
    unfold compileIndexAddr
    simp only
    split
    · rename_i e h1
      simp only [h1]
      cases hs : sizeOfT P e with
      | none => trivial
      | some sz =>
        intro κ t3 t v ht h
        obtain ⟨u, w, h1, h2, h3⟩ := un2_some h
        exact sIndexAddr_ok h3 (opd3_ok ht h1) (opd3_ok ht h2)
    · trivial
  | index ty x i =>
    show OpRel _ (compileIndex P ty x i)
    unfold compileIndex
    simp only
    split
    · rename_i h1
      simp only [h1]
      intro κ t3 t v ht h
      obtain ⟨u, w, h1, h2, h3⟩ := un2_some h
      exact sIndexStr_ok h3 (opd3_ok ht h1) (opd3_ok ht h2)
    · trivial
  | lookup ty m k ok =>
    show OpRel _ (compileLookup P ty m k ok)
    unfold compileLookup
    simp only
    split
    · rename_i kt e h1
      simp only [h1]
      split
      · rename_i z q h2 h3
        simp only [h2, h3]
        intro κ t3 t sh h v ht st hv
        dsimp only at hv ⊢
        obtain ⟨u, w, e1, e2, e3⟩ := un2_some hv
        exact sLookup_ok e3 st (opd3_ok ht e1) (opd3_ok ht e2)
      · trivial
    · trivial
  | mapUpdate ty m k x =>
    simp only
    split
    · rename_i kt e h1
      simp only [h1]
      cases hq : compileEq P 5 kt with
      | none => trivial
      | some q =>
        intro rec3 rec hr κ t3 t sh h v sh' ht st hv
        dsimp only at hv ⊢
        split at hv
        · rename_i mv kv xv e1 e2 e3
          exact sMapPut_good hv st (opd3_ok ht e1) (opd3_ok ht e2) (opd3_ok ht e3)
        · cases hv
    · trivial
  | insert ty m k x =>
    simp only
    split
    · rename_i kt e h1
      simp only [h1]
      cases hq : compileEq P 5 kt with
      | none => trivial
      | some q =>
        intro rec3 rec hr κ t3 t sh h v sh' ht st hv
        dsimp only at hv ⊢
        split at hv
        · rename_i mv kv xv e1 e2 e3
          exact sMapPut_good hv st (opd3_ok ht e1) (opd3_ok ht e2) (opd3_ok ht e3)
        · cases hv
    · trivial
  | extract x i =>
    simp only
    intro κ t3 t v ht h
    dsimp only at h ⊢
    obtain ⟨w, e1, e2⟩ := un1_some h
    split at e2
    · obtain ⟨r, d1, hp⟩ := sden_tuple (opd3_ok ht e1)
      have e3 := ofOpt_some e2
      rw [lget_eq] at e3
      obtain ⟨a, d2, d3⟩ := sdenL_get d1 e3
      rw [hp]
      exact ⟨a, by show lget r i = _; rw [lget_eq]; exact d3, d2⟩
    · cases e2
  | call c => exact seCall_rel c _
  | _ => trivial
end
end Go.Proofs.YtgemonlknehegaaGreatDoor.AI
