/- The chain of TopRefuses, part 41. -/
import Derived.Test.YtgemonlknehegaaGreatDoorK40
namespace Go.Proofs.YtgemonlknehegaaGreatDoor.AI
open Go
set_option linter.unusedVariables false
set_option linter.unusedSimpArgs false
set_option maxRecDepth 100000
attribute [local irreducible] rcA
structure Pl where
  b : Bool
  n : Nat
  l : List Rc
  r : List (Nat × SO)
/-- a list that stands in a cell, told by the next name -/
noncomputable def popL (c : SV) (j sz ty : Nat) (S : List FK) (o : List (Nat × SO)) : Option Pl :=
  match c with
  | .nil .s => some ⟨false, 0, [], o⟩
  | .tsl x z 0 n => (match o with
    | (y, .lrow t S' l) :: r => (match Nat.beq x j, Nat.beq y j, Nat.beq z sz, Nat.beq t ty, sameFK S' S with
      | true, true, true, true, true => some ⟨true, n, l, r⟩
      | _, _, _, _, _ => none)
    | _ => none)
  | _ => none
theorem popL_some {c : SV} {j sz ty : Nat} {S : List FK} {o : List (Nat × SO)} {p : Pl} (h : popL c j sz ty S o = some p) : c = lcell p.b j sz p.n ∧ o = lobj p.b j (.lrow ty S p.l) ++ p.r := by
  unfold popL at h
  split at h
  · cases h; exact ⟨rfl, rfl⟩
  · split at h
    · split at h
      · rename_i e1 e2 e3 e4 e5
        cases h
        rw [beq_iff.1 e1, beq_iff.1 e2, beq_iff.1 e3, beq_iff.1 e4, sameFK_eq e5]
        exact ⟨rfl, rfl⟩
      · cases h
    · cases h
  · cases h
/-- which list grows -/
def wOf (off : Nat) (u v : Bool) : Option W3 :=
  match Nat.beq off 9, Nat.beq off 10, Nat.beq off 11, u, v with
  | true, _, _, false, false => some .an
  | _, true, _, _, false => some .ns
  | _, _, true, _, _ => some .ar
  | _, _, _, _, _ => none
theorem wOf_some {off : Nat} {u v : Bool} {w : W3} (h : wOf off u v = some w) : off = offW w ∧ (w = .an → u = false ∧ v = false) ∧ (w = .ns → v = false) := by
  unfold wOf at h
  split at h
  · rename_i e; cases h; exact ⟨beq_iff.1 e, fun _ => ⟨rfl, rfl⟩, nofun⟩
  · rename_i e _; cases h; exact ⟨beq_iff.1 e, nofun, fun _ => rfl⟩
  · rename_i e _ _; cases h; exact ⟨beq_iff.1 e, nofun, nofun⟩
  · cases h
def rLeaf (w : W3) (q u v : Bool) (h : HD) (s : List UInt8) (cs lq lu lv : List Rc) (nq nu nv : Nat) (d : Int) (o : Int × List Rc × Int) : DT LR :=
  .node (decide (o.1 = 0)) (.node (nE o.2.1) (.leaf (rRk true (jo w q u v) w q u v h s cs lq lu lv nq nu nv o.2.1 o.2.2 d)) (.leaf (rRk false (jo w q u v) w q u v h s cs lq lu lv nq nu nv o.2.1 o.2.2 d))) (.leaf (rRe o.1))
noncomputable def rsO (s : List UInt8) (k a : Int) : Int × List Rc × Int := rsT s k.toNat a []
noncomputable def coreR : LSpec
  | [.s _ s, .ptr 0 0, .ptr 1 0, .tsl 2 1 2 4, .i _ .i64 a, .ptr 1 off, .sl 3 0 3 (.known 3), .i _ .i64 (.ofNat 3), .i _ .i64 d, .i _ .u16 k, .i _ .u16 i], ⟨(0, .row 49 [.i _ .u16 (.ofNat 0), .b _ false, .b _ false, .b _ false, .b _ false, .b _ false, .i _ .i64 (.ofNat 0), .i _ .i64 (.ofNat 0), .nil .s, .nil .s, .nil .s, .nil .s] none) :: (1, .row 49 [.i _ .u16 x0, .b _ x1, .b _ x2, .b _ x3, .b _ x4, .b _ x5, .i _ .i64 x6, .i _ .i64 x7, c8, c9, c10, .nil .s] none) :: (2, .lrow 23 [.int .u16] cs) :: (3, .row 200 [.ptr 1 9, .ptr 1 10, .ptr 1 11] none) :: o, nm⟩ =>
    (match popL c8 4 3 25 sQ o with
    | some ⟨q, nq, lq, r1⟩ => (match popL c9 (4 + tn1 q) 5 56 sR r1 with
      | some ⟨u, nu, lu, r2⟩ => (match popL c10 (4 + tn1 q + tn1 u) 5 56 sR r2 with
        | some ⟨v, nv, lv, r3⟩ => (match wOf off u v, r3 with
          | some w, [] => (match Nat.beq nm (jo w q u v) with
            | true => .need (decide (s.length < 40000 ∧ a < 50000 ∧ 0 ≤ k ∧ k < 65536 ∧ i = 0)) (rLeaf w q u v ⟨x0, x1, x2, x3, x4, x5, x6, x7⟩ s cs lq lu lv nq nu nv d (rsO s k a))
            | false => .fail)
          | _, _ => .fail)
        | none => .fail)
      | none => .fail)
    | none => .fail)
  | _, _ => .fail
theorem coreR_ok (vals : List SV) (sh : SH) (R : LR) (h : (coreR vals sh).val = some R) : ∃ x R1, openL (rinv x).1 = openL vals ∧ (rinv x).2.opened = sh.opened ∧ rres x = some R1 ∧ R1.e = R.e ∧ R1.ix = R.ix ∧ Opn (.tuple R1.v, R1.h) (.tuple R.v, R.h) ∧ rmu x < 100000 := by
  unfold coreR at h
  split at h
  · rename_i o1 s o2 a off o3 o4 d o5 k o6 i f0 f1 f2 f3 f4 f5 f6 f7 g0 x0 g1 x1 g2 x2 g3 x3 g4 x4 g5 x5 g6 x6 g7 x7 c8 c9 c10 cs o nm
    split at h
    · rename_i q nq lq r hp
      split at h
      · rename_i u nu lu r' hp'
        split at h
        · rename_i v nv lv r'' hp''
          split at h
          · rename_i w hw
            split at h
            · rename_i hnm
              obtain ⟨h1, h2⟩ := need_some h
              obtain ⟨hs, ha, hk0, hk, rfl⟩ := of_decide_eq_true h1
              obtain ⟨e1, e2⟩ := popL_some hp
              obtain ⟨e3, e4⟩ := popL_some hp'
              obtain ⟨e5, e6⟩ := popL_some hp''
              simp only at e1 e2 e3 e4 e5 e6
              rw [List.append_nil] at e6
              rw [e4, e6] at e2
              have hnm := beq_iff.1 hnm
              obtain ⟨w1, w2, w3⟩ := wOf_some hw
              clear hp hp' hp'' e4 e6 hw
              subst e1; subst e2; subst e3; subst e5; subst hnm; subst w1
              have hkk : ((k.toNat : Nat) : Int) = k := Int.toNat_of_nonneg hk0
              have hx : XR.Ok ⟨w, q, u, v, ⟨x0, x1, x2, x3, x4, x5, x6, x7⟩, s, cs, lq, lu, lv, nq, nu, nv, k.toNat, 0, a, d, []⟩ := ⟨hs, by simp only; omega, Nat.zero_le _, ha, Nat.le_refl _⟩
              refine ⟨⟨w, q, u, v, ⟨x0, x1, x2, x3, x4, x5, x6, x7⟩, s, cs, lq, lu, lv, nq, nu, nv, k.toNat, 0, a, d, []⟩, R, ?_, ?_, ?_, rfl, rfl, ⟨rfl, rfl⟩, ?_⟩
              · show openL (rv w s a d ((k.toNat : Nat) : Int) ((0 : Nat) : Int)) = _
                rw [hkk]; rfl
              · cases w with
                | an => obtain ⟨rfl, rfl⟩ := w2 rfl; cases q <;> rfl
                | ns => cases w3 rfl; cases q <;> cases u <;> rfl
                | ar => cases q <;> cases u <;> cases v <;> rfl
              · rw [rres_of hx]
                have hj : rj ⟨w, q, u, v, ⟨x0, x1, x2, x3, x4, x5, x6, x7⟩, s, cs, lq, lu, lv, nq, nu, nv, k.toNat, 0, a, d, []⟩ = jo w q u v := rfl
                have ho : ro ⟨w, q, u, v, ⟨x0, x1, x2, x3, x4, x5, x6, x7⟩, s, cs, lq, lu, lv, nq, nu, nv, k.toNat, 0, a, d, []⟩ = rsO s k a := rfl
                rw [hj, ho]
                unfold rLeaf at h2
                rcases node_some h2 with ⟨e, h2⟩ | ⟨e, h2⟩
                · rw [rR_k (of_decide_eq_true e)]
                  rcases node_some h2 with ⟨e2, h2⟩ | ⟨e2, h2⟩ <;> rw [e2, ← leaf_some h2]
                · rw [rR_e (of_decide_eq_false e), ← leaf_some h2]
              · show k.toNat - 0 < 100000; omega
            · cases h
          · cases h
        · cases h
      · cases h
    · cases h
  · cases h
theorem loopR_ok : LoopOk Tryz.prog 43 4 18 (liftL [0, 2, 4, 6, 7, 12, 55, 56, 57, 66, 67] coreR) := loop_at cH_ok Tryz.func43 (by kernel_rfl) coreR_ok turnR
noncomputable def cTk : Cfg := (cH.addL 43 0 18 (liftL [0, 2, 4, 6, 7, 30, 31] coreQ)).addL 43 4 18 (liftL [0, 2, 4, 6, 7, 12, 55, 56, 57, 66, 67] coreR)
theorem cTk_ok : CfgOk Tryz.prog cTk := (cH_ok.addL loopQ_ok).addL loopR_ok
end Go.Proofs.YtgemonlknehegaaGreatDoor.AI
namespace Go.Proofs.YtgemonlknehegaaGreatDoor.AI
open Go WB
set_option linter.unusedVariables false
set_option linter.unusedSimpArgs false
set_option maxRecDepth 100000
def cN (s : List UInt8) (i : Nat) : Int := ((u16 s i : Nat) : Int)
def cs6 (s : List UInt8) : List Rc := [[.n (cN s 0)], [.n (cN s 2)], [.n (cN s 4)], [.n (cN s 6)], [.n (cN s 8)], [.n (cN s 10)]]
def r88 (s : List UInt8) : SV × SH := (.tsl 0 1 0 6, ⟨[(0, .lrow 23 [.int .u16] (cs6 s))], 1⟩)
def sp88 : Spec
  | [.s _ s, .i _ .i64 (.ofNat 6)], ⟨[], 0⟩ => .need (decide (12 ≤ s.length ∧ s.length < 40000)) (.leaf (r88 s))
  | _, _ => .fail
theorem w88 (s : List UInt8) (m : Nat) : DT.fol [a, y, y, a, y, y, a, a, a, y, y, a, a, a, y, y, a, a, a, y, y, a, a, a, y, y, a, a, a] (seC Tryz.prog cH (m + 6) 88 [.s true s, .i true .i64 6] .empty) = some ([short s, okSome s (Int.ofNat 0) 2, short s, okSome s (Int.ofNat (Nat.succ 1)) 2, short s, okSome s (Int.ofNat (Nat.succ 3)) 2, short s, okSome s (Int.ofNat (Nat.succ 5)) 2, short s, okSome s (Int.ofNat (Nat.succ 7)) 2, short s, okSome s (Int.ofNat (Nat.succ 9)) 2], some (r88 s)) := by kernel_rfl
theorem sp88_ok : SpecOk Tryz.prog 88 7 sp88 := spec_ok cH_ok fun m args sh r hr => by
  unfold sp88 at hr
  split at hr
  · rename_i o1 s o2
    obtain ⟨h1, hr⟩ := need_some hr
    have h1 := of_decide_eq_true h1
    rw [seC_open]
    show ∃ r1, (seC Tryz.prog cH (m + 6) 88 [.s true s, .i true .i64 6] .empty).val = _ ∧ _
    refine ⟨_, fol_val (w88 s m) ?_, by rw [← leaf_some hr]; exact ⟨rfl, rfl⟩⟩
    have ok : ∀ i : Nat, i ≤ 10 → okSome s (Int.ofNat i) 2 = true := fun i hi => decide_eq_true (by simp only [Int.ofNat_eq_natCast]; omega)
    rw [show short s = true from decide_eq_true (by omega), ok 0 (by decide), ok (Nat.succ 1) (by decide), ok (Nat.succ 3) (by decide), ok (Nat.succ 5) (by decide), ok (Nat.succ 7) (by decide), ok (Nat.succ 9) (by decide)]
    rfl
  · cases hr
noncomputable def cTl : Cfg := cTk.addS 88 7 (lift sp88)
theorem cTl_ok : CfgOk Tryz.prog cTl := cTk_ok.addS (lift_ok sp88_ok)
end Go.Proofs.YtgemonlknehegaaGreatDoor.AI
namespace Go.Proofs.YtgemonlknehegaaGreatDoor.AI
open Go WB
set_option linter.unusedVariables false
set_option linter.unusedSimpArgs false
set_option maxRecDepth 100000
noncomputable section
def bw (b : Bool) : WB := match b with | true => y | false => n
def rg (s : List UInt8) (a k : Int) : Bool := decide (s.length < 40000 ∧ a < 50000 ∧ 0 ≤ k ∧ k < 65536 ∧ (0 : Int) = 0)
def oQ (s : List UInt8) : Option (List Rc × Int) := qsO s (cN s 4) 12
def oA (s : List UInt8) : Int × List Rc × Int := rsO s (cN s 6) (oN (oQ s))
def oS (s : List UInt8) : Int × List Rc × Int := rsO s (cN s 8) (oA s).2.2
def oR (s : List UInt8) : Int × List Rc × Int := rsO s (cN s 10) (oS s).2.2
def mLists (q a n r : Bool) (lq la ln lr : List Rc) : List SV := [lcell q 0 3 lq.length, lcell a (tn1 q) 5 la.length, lcell n (tn1 q + tn1 a) 5 ln.length, lcell r (tn1 q + tn1 a + tn1 n) 5 lr.length]
def mHeap (q a n r : Bool) (lq la ln lr : List Rc) : SH := ⟨lobj q 0 (.lrow 25 sQ lq) ++ (lobj a (tn1 q) (.lrow 56 sR la) ++ (lobj n (tn1 q + tn1 a) (.lrow 56 sR ln) ++ lobj r (tn1 q + tn1 a + tn1 n) (.lrow 56 sR lr))), tn1 q + tn1 a + tn1 n + tn1 r⟩
def mLeaf (q a n r : Bool) (s : List UInt8) : SV × SH := (.tuple [.agg (hdV (hdS s) ++ mLists q a n r (oL (oQ s)) (oA s).2.1 (oS s).2.1 (oR s).2.1), .i false .i64 0], mHeap q a n r (oL (oQ s)) (oA s).2.1 (oS s).2.1 (oR s).2.1)
theorem w43_0 (s : List UInt8) (m : Nat) : DT.fol [y, y] (seC Tryz.prog cTl (m + 28) 43 [.s true s] .empty) = some ([short s, decide (s.length < 12)], some (.tuple [msg0, .i false .i64 2], .empty)) := by kernel_rfl
theorem w43_1 (s : List UInt8) (m : Nat) : DT.fol [y, n, y, a, a, a, a, y, n] (seC Tryz.prog cTl (m + 28) 43 [.s true s] .empty) = some ([short s, decide (s.length < 12), decide (12 ≤ s.length ∧ s.length < 40000), rg s 12 (cN s 4), (oQ s).isSome], some (.tuple [.agg z12, .i false .i64 2], .empty)) := by kernel_rfl
theorem w43_2 (b1 : Bool) (s : List UInt8) (m : Nat) : DT.fol [y, n, y, a, a, a, a, y, y, bw b1, a, a, y, n] (seC Tryz.prog cTl (m + 28) 43 [.s true s] .empty) = some ([short s, decide (s.length < 12), decide (12 ≤ s.length ∧ s.length < 40000), rg s 12 (cN s 4), (oQ s).isSome, nE (oL (oQ s)), rg s (oN (oQ s)) (cN s 6), decide ((oA s).1 = 0)], some (.tuple [.agg z12, .i true .i64 (oA s).1], .empty)) := by cases b1 <;> kernel_rfl
theorem w43_3 (b1 b2 : Bool) (s : List UInt8) (m : Nat) : DT.fol [y, n, y, a, a, a, a, y, y, bw b1, a, a, y, y, bw b2, a, a, y, n] (seC Tryz.prog cTl (m + 28) 43 [.s true s] .empty) = some ([short s, decide (s.length < 12), decide (12 ≤ s.length ∧ s.length < 40000), rg s 12 (cN s 4), (oQ s).isSome, nE (oL (oQ s)), rg s (oN (oQ s)) (cN s 6), decide ((oA s).1 = 0), nE (oA s).2.1, rg s (oA s).2.2 (cN s 8), decide ((oS s).1 = 0)], some (.tuple [.agg z12, .i true .i64 (oS s).1], .empty)) := by cases b1 <;> cases b2 <;> kernel_rfl
theorem w43_4 (b1 b2 b3 : Bool) (s : List UInt8) (m : Nat) : DT.fol [y, n, y, a, a, a, a, y, y, bw b1, a, a, y, y, bw b2, a, a, y, y, bw b3, a, a, y, n] (seC Tryz.prog cTl (m + 28) 43 [.s true s] .empty) = some ([short s, decide (s.length < 12), decide (12 ≤ s.length ∧ s.length < 40000), rg s 12 (cN s 4), (oQ s).isSome, nE (oL (oQ s)), rg s (oN (oQ s)) (cN s 6), decide ((oA s).1 = 0), nE (oA s).2.1, rg s (oA s).2.2 (cN s 8), decide ((oS s).1 = 0), nE (oS s).2.1, rg s (oS s).2.2 (cN s 10), decide ((oR s).1 = 0)], some (.tuple [.agg z12, .i true .i64 (oR s).1], .empty)) := by cases b1 <;> cases b2 <;> cases b3 <;> kernel_rfl
theorem w43_5 (b1 b2 b3 b4 : Bool) (s : List UInt8) (m : Nat) : DT.fol [y, n, y, a, a, a, a, y, y, bw b1, a, a, y, y, bw b2, a, a, y, y, bw b3, a, a, y, y, bw b4, y] (seC Tryz.prog cTl (m + 28) 43 [.s true s] .empty) = some ([short s, decide (s.length < 12), decide (12 ≤ s.length ∧ s.length < 40000), rg s 12 (cN s 4), (oQ s).isSome, nE (oL (oQ s)), rg s (oN (oQ s)) (cN s 6), decide ((oA s).1 = 0), nE (oA s).2.1, rg s (oA s).2.2 (cN s 8), decide ((oS s).1 = 0), nE (oS s).2.1, rg s (oS s).2.2 (cN s 10), decide ((oR s).1 = 0), nE (oR s).2.1, !decide ((oR s).2.2 = Int.ofNat s.length)], some (.tuple [msg0, .i false .i64 2], .empty)) := by cases b1 <;> cases b2 <;> cases b3 <;> cases b4 <;> kernel_rfl
theorem w43_6 (b1 b2 b3 b4 : Bool) (s : List UInt8) (m : Nat) : DT.fol [y, n, y, a, a, a, a, y, y, bw b1, a, a, y, y, bw b2, a, a, y, y, bw b3, a, a, y, y, bw b4, n] (seC Tryz.prog cTl (m + 28) 43 [.s true s] .empty) = some ([short s, decide (s.length < 12), decide (12 ≤ s.length ∧ s.length < 40000), rg s 12 (cN s 4), (oQ s).isSome, nE (oL (oQ s)), rg s (oN (oQ s)) (cN s 6), decide ((oA s).1 = 0), nE (oA s).2.1, rg s (oA s).2.2 (cN s 8), decide ((oS s).1 = 0), nE (oS s).2.1, rg s (oS s).2.2 (cN s 10), decide ((oR s).1 = 0), nE (oR s).2.1, !decide ((oR s).2.2 = Int.ofNat s.length)], some (mLeaf b1 b2 b3 b4 s)) := by cases b1 <;> cases b2 <;> cases b3 <;> cases b4 <;> kernel_rfl
end
end Go.Proofs.YtgemonlknehegaaGreatDoor.AI
namespace Go.Proofs.YtgemonlknehegaaGreatDoor.AI
open Go
set_option linter.unusedVariables false
set_option linter.unusedSimpArgs false
set_option maxRecDepth 100000
attribute [local irreducible] rcA rsT qsT
theorem qsT_bound {s : List UInt8} (hs : s.length < 40000) : ∀ (k : Nat) (a : Int) (acc : List Rc) (r : List Rc × Int), a < 50000 → qsT s k a acc = some r → r.2 < 50000
  | 0, a, acc, r, h, e => by unfold qsT at e; cases e; exact h
  | k + 1, a, acc, r, h, e => by
    unfold qsT at e
    split at e
    · rename_i hk
      exact qsT_bound hs k _ _ r (okQ_next hk hs) e
    · cases e
theorem rsT_bound {s : List UInt8} (hs : s.length < 40000) : ∀ (k : Nat) (a : Int) (acc : List Rc), a < 50000 → (rsT s k a acc).1 = 0 → (rsT s k a acc).2.2 < 50000
  | 0, a, acc, h, e => by unfold rsT; exact h
  | k + 1, a, acc, h, e => by
    unfold rsT at e ⊢
    cases hd : decide ((rcA s a).er = 0) with
    | true =>
      rw [hd] at e
      simp only at e ⊢
      have := ((rc_eq s a 0 hs h).1 (of_decide_eq_true hd)).2
      exact rsT_bound hs k _ _ (by omega) e
    | false => rw [hd] at e; exact absurd e (of_decide_eq_false hd)
def nd {α : Type} (c : Bool) (f : Bool → DT α) : DT α := .node c (f true) (f false)
theorem nd_some {α : Type} {c : Bool} {f : Bool → DT α} {v : α} (h : (nd c f).val = some v) : (f c).val = some v := by cases c <;> exact h
theorem cN_b (s : List UInt8) (i : Nat) : 0 ≤ cN s i ∧ cN s i < 65536 := by
  have := u16_lt s i
  unfold cN; omega
theorem rg_ok {s : List UInt8} {a : Int} {i : Nat} (hs : s.length < 40000) (ha : a < 50000) : rg s a (cN s i) = true := decide_eq_true ⟨hs, ha, (cN_b s i).1, (cN_b s i).2, rfl⟩
noncomputable def okM (s : List UInt8) : Bool := decide (12 ≤ s.length) && ((oQ s).isSome && (decide ((oA s).1 = 0) && (decide ((oS s).1 = 0) && (decide ((oR s).1 = 0) && decide ((oR s).2.2 = Int.ofNat s.length)))))
noncomputable def erM (s : List UInt8) : Int :=
  if s.length < 12 then 2 else if (oQ s).isSome = false then 2 else if (oA s).1 ≠ 0 then (oA s).1 else if (oS s).1 ≠ 0 then (oS s).1 else if (oR s).1 ≠ 0 then (oR s).1 else 2
theorem erM_ne (s : List UInt8) : erM s ≠ 0 := by
  unfold erM
  repeat' split
  all_goals first | assumption | decide
noncomputable def sp43 : Spec
  | [.s _ s], ⟨[], 0⟩ => .need (decide (s.length < 40000)) (.node (okM s) (nd (nE (oL (oQ s))) fun b1 => nd (nE (oA s).2.1) fun b2 => nd (nE (oS s).2.1) fun b3 => nd (nE (oR s).2.1) fun b4 => .leaf (mLeaf b1 b2 b3 b4 s)) (.leaf (.tuple [.agg z12, .i true .i64 (erM s)], .empty)))
  | _, _ => .fail
theorem sp43_ok : SpecOk Tryz.prog 43 29 sp43 := spec_ok cTl_ok fun m args sh r hr => by
  unfold sp43 at hr
  split at hr
  · rename_i o1 s
    obtain ⟨h1, hr⟩ := need_some hr
    have hs := of_decide_eq_true h1
    have hsh : short s = true := decide_eq_true (by omega)
    rw [seC_open]
    show ∃ r1, (seC Tryz.prog cTl (m + 28) 43 [.s true s] .empty).val = _ ∧ _
    by_cases hl : s.length < 12
    · rcases node_some hr with ⟨e, hr⟩ | ⟨e, hr⟩
      · unfold okM at e
        rw [decide_eq_false (by omega)] at e; cases e
      · refine ⟨_, fol_val (w43_0 s m) (by rw [hsh, decide_eq_true hl]; rfl), ?_⟩
        rw [← leaf_some hr]
        unfold erM
        rw [if_pos hl]; exact ⟨rfl, rfl⟩
    · have c0 : decide (s.length < 12) = false := decide_eq_false hl
      have c1 : decide (12 ≤ s.length ∧ s.length < 40000) = true := decide_eq_true ⟨by omega, hs⟩
      have g0 : rg s 12 (cN s 4) = true := rg_ok hs (by decide)
      cases hq : (oQ s).isSome with
      | false =>
        rcases node_some hr with ⟨e, hr⟩ | ⟨e, hr⟩
        · unfold okM at e
          rw [hq, Bool.false_and, Bool.and_false] at e; cases e
        · refine ⟨_, fol_val (w43_1 s m) (by rw [hsh, c0, c1, g0, hq]; rfl), ?_⟩
          rw [← leaf_some hr]
          unfold erM
          rw [if_neg hl, if_pos hq]; exact ⟨rfl, rfl⟩
      | true =>
        have gq : oN (oQ s) < 50000 := by
          cases ho : oQ s with
          | none => rw [ho] at hq; cases hq
          | some r => exact qsT_bound hs _ _ _ r (by decide) ho
        have g1 : rg s (oN (oQ s)) (cN s 6) = true := rg_ok hs gq
        by_cases hA : (oA s).1 = 0
        · have g2 : rg s (oA s).2.2 (cN s 8) = true := rg_ok hs (rsT_bound hs _ _ _ gq hA)
          by_cases hS : (oS s).1 = 0
          · have g3 : rg s (oS s).2.2 (cN s 10) = true := rg_ok hs (rsT_bound hs _ _ _ (rsT_bound hs _ _ _ gq hA) hS)
            by_cases hR : (oR s).1 = 0
            · by_cases hE : (oR s).2.2 = Int.ofNat s.length
              · rcases node_some hr with ⟨e, hr⟩ | ⟨e, hr⟩
                · refine ⟨_, fol_val (w43_6 (nE (oL (oQ s))) (nE (oA s).2.1) (nE (oS s).2.1) (nE (oR s).2.1) s m) ?_, ?_⟩
                  · rw [hsh, c0, c1, g0, hq, g1, decide_eq_true hA, g2, decide_eq_true hS, g3, decide_eq_true hR, decide_eq_true hE]
                    cases nE (oL (oQ s)) <;> cases nE (oA s).2.1 <;> cases nE (oS s).2.1 <;> cases nE (oR s).2.1 <;> rfl
                  · have hr := nd_some (nd_some (nd_some (nd_some hr)))
                    rw [← leaf_some hr]
                    exact ⟨rfl, rfl⟩
                · unfold okM at e
                  rw [decide_eq_true (by omega), hq, decide_eq_true hA, decide_eq_true hS, decide_eq_true hR, decide_eq_true hE] at e; cases e
              · rcases node_some hr with ⟨e, hr⟩ | ⟨e, hr⟩
                · unfold okM at e
                  rw [decide_eq_false hE, Bool.and_false, Bool.and_false, Bool.and_false, Bool.and_false, Bool.and_false] at e; cases e
                · refine ⟨_, fol_val (w43_5 (nE (oL (oQ s))) (nE (oA s).2.1) (nE (oS s).2.1) (nE (oR s).2.1) s m) ?_, ?_⟩
                  · rw [hsh, c0, c1, g0, hq, g1, decide_eq_true hA, g2, decide_eq_true hS, g3, decide_eq_true hR, decide_eq_false hE]
                    cases nE (oL (oQ s)) <;> cases nE (oA s).2.1 <;> cases nE (oS s).2.1 <;> cases nE (oR s).2.1 <;> rfl
                  · rw [← leaf_some hr]
                    unfold erM
                    rw [if_neg hl, if_neg (by rw [hq]; decide), if_neg (fun e => e hA), if_neg (fun e => e hS), if_neg (fun e => e hR)]
                    exact ⟨rfl, rfl⟩
            · rcases node_some hr with ⟨e, hr⟩ | ⟨e, hr⟩
              · unfold okM at e
                rw [decide_eq_false hR, Bool.false_and, Bool.and_false, Bool.and_false, Bool.and_false, Bool.and_false] at e; cases e
              · refine ⟨_, fol_val (w43_4 (nE (oL (oQ s))) (nE (oA s).2.1) (nE (oS s).2.1) s m) ?_, ?_⟩
                · rw [hsh, c0, c1, g0, hq, g1, decide_eq_true hA, g2, decide_eq_true hS, g3, decide_eq_false hR]
                  cases nE (oL (oQ s)) <;> cases nE (oA s).2.1 <;> cases nE (oS s).2.1 <;> rfl
                · rw [← leaf_some hr]
                  unfold erM
                  rw [if_neg hl, if_neg (by rw [hq]; decide), if_neg (fun e => e hA), if_neg (fun e => e hS), if_pos hR]
                  exact ⟨rfl, rfl⟩
          · rcases node_some hr with ⟨e, hr⟩ | ⟨e, hr⟩
            · unfold okM at e
              rw [decide_eq_false hS, Bool.false_and, Bool.and_false, Bool.and_false, Bool.and_false] at e; cases e
            · refine ⟨_, fol_val (w43_3 (nE (oL (oQ s))) (nE (oA s).2.1) s m) ?_, ?_⟩
              · rw [hsh, c0, c1, g0, hq, g1, decide_eq_true hA, g2, decide_eq_false hS]
                cases nE (oL (oQ s)) <;> cases nE (oA s).2.1 <;> rfl
              · rw [← leaf_some hr]
                unfold erM
                rw [if_neg hl, if_neg (by rw [hq]; decide), if_neg (fun e => e hA), if_pos hS]
                exact ⟨rfl, rfl⟩
        · rcases node_some hr with ⟨e, hr⟩ | ⟨e, hr⟩
          · unfold okM at e
            rw [decide_eq_false hA, Bool.false_and, Bool.and_false, Bool.and_false] at e; cases e
          · refine ⟨_, fol_val (w43_2 (nE (oL (oQ s))) s m) ?_, ?_⟩
            · rw [hsh, c0, c1, g0, hq, g1, decide_eq_false hA]
              cases nE (oL (oQ s)) <;> rfl
            · rw [← leaf_some hr]
              unfold erM
              rw [if_neg hl, if_neg (by rw [hq]; decide), if_pos hA]
              exact ⟨rfl, rfl⟩
  · cases hr
noncomputable def cMs : Cfg := cH.addS 43 29 (lift sp43)
theorem cMs_ok : CfgOk Tryz.prog cMs := cH_ok.addS (lift_ok sp43_ok)
end Go.Proofs.YtgemonlknehegaaGreatDoor.AI
