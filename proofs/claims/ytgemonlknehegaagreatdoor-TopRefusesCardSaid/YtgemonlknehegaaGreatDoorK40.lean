/- The chain of TopRefuses, part 40. -/
import Derived.Test.YtgemonlknehegaaGreatDoorK39
namespace Go.Proofs.YtgemonlknehegaaGreatDoor.AI
open Go
set_option linter.unusedVariables false
set_option linter.unusedSimpArgs false
set_option maxRecDepth 100000
def qsO (s : List UInt8) (k a : Int) : Option (List Rc × Int) := qsT s k.toNat a []
def oL (o : Option (List Rc × Int)) : List Rc := match o with | some r => r.1 | none => []
def oN (o : Option (List Rc × Int)) : Int := match o with | some r => r.2 | none => 0
def qLeaf (b : Bool) (h : HD) (s : List UInt8) (cs : List Rc) (o : Option (List Rc × Int)) : LR := ⟨.normal, [0, 2, 4, 6, 7], [.s true s, .ptr 0 0, .ptr 1 0, .tsl 2 1 2 4, .i true .i64 (oN o)], qS b z12 3 (nb b) h cs (oL o)⟩
def coreQ : LSpec
  | [.s _ s, .ptr 0 0, .ptr 1 0, .tsl 2 1 2 4, .i _ .i64 a, .i _ .u16 k, .i _ .u16 i], ⟨[(0, .row 49 [.i _ .u16 (.ofNat 0), .b _ false, .b _ false, .b _ false, .b _ false, .b _ false, .i _ .i64 (.ofNat 0), .i _ .i64 (.ofNat 0), .nil .s, .nil .s, .nil .s, .nil .s] none), (1, .row 49 [.i _ .u16 x0, .b _ x1, .b _ x2, .b _ x3, .b _ x4, .b _ x5, .i _ .i64 x6, .i _ .i64 x7, .nil .s, .nil .s, .nil .s, .nil .s] none), (2, .lrow 23 [.int .u16] cs)], 3⟩ =>
    .need (decide (s.length < 40000 ∧ a < 50000 ∧ 0 ≤ k ∧ k < 65536 ∧ i = 0)) (.node (qsO s k a).isSome (.node (nE (oL (qsO s k a))) (.leaf (qLeaf true ⟨x0, x1, x2, x3, x4, x5, x6, x7⟩ s cs (qsO s k a))) (.leaf (qLeaf false ⟨x0, x1, x2, x3, x4, x5, x6, x7⟩ s cs (qsO s k a)))) (.leaf ⟨.ret, [2, 3], [.ptr 0 0, .i false .i64 2], ⟨[(0, .row 49 z12 none)], 20⟩⟩))
  | _, _ => .fail
theorem nE_nil {l : List Rc} (h : nE l = false) : l = [] := by cases l <;> first | rfl | cases h
theorem qR_leaf (h : HD) (s : List UInt8) (cs : List Rc) (o : Option (List Rc × Int)) (ho : o.isSome = true) : qR 3 h s cs o = qLeaf (nE (oL o)) h s cs o := by
  cases o with
  | none => cases ho
  | some r =>
    unfold qR qLeaf oL oN
    simp only
    cases nE r.1 <;> rfl
theorem coreQ_ok (vals : List SV) (sh : SH) (R : LR) (h : (coreQ vals sh).val = some R) : ∃ x R1, openL (qinv x).1 = openL vals ∧ (qinv x).2.opened = sh.opened ∧ qres x = some R1 ∧ R1.e = R.e ∧ R1.ix = R.ix ∧ Opn (.tuple R1.v, R1.h) (.tuple R.v, R.h) ∧ qmu x < 100000 := by
  unfold coreQ at h
  split at h
  · rename_i o1 s o2 a o3 k o4 i f0 f1 f2 f3 f4 f5 f6 f7 g0 x0 g1 x1 g2 x2 g3 x3 g4 x4 g5 x5 g6 x6 g7 x7 cs
    obtain ⟨h1, h2⟩ := need_some h
    obtain ⟨hs, ha, hk0, hk, rfl⟩ := of_decide_eq_true h1
    have hx : XQ.Ok ⟨⟨x0, x1, x2, x3, x4, x5, x6, x7⟩, s, cs, k.toNat, 0, a, []⟩ := ⟨hs, by simp only; omega, Nat.zero_le _, ha, Nat.le_refl _⟩
    have hkk : ((k.toNat : Nat) : Int) = k := Int.toNat_of_nonneg hk0
    have hq : qo ⟨⟨x0, x1, x2, x3, x4, x5, x6, x7⟩, s, cs, k.toNat, 0, a, []⟩ = qsO s k a := rfl
    refine ⟨⟨⟨x0, x1, x2, x3, x4, x5, x6, x7⟩, s, cs, k.toNat, 0, a, []⟩, R, ?_, rfl, ?_, rfl, rfl, ⟨rfl, rfl⟩, ?_⟩
    · show openL (qv s a ((k.toNat : Nat) : Int) ((0 : Nat) : Int)) = _
      rw [hkk]; rfl
    · rw [qres_of hx, hq]
      show some (qR 3 ⟨x0, x1, x2, x3, x4, x5, x6, x7⟩ s cs (qsO s k a)) = _
      rcases node_some h2 with ⟨e, h2⟩ | ⟨e, h2⟩
      · rw [qR_leaf _ _ _ _ e]
        rcases node_some h2 with ⟨e2, h2⟩ | ⟨e2, h2⟩ <;> rw [e2, ← leaf_some h2]
      · rw [← leaf_some h2]
        cases ho : qsO s k a with
        | none => rfl
        | some r => rw [ho] at e; cases e
    · show k.toNat - 0 < 100000; omega
  · cases h
theorem loopQ_ok : LoopOk Tryz.prog 43 0 18 (liftL [0, 2, 4, 6, 7, 30, 31] coreQ) := loop_at cH_ok Tryz.func43 (by kernel_rfl) coreQ_ok turnQ
end Go.Proofs.YtgemonlknehegaaGreatDoor.AI
namespace Go.Proofs.YtgemonlknehegaaGreatDoor.AI
open Go WB
set_option linter.unusedVariables false
set_option linter.unusedSimpArgs false
set_option maxRecDepth 100000
inductive W3 where
  | an | ns | ar
def tn1 (b : Bool) : Nat := match b with | true => 1 | false => 0
def jo (w : W3) (q u v : Bool) : Nat := match w with | .an => 4 + tn1 q | .ns => 4 + tn1 q + tn1 u | .ar => 4 + tn1 q + tn1 u + tn1 v
def offW (w : W3) : Nat := match w with | .an => 9 | .ns => 10 | .ar => 11
/-- the message so far: its questions, the lists ahead, the list that grows -/
def rS (w : W3) (q u v b : Bool) (z : List SV) (j nm : Nat) (h : HD) (cs lq lu lv : List Rc) (nq nu nv : Nat) (l : List Rc) : SH :=
  match w with
  | .an => ⟨(0, .row 49 z none) :: (1, .row 49 (hdV h ++ [lcell q 4 3 nq, lcell b j 5 l.length, .nil .s, .nil .s]) none) :: (2, .lrow 23 [.int .u16] cs) :: (3, .row 200 [.ptr 1 9, .ptr 1 10, .ptr 1 11] none) :: (lobj q 4 (.lrow 25 sQ lq) ++ lobj b j (.lrow 56 sR l)), nm⟩
  | .ns => ⟨(0, .row 49 z none) :: (1, .row 49 (hdV h ++ [lcell q 4 3 nq, lcell u (4 + tn1 q) 5 nu, lcell b j 5 l.length, .nil .s]) none) :: (2, .lrow 23 [.int .u16] cs) :: (3, .row 200 [.ptr 1 9, .ptr 1 10, .ptr 1 11] none) :: (lobj q 4 (.lrow 25 sQ lq) ++ (lobj u (4 + tn1 q) (.lrow 56 sR lu) ++ lobj b j (.lrow 56 sR l))), nm⟩
  | .ar => ⟨(0, .row 49 z none) :: (1, .row 49 (hdV h ++ [lcell q 4 3 nq, lcell u (4 + tn1 q) 5 nu, lcell v (4 + tn1 q + tn1 u) 5 nv, lcell b j 5 l.length]) none) :: (2, .lrow 23 [.int .u16] cs) :: (3, .row 200 [.ptr 1 9, .ptr 1 10, .ptr 1 11] none) :: (lobj q 4 (.lrow 25 sQ lq) ++ (lobj u (4 + tn1 q) (.lrow 56 sR lu) ++ (lobj v (4 + tn1 q + tn1 u) (.lrow 56 sR lv) ++ lobj b j (.lrow 56 sR l)))), nm⟩
def rv (w : W3) (s : List UInt8) (a d k i : Int) : List SV := [.s true s, .ptr 0 0, .ptr 1 0, .tsl 2 1 2 4, .i true .i64 a, .ptr 1 (offW w), .sl 3 0 3 (.known 3), .i true .i64 3, .i true .i64 d, .i true .u16 k, .i true .u16 i]
def ix43r : AExit → List Nat := fun e => match e with | .ret => [2, 3] | _ => [0, 2, 4, 6, 7, 55, 56, 57]
noncomputable def rT (w : W3) (q u v b : Bool) (h : HD) (s : List UInt8) (cs lq lu lv : List Rc) (nq nu nv : Nat) (l : List Rc) (a d k i : Int) (m : Nat) : DT Turn := seL Tryz.prog cH (m + 18) 43 97 (blkL Tryz.f43 4) [0, 2, 4, 6, 7, 12, 55, 56, 57, 66, 67] ix43r (rv w s a d k i, rS w q u v b z12 (jo w q u v) (jo w q u v + tn1 b) h cs lq lu lv nq nu nv l)
def rcL (r : RcT) : Rc := [.s r.nm, .n r.ty, .n r.cl, .n r.tt, .s r.dt]
theorem wRE_1 (w : W3) (q u v : Bool) (h : HD) (s : List UInt8) (cs lq lu lv : List Rc) (nq nu nv : Nat) (a d k i : Int) (m : Nat) : DT.fol [y, y, n] (rT w q u v false h s cs lq lu lv nq nu nv [] a d k i m) = some ([decide (i < k), decide (s.length < 40000) && decide (a < 50000), !decide ((rcA s a).er = 0)], .next (rv w s (rcA s a).nx d k (IntKind.wrap .u16 (i + 1))) (rS w q u v true z12 (jo w q u v) (jo w q u v + 1) h cs lq lu lv nq nu nv [rcL (rcA s a)]) (thOf (DT.fol [y, y, n] (rT w q u v false h s cs lq lu lv nq nu nv [] a d k i m))) (h0Of (DT.fol [y, y, n] (rT w q u v false h s cs lq lu lv nq nu nv [] a d k i m)))) := by cases w <;> cases q <;> cases u <;> cases v <;> kernel_rfl
theorem wRL_1 (w : W3) (q u v : Bool) (h : HD) (s : List UInt8) (cs lq lu lv : List Rc) (nq nu nv : Nat) (l : List Rc) (a d k i : Int) (m : Nat) : DT.fol [y, y, n, y, y] (rT w q u v true h s cs lq lu lv nq nu nv l a d k i m) = some ([decide (i < k), decide (s.length < 40000) && decide (a < 50000), !decide ((rcA s a).er = 0), decide (l.length < 1048576), decide (0 = 0 ∧ l.length = l.length)], .next (rv w s (rcA s a).nx d k (IntKind.wrap .u16 (i + 1))) (rS w q u v true z12 (jo w q u v) (jo w q u v + 1) h cs lq lu lv nq nu nv (l ++ [rcL (rcA s a)])) (thOf (DT.fol [y, y, n, y, y] (rT w q u v true h s cs lq lu lv nq nu nv l a d k i m))) (h0Of (DT.fol [y, y, n, y, y] (rT w q u v true h s cs lq lu lv nq nu nv l a d k i m)))) := by cases w <;> cases q <;> cases u <;> cases v <;> kernel_rfl
theorem wR_2 (w : W3) (q u v b : Bool) (h : HD) (s : List UInt8) (cs lq lu lv : List Rc) (nq nu nv : Nat) (l : List Rc) (a d k i : Int) (m : Nat) : DT.fol [y, y, y] (rT w q u v b h s cs lq lu lv nq nu nv l a d k i m) = some ([decide (i < k), decide (s.length < 40000) && decide (a < 50000), !decide ((rcA s a).er = 0)], .ends .ret (.tuple [.ptr 0 0, .i true .i64 (rcA s a).er]) (rS w q u v b zc12 (jo w q u v) (jo w q u v + tn1 b) h cs lq lu lv nq nu nv l)) := by cases b <;> cases w <;> cases q <;> cases u <;> cases v <;> kernel_rfl
theorem wR_3 (w : W3) (q u v b : Bool) (h : HD) (s : List UInt8) (cs lq lu lv : List Rc) (nq nu nv : Nat) (l : List Rc) (a d k i : Int) (m : Nat) : DT.fol [n] (rT w q u v b h s cs lq lu lv nq nu nv l a d k i m) = some ([decide (i < k)], .ends (.exit 4) (.tuple [.s true s, .ptr 0 0, .ptr 1 0, .tsl 2 1 2 4, .i true .i64 a, .sl 3 0 3 (.known 3), .i true .i64 3, .i true .i64 d]) (rS w q u v b z12 (jo w q u v) (jo w q u v + tn1 b) h cs lq lu lv nq nu nv l)) := by cases b <;> cases w <;> cases q <;> cases u <;> cases v <;> kernel_rfl
/-! ### What the loop tells -/
def rRk (b : Bool) (j : Nat) (w : W3) (q u v : Bool) (h : HD) (s : List UInt8) (cs lq lu lv : List Rc) (nq nu nv : Nat) (l : List Rc) (a d : Int) : LR :=
  ⟨.normal, [0, 2, 4, 6, 7, 55, 56, 57], [.s true s, .ptr 0 0, .ptr 1 0, .tsl 2 1 2 4, .i true .i64 a, .sl 3 0 3 (.known 3), .i false .i64 3, .i false .i64 d], rS w q u v b z12 j (match b with | true => j + 1 | false => jo w q u v) h cs lq lu lv nq nu nv l⟩
def rRe (e : Int) : LR := ⟨.ret, [2, 3], [.ptr 0 0, .i true .i64 e], ⟨[(0, .row 49 z12 none)], 20⟩⟩
theorem combRE (c : Bool) (w : W3) (q u v : Bool) (h : HD) (s : List UInt8) (cs lq lu lv : List Rc) (nq nu nv : Nat) (a d k i : Int) (m : Nat) (r : Rc) (L : List Rc) (a' : Int) : comb (jo w q u v) (thOf (DT.fol [y, y, n] (rT w q u v false h s cs lq lu lv nq nu nv [] a d k i m))) (h0Of (DT.fol [y, y, n] (rT w q u v false h s cs lq lu lv nq nu nv [] a d k i m))) (rRk true (jo w q u v + tn1 c) w q u v h s cs lq lu lv nq nu nv (r :: L) a' d) = some (.tuple (rRk true (jo w q u v) w q u v h s cs lq lu lv nq nu nv (r :: L) a' d).v, (rRk true (jo w q u v) w q u v h s cs lq lu lv nq nu nv (r :: L) a' d).h) := by cases c <;> cases w <;> cases q <;> cases u <;> cases v <;> kernel_rfl
theorem combRL (c : Bool) (w : W3) (q u v : Bool) (h : HD) (s : List UInt8) (cs lq lu lv : List Rc) (nq nu nv : Nat) (l : List Rc) (a d k i : Int) (m : Nat) (r : Rc) (L : List Rc) (a' : Int) : comb (jo w q u v + 1) (thOf (DT.fol [y, y, n, y, y] (rT w q u v true h s cs lq lu lv nq nu nv l a d k i m))) (h0Of (DT.fol [y, y, n, y, y] (rT w q u v true h s cs lq lu lv nq nu nv l a d k i m))) (rRk true (jo w q u v + tn1 c) w q u v h s cs lq lu lv nq nu nv (r :: L) a' d) = some (.tuple (rRk true (jo w q u v + 1) w q u v h s cs lq lu lv nq nu nv (r :: L) a' d).v, (rRk true (jo w q u v + 1) w q u v h s cs lq lu lv nq nu nv (r :: L) a' d).h) := by cases c <;> cases w <;> cases q <;> cases u <;> cases v <;> kernel_rfl
theorem combREn (w : W3) (q u v : Bool) (h : HD) (s : List UInt8) (cs lq lu lv : List Rc) (nq nu nv : Nat) (a d k i : Int) (m : Nat) (e : Int) : comb (jo w q u v) (thOf (DT.fol [y, y, n] (rT w q u v false h s cs lq lu lv nq nu nv [] a d k i m))) (h0Of (DT.fol [y, y, n] (rT w q u v false h s cs lq lu lv nq nu nv [] a d k i m))) (rRe e) = some (.tuple (rRe e).v, ⟨[(0, .row 49 z12 none)], jo w q u v⟩) := by cases w <;> cases q <;> cases u <;> cases v <;> kernel_rfl
theorem combRLn (w : W3) (q u v : Bool) (h : HD) (s : List UInt8) (cs lq lu lv : List Rc) (nq nu nv : Nat) (l : List Rc) (a d k i : Int) (m : Nat) (e : Int) : comb (jo w q u v + 1) (thOf (DT.fol [y, y, n, y, y] (rT w q u v true h s cs lq lu lv nq nu nv l a d k i m))) (h0Of (DT.fol [y, y, n, y, y] (rT w q u v true h s cs lq lu lv nq nu nv l a d k i m))) (rRe e) = some (.tuple (rRe e).v, ⟨[(0, .row 49 z12 none)], jo w q u v + 1⟩) := by cases w <;> cases q <;> cases u <;> cases v <;> kernel_rfl
end Go.Proofs.YtgemonlknehegaaGreatDoor.AI
namespace Go.Proofs.YtgemonlknehegaaGreatDoor.AI
open Go
set_option linter.unusedVariables false
set_option linter.unusedSimpArgs false
set_option maxRecDepth 100000
attribute [local irreducible] rcA
/-- the records from a place on: the error, the records, what is behind them -/
noncomputable def rsT (s : List UInt8) : Nat → Int → List Rc → Int × List Rc × Int
  | 0, a, acc => (0, acc, a)
  | k + 1, a, acc => match decide ((rcA s a).er = 0) with
    | true => rsT s k (rcA s a).nx (acc ++ [rcL (rcA s a)])
    | false => ((rcA s a).er, [], 0)
theorem rsT_len {s : List UInt8} : ∀ (k : Nat) (a : Int) (acc : List Rc), (rsT s k a acc).1 = 0 → (rsT s k a acc).2.1.length = acc.length + k
  | 0, a, acc, _ => rfl
  | k + 1, a, acc, e => by
    unfold rsT at e ⊢
    cases hd : decide ((rcA s a).er = 0) with
    | true =>
      rw [hd] at e
      simp only at e ⊢
      rw [rsT_len k _ _ e, List.length_append]; simp only [List.length_cons, List.length_nil]; omega
    | false => rw [hd] at e; exact absurd e (of_decide_eq_false hd)
structure XR where
  w : W3
  q : Bool
  u : Bool
  v : Bool
  h : HD
  s : List UInt8
  cs : List Rc
  lq : List Rc
  lu : List Rc
  lv : List Rc
  nq : Nat
  nu : Nat
  nv : Nat
  k : Nat
  i : Nat
  a : Int
  d : Int
  acc : List Rc
def rR (j : Nat) (x : XR) (o : Int × List Rc × Int) : LR := match decide (o.1 = 0) with
  | true => rRk (nE o.2.1) j x.w x.q x.u x.v x.h x.s x.cs x.lq x.lu x.lv x.nq x.nu x.nv o.2.1 o.2.2 x.d
  | false => rRe o.1
def rinv (x : XR) : List SV × SH := (rv x.w x.s x.a x.d x.k x.i, rS x.w x.q x.u x.v (nE x.acc) z12 (jo x.w x.q x.u x.v) (jo x.w x.q x.u x.v + tn1 (nE x.acc)) x.h x.cs x.lq x.lu x.lv x.nq x.nu x.nv x.acc)
structure XR.Ok (x : XR) : Prop where
  s : x.s.length < 40000
  k : x.k < 65536
  i : x.i ≤ x.k
  a : x.a < 50000
  acc : x.acc.length ≤ x.i
noncomputable def ro (x : XR) : Int × List Rc × Int := rsT x.s (x.k - x.i) x.a x.acc
def rj (x : XR) : Nat := jo x.w x.q x.u x.v + tn1 (nE x.acc && decide (x.i < x.k))
noncomputable def rres (x : XR) : Option LR := @ite _ x.Ok (Classical.propDecidable _) (some (rR (rj x) x (ro x))) none
theorem rres_of {x : XR} (h : x.Ok) : rres x = some (rR (rj x) x (ro x)) := if_pos h
def rmu (x : XR) : Nat := x.k - x.i
noncomputable def XR.nx (x : XR) : XR := ⟨x.w, x.q, x.u, x.v, x.h, x.s, x.cs, x.lq, x.lu, x.lv, x.nq, x.nu, x.nv, x.k, x.i + 1, (rcA x.s x.a).nx, x.d, x.acc ++ [rcL (rcA x.s x.a)]⟩
theorem ro_go {x : XR} (hi : x.i < x.k) : ro x = match decide ((rcA x.s x.a).er = 0) with | true => ro x.nx | false => ((rcA x.s x.a).er, [], 0) := by
  obtain ⟨d, hd⟩ : ∃ d, x.k - x.i = d + 1 := ⟨x.k - x.i - 1, by omega⟩
  have hd' : x.k - (x.i + 1) = d := by omega
  show rsT x.s (x.k - x.i) x.a x.acc = match decide ((rcA x.s x.a).er = 0) with | true => rsT x.s (x.k - (x.i + 1)) (rcA x.s x.a).nx (x.acc ++ [rcL (rcA x.s x.a)]) | false => ((rcA x.s x.a).er, [], 0)
  rw [hd, hd']; rfl
theorem ro_end {x : XR} (hi : ¬ x.i < x.k) : ro x = (0, x.acc, x.a) := by
  unfold ro
  rw [show x.k - x.i = 0 by omega]; rfl
theorem rR_k {j : Nat} {x : XR} {o : Int × List Rc × Int} (h : o.1 = 0) : rR j x o = rRk (nE o.2.1) j x.w x.q x.u x.v x.h x.s x.cs x.lq x.lu x.lv x.nq x.nu x.nv o.2.1 o.2.2 x.d := by
  unfold rR; rw [decide_eq_true h]
theorem rR_e {j : Nat} {x : XR} {o : Int × List Rc × Int} (h : o.1 ≠ 0) : rR j x o = rRe o.1 := by
  unfold rR; rw [decide_eq_false h]
theorem jo_le (w : W3) (q u v b : Bool) : jo w q u v + tn1 b ≤ 20 := by cases w <;> cases q <;> cases u <;> cases v <;> cases b <;> decide
theorem rinv_nm (x : XR) : (rinv x).2.nm = jo x.w x.q x.u x.v + tn1 (nE x.acc) := by
  obtain ⟨w, q, u, v, h, s, cs, lq, lu, lv, nq, nu, nv, k, i, a, d, acc⟩ := x
  cases w <;> rfl
theorem wkRe {e : Int} {sh : SH} (h0 : sh.opened.get 0 = some (.row 49 z12 none)) (hm : sh.nm ≤ 20) : Wk (.tuple [.ptr 0 0, .i true .i64 e], sh) (.tuple (rRe e).v, (rRe e).h) := by
  refine ⟨rfl, hm, fun x o ho => ?_⟩
  cases x with
  | zero => exact h0.trans ho
  | succ x => cases ho
set_option maxHeartbeats 2000000 in
theorem turnR (m : Nat) (x : XR) (R : LR) (hR : rres x = some R) : ∃ t, (seL Tryz.prog cH (m + 18) 43 Tryz.f43.ntmps (blkL Tryz.f43 4) [0, 2, 4, 6, 7, 12, 55, 56, 57, 66, 67] ix43r (rinv x)).val = some t ∧ TurnOk 4 ix43r rinv rres rmu x R t := by
  by_cases hx : x.Ok
  · rw [rres_of hx] at hR
    cases hR
    obtain ⟨w, q, u, v, h, s, cs, lq, lu, lv, nq, nu, nv, k, i, a, d, acc⟩ := x
    have hs := hx.s
    have hk := hx.k
    have hi0 := hx.i
    have ha := hx.a
    have hacc := hx.acc
    simp only at hs hk hi0 ha hacc
    show ∃ t, (rT w q u v (nE acc) h s cs lq lu lv nq nu nv acc a d k i m).val = some t ∧ _
    have c1 : (decide (s.length < 40000) && decide (a < 50000)) = true := by rw [decide_eq_true hs, decide_eq_true ha]; rfl
    by_cases hi : i < k
    · have c0 : decide ((i : Int) < (k : Int)) = true := decide_eq_true (by omega)
      have hw : IntKind.wrap .u16 ((i : Int) + 1) = ((i + 1 : Nat) : Int) := by rw [wrap16 (by omega) (by omega)]; rfl
      by_cases he : (rcA s a).er = 0
      · have hst := ro_go (x := ⟨w, q, u, v, h, s, cs, lq, lu, lv, nq, nu, nv, k, i, a, d, acc⟩) hi
        simp only at hst
        rw [decide_eq_true he] at hst
        simp only at hst
        have hnx := ((rc_eq s a 0 hs ha).1 he).2
        generalize hxx : (XR.nx ⟨w, q, u, v, h, s, cs, lq, lu, lv, nq, nu, nv, k, i, a, d, acc⟩) = x' at hst
        have hx' : x'.Ok := by
          subst hxx
          exact ⟨hs, hk, hi, by show (rcA s a).nx < 50000; omega, by show (acc ++ [rcL (rcA s a)]).length ≤ i + 1; simp only [List.length_append, List.length_cons, List.length_nil]; omega⟩
        have hmu : rmu x' < rmu ⟨w, q, u, v, h, s, cs, lq, lu, lv, nq, nu, nv, k, i, a, d, acc⟩ := by subst hxx; show k - (i + 1) < k - i; omega
        have hj : rj x' = jo w q u v + tn1 (decide (i + 1 < k)) := by
          subst hxx
          show jo w q u v + tn1 (nE (acc ++ [rcL (rcA s a)]) && decide (i + 1 < k)) = _
          rw [nE_app]; rfl
        have hne : (ro x').1 = 0 → ∃ e L, (ro x').2.1 = e :: L := fun hr => by
          have := rsT_len _ _ _ hr
          subst hxx
          have h2 : (ro (XR.nx ⟨w, q, u, v, h, s, cs, lq, lu, lv, nq, nu, nv, k, i, a, d, acc⟩)).2.1.length = (acc ++ [rcL (rcA s a)]).length + (k - (i + 1)) := this
          rw [List.length_append] at h2
          cases hl : (ro (XR.nx ⟨w, q, u, v, h, s, cs, lq, lu, lv, nq, nu, nv, k, i, a, d, acc⟩)).2.1 with
          | nil => rw [hl] at h2; simp only [List.length_cons, List.length_nil] at h2; omega
          | cons e L => exact ⟨e, L, rfl⟩
        have hsame : x'.w = w ∧ x'.q = q ∧ x'.u = u ∧ x'.v = v ∧ x'.h = h ∧ x'.s = s ∧ x'.cs = cs ∧ x'.lq = lq ∧ x'.lu = lu ∧ x'.lv = lv ∧ x'.nq = nq ∧ x'.nu = nu ∧ x'.nv = nv ∧ x'.d = d := by subst hxx; exact ⟨rfl, rfl, rfl, rfl, rfl, rfl, rfl, rfl, rfl, rfl, rfl, rfl, rfl, rfl⟩
        obtain ⟨s1, s2, s3, s4, s5, s6, s7, s8, s9, s10, t1, t2, t3, s11⟩ := hsame
        have hj0 : rj ⟨w, q, u, v, h, s, cs, lq, lu, lv, nq, nu, nv, k, i, a, d, acc⟩ = jo w q u v + tn1 (nE acc) := by
          show jo w q u v + tn1 (nE acc && decide (i < k)) = _
          rw [decide_eq_true hi, Bool.and_true]
        rw [hst, hj0]
        cases acc with
        | nil =>
          refine ⟨_, fol_val (wRE_1 w q u v h s cs lq lu lv nq nu nv a d k i m) (by rw [c0, c1, decide_eq_true he]; rfl), x', _, by subst hxx; rw [hw]; rfl, by subst hxx; rfl, hmu, rres_of hx', ?_⟩
          rw [hj, rinv_nm]
          by_cases ho : (ro x').1 = 0
          · obtain ⟨e, L, hL⟩ := hne ho
            rw [rR_k ho, rR_k ho, hL, s1, s2, s3, s4, s5, s6, s7, s8, s9, s10, t1, t2, t3, s11]
            exact ⟨rfl, rfl, _, combRE _ w q u v h s cs lq lu lv nq nu nv a d k i m e L _, Opn.wk ⟨rfl, rfl⟩⟩
          · rw [rR_e ho, rR_e ho]
            exact ⟨rfl, rfl, _, combREn w q u v h s cs lq lu lv nq nu nv a d k i m _, wkRe rfl (jo_le w q u v false)⟩
        | cons c t =>
          refine ⟨_, fol_val (wRL_1 w q u v h s cs lq lu lv nq nu nv (c :: t) a d k i m) (by rw [c0, c1, decide_eq_true he, show decide ((c :: t).length < 1048576) = true from decide_eq_true (by omega), show decide (0 = 0 ∧ (c :: t).length = (c :: t).length) = true from decide_eq_true ⟨rfl, rfl⟩]; rfl), x', _, by subst hxx; rw [hw]; rfl, by subst hxx; rfl, hmu, rres_of hx', ?_⟩
          rw [hj, rinv_nm]
          by_cases ho : (ro x').1 = 0
          · obtain ⟨e, L, hL⟩ := hne ho
            rw [rR_k ho, rR_k ho, hL, s1, s2, s3, s4, s5, s6, s7, s8, s9, s10, t1, t2, t3, s11]
            exact ⟨rfl, rfl, _, combRL _ w q u v h s cs lq lu lv nq nu nv (c :: t) a d k i m e L _, Opn.wk ⟨rfl, rfl⟩⟩
          · rw [rR_e ho, rR_e ho]
            exact ⟨rfl, rfl, _, combRLn w q u v h s cs lq lu lv nq nu nv (c :: t) a d k i m _, wkRe rfl (jo_le w q u v true)⟩
      · refine ⟨_, fol_val (wR_2 w q u v (nE acc) h s cs lq lu lv nq nu nv acc a d k i m) (by rw [c0, c1, decide_eq_false he]; rfl), ?_⟩
        have ho := ro_go (x := ⟨w, q, u, v, h, s, cs, lq, lu, lv, nq, nu, nv, k, i, a, d, acc⟩) hi
        simp only at ho
        rw [decide_eq_false he] at ho
        simp only at ho
        rw [ho, rR_e he]
        refine ⟨.inr ⟨rfl, rfl⟩, rfl, wkRe ?_ ?_⟩
        · cases w <;> rfl
        · have := jo_le w q u v (nE acc)
          cases w <;> exact this
    · have c0 : decide ((i : Int) < (k : Int)) = false := decide_eq_false (by omega)
      refine ⟨_, fol_val (wR_3 w q u v (nE acc) h s cs lq lu lv nq nu nv acc a d k i m) (by rw [c0]; rfl), ?_⟩
      rw [ro_end (x := ⟨w, q, u, v, h, s, cs, lq, lu, lv, nq, nu, nv, k, i, a, d, acc⟩) hi, rR_k rfl]
      have hj0 : rj ⟨w, q, u, v, h, s, cs, lq, lu, lv, nq, nu, nv, k, i, a, d, acc⟩ = jo w q u v := by
        show jo w q u v + tn1 (nE acc && decide (i < k)) = _
        rw [decide_eq_false hi, Bool.and_false]; rfl
      rw [hj0]
      refine ⟨.inl ⟨rfl, rfl⟩, rfl, Opn.wk ⟨rfl, ?_⟩⟩
      show (rS w q u v (nE acc) z12 (jo w q u v) (jo w q u v + tn1 (nE acc)) h cs lq lu lv nq nu nv acc).opened = (rS w q u v (nE acc) z12 (jo w q u v) (match nE acc with | true => jo w q u v + 1 | false => jo w q u v) h cs lq lu lv nq nu nv acc).opened
      cases nE acc <;> rfl
  · unfold rres at hR
    rw [if_neg hx] at hR; cases hR
end Go.Proofs.YtgemonlknehegaaGreatDoor.AI
