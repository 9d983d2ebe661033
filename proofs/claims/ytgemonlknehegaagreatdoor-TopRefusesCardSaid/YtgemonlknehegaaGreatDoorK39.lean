/- The chain of TopRefuses, part 39. -/
import Derived.Test.YtgemonlknehegaaGreatDoorK38
namespace Go.Proofs.YtgemonlknehegaaGreatDoor.AI
open Go
set_option linter.unusedVariables false
/-- a way: yes, no, as it reckons -/
inductive WB where
  | y | n | a
open WB
def DT.fol {α : Type} : List WB → DT α → Option (List Bool × α)
  | [], .leaf v => some ([], v)
  | b :: l, .node c x z => (match b with
    | a => (match c with | true => DT.fol l x | false => DT.fol l z)
    | y => (match DT.fol l x with | some r => some (c :: r.1, r.2) | none => none)
    | n => (match DT.fol l z with | some r => some (c :: r.1, r.2) | none => none))
  | _, _ => none
def wayB : List WB → List Bool
  | [] => []
  | b :: l => match b with | a => wayB l | y => true :: wayB l | n => false :: wayB l
theorem fol_val {α : Type} : ∀ {p : List WB} {cs : List Bool} {d : DT α} {v : α}, DT.fol p d = some (cs, v) → cs = wayB p → d.val = some v
  | [], cs, .leaf b, v, h, _ => by cases h; rfl
  | [], cs, .node _ _ _, v, h, _ => by cases h
  | [], cs, .fail, v, h, _ => by cases h
  | b :: l, cs, .leaf _, v, h, _ => by cases h
  | b :: l, cs, .fail, v, h, _ => by cases h
  | a :: l, cs, .node true x z, v, h, he => fol_val (d := x) h he
  | a :: l, cs, .node false x z, v, h, he => fol_val (d := z) h he
  | y :: l, cs, .node c x z, v, h, he => by
    have h' : (match DT.fol l x with | some r => some (c :: r.1, r.2) | none => none) = some (cs, v) := h
    cases hr : DT.fol l x with
    | none => rw [hr] at h'; cases h'
    | some r =>
      rw [hr] at h'
      cases h'
      obtain ⟨e1, e2⟩ := List.cons.inj he
      subst e1
      exact fol_val (d := x) hr e2
  | n :: l, cs, .node c x z, v, h, he => by
    have h' : (match DT.fol l z with | some r => some (c :: r.1, r.2) | none => none) = some (cs, v) := h
    cases hr : DT.fol l z with
    | none => rw [hr] at h'; cases h'
    | some r =>
      rw [hr] at h'
      cases h'
      obtain ⟨e1, e2⟩ := List.cons.inj he
      subst e1
      exact fol_val (d := z) hr e2
end Go.Proofs.YtgemonlknehegaaGreatDoor.AI
namespace Go.Proofs.YtgemonlknehegaaGreatDoor.AI
open Go WB
set_option linter.unusedVariables false
set_option linter.unusedSimpArgs false
set_option maxRecDepth 100000
def fl (s : List UInt8) : Int := ((u16 s 2 : Nat) : Int)
def fb (s : List UInt8) (k : Int) : Bool := !decide (nat2S Nat.land (fl s) k = 0)
noncomputable def opH (s : List UInt8) : Int := IntKind.wrap .i64 (nat2S Nat.land (Int.ofNat (Int.toNat (fl s) / 2 ^ min (Int.toNat 11) (bitsOf .u16))) 15)
def rcH (s : List UInt8) : Int := IntKind.wrap .i64 (nat2S Nat.land (fl s) 15)
structure HD where
  id : Int
  qr : Bool
  aa : Bool
  tc : Bool
  rd : Bool
  ra : Bool
  op : Int
  rc : Int
def hdV (h : HD) : List SV := [.i true .u16 h.id, .b true h.qr, .b true h.aa, .b true h.tc, .b true h.rd, .b true h.ra, .i true .i64 h.op, .i true .i64 h.rc]
noncomputable def hdS (s : List UInt8) : HD := ⟨((u16 s 0 : Nat) : Int), fb s 32768, fb s 1024, fb s 512, fb s 256, fb s 128, opH s, rcH s⟩
def nil4 : List SV := [.nil .s, .nil .s, .nil .s, .nil .s]
def msg0 : SV := .agg [.i false .u16 0, .b false false, .b false false, .b false false, .b false false, .b false false, .i false .i64 0, .i false .i64 0, .nil .s, .nil .s, .nil .s, .nil .s]
theorem w42_1 (s : List UInt8) (n : Nat) : DT.fol [y] (seC Tryz.prog cR (n + 8) 42 [.s true s] .empty) = some ([decide (Int.ofNat (List.length s) < 12)], some (.tuple [msg0, .i false .i64 2], .empty)) := by kernel_rfl
theorem w42_2 (s : List UInt8) (m : Nat) : DT.fol [n, y, y, y, y, a, a, a, a, a, a, y, y, y, y, y, y, y, y] (seC Tryz.prog cR (m + 8) 42 [.s true s] .empty) = some ([decide (Int.ofNat (List.length s) < 12), short s, okSome s (Int.ofNat 0) 2, short s, okSome s (Int.ofNat (Nat.succ 1)) 2, inB .u16 (fl s) && inB .u16 32768, inB .u16 (fl s) && inB .u16 1024, inB .u16 (fl s) && inB .u16 512, inB .u16 (fl s) && inB .u16 256, inB .u16 (fl s) && inB .u16 128, nn (fl s) && nn 11, inB .u16 (Int.ofNat (Int.toNat (fl s) / 2 ^ min (Int.toNat 11) (bitsOf .u16))) && inB .u16 15, inB .u16 (fl s) && inB .u16 15], some (.tuple [.agg (hdV (hdS s) ++ nil4), .i false .i64 0], .empty)) := by kernel_rfl
theorem inB16 {x : Int} (h : 0 ≤ x) (h' : x < 65536) : inB .u16 x = true := decide_eq_true ⟨h, h'⟩
theorem fl_b (s : List UInt8) : 0 ≤ fl s ∧ fl s < 65536 := by
  have := u16_lt s 2
  unfold fl; omega
noncomputable def sp42 : Spec
  | [.s _ s], ⟨[], 0⟩ => .need (short s) (.node (decide (s.length < 12)) (.leaf (.tuple [msg0, .i false .i64 2], .empty)) (.leaf (.tuple [.agg (hdV (hdS s) ++ nil4), .i false .i64 0], .empty)))
  | _, _ => .fail
theorem sp42_ok : SpecOk Tryz.prog 42 9 sp42 := spec_ok cR_ok fun m args sh r hr => by
  unfold sp42 at hr
  split at hr
  · rename_i o1 s
    obtain ⟨h1, hr⟩ := need_some hr
    rw [seC_open]
    show ∃ r1, (seC Tryz.prog cR (m + 8) 42 [.s true s] .empty).val = _ ∧ _
    rcases node_some hr with ⟨h2, hr⟩ | ⟨h2, hr⟩
    · have h2 := of_decide_eq_true h2
      exact ⟨_, fol_val (w42_1 s m) (by rw [decide_eq_true (show Int.ofNat s.length < 12 by simp only [Int.ofNat_eq_natCast]; omega)]; rfl), by rw [← leaf_some hr]; exact ⟨rfl, rfl⟩⟩
    · have h2 := of_decide_eq_false h2
      obtain ⟨f0, f1⟩ := fl_b s
      have a1 : inB .u16 (fl s) = true := inB16 f0 f1
      have a2 : inB .u16 (Int.ofNat (Int.toNat (fl s) / 2 ^ min (Int.toNat 11) (bitsOf .u16))) = true := by
        have : Int.toNat (fl s) / 2 ^ min (Int.toNat 11) (bitsOf .u16) ≤ Int.toNat (fl s) := Nat.div_le_self _ _
        refine inB16 (Int.natCast_nonneg _) ?_
        simp only [Int.ofNat_eq_natCast]; omega
      have a3 : nn (fl s) = true := decide_eq_true f0
      refine ⟨_, fol_val (w42_2 s m) ?_, by rw [← leaf_some hr]; exact ⟨rfl, rfl⟩⟩
      rw [decide_eq_false (show ¬ Int.ofNat s.length < 12 by simp only [Int.ofNat_eq_natCast]; omega), h1, a1, a2, a3, show okSome s (Int.ofNat 0) 2 = true from decide_eq_true (by simp only [Int.ofNat_eq_natCast]; omega), show okSome s (Int.ofNat (Nat.succ 1)) 2 = true from decide_eq_true (by simp only [Int.ofNat_eq_natCast]; omega)]
      rfl
  · cases hr
noncomputable def cH : Cfg := cR.addS 42 9 (lift sp42)
theorem cH_ok : CfgOk Tryz.prog cH := cR_ok.addS (lift_ok sp42_ok)
end Go.Proofs.YtgemonlknehegaaGreatDoor.AI
namespace Go.Proofs.YtgemonlknehegaaGreatDoor.AI
open Go WB
set_option linter.unusedVariables false
set_option linter.unusedSimpArgs false
set_option maxRecDepth 100000
/-! ### Turns, without what they leave behind -/
def thOf (o : Option (List Bool × Turn)) : List Nat := match o with | some (_, .next _ _ th _) => th | _ => []
def h0Of (o : Option (List Bool × Turn)) : SH := match o with | some (_, .next _ _ _ h0) => h0 | _ => .empty
def z12 : List SV := [.i true .u16 0, .b true false, .b true false, .b true false, .b true false, .b true false, .i true .i64 0, .i true .i64 0, .nil .s, .nil .s, .nil .s, .nil .s]
def zc12 : List SV := [.i false .u16 0, .b false false, .b false false, .b false false, .b false false, .b false false, .i false .i64 0, .i false .i64 0, .nil .s, .nil .s, .nil .s, .nil .s]
def sQ : List FK := [.str, .int .u16, .int .u16]
def sR : List FK := [.str, .int .u16, .int .u16, .int .u32, .str]
def lcell (b : Bool) (j sz len : Nat) : SV := match b with | true => .tsl j sz 0 len | false => .nil .s
def lobj (b : Bool) (j : Nat) (o : SO) : List (Nat × SO) := match b with | true => [(j, o)] | false => []
def nE (l : List Rc) : Bool := match l with | [] => false | _ :: _ => true
theorem nE_app (l : List Rc) (r : Rc) : nE (l ++ [r]) = true := by cases l <;> rfl
def qv (s : List UInt8) (a k i : Int) : List SV := [.s true s, .ptr 0 0, .ptr 1 0, .tsl 2 1 2 4, .i true .i64 a, .i true .u16 k, .i true .u16 i]
def qS (b : Bool) (z : List SV) (j nm : Nat) (h : HD) (cs acc : List Rc) : SH :=
  ⟨(0, .row 49 z none) :: (1, .row 49 (hdV h ++ [lcell b j 3 acc.length, .nil .s, .nil .s, .nil .s]) none) :: (2, .lrow 23 [.int .u16] cs) :: lobj b j (.lrow 25 sQ acc), nm⟩
def nb (b : Bool) : Nat := match b with | true => 4 | false => 3
def ix43 : AExit → List Nat := fun e => match e with | .ret => [2, 3] | _ => [0, 2, 4, 6, 7]
noncomputable def qT (b : Bool) (h : HD) (s : List UInt8) (cs acc : List Rc) (a k i : Int) (m : Nat) : DT Turn := seL Tryz.prog cH (m + 18) 43 97 (blkL Tryz.f43 0) [0, 2, 4, 6, 7, 30, 31] ix43 (qv s a k i, qS b z12 3 (nb b) h cs acc)
theorem wQE_1 (h : HD) (s : List UInt8) (cs : List Rc) (a k i : Int) (m : Nat) : DT.fol [y, y, y] (qT false h s cs [] a k i m) = some ([decide (i < k), short s && decide (a < 50000), okQ s a], .next (qv s (nxA s a + 2 + 2) k (IntKind.wrap .u16 (i + 1))) (qS true z12 3 4 h cs [rcQ s a]) (thOf (DT.fol [y, y, y] (qT false h s cs [] a k i m))) (h0Of (DT.fol [y, y, y] (qT false h s cs [] a k i m)))) := by kernel_rfl
theorem wQL_1 (h : HD) (s : List UInt8) (cs acc : List Rc) (a k i : Int) (m : Nat) : DT.fol [y, y, y, y, y] (qT true h s cs acc a k i m) = some ([decide (i < k), short s && decide (a < 50000), okQ s a, decide (acc.length < 1048576), decide (0 = 0 ∧ acc.length = acc.length)], .next (qv s (nxA s a + 2 + 2) k (IntKind.wrap .u16 (i + 1))) (qS true z12 3 4 h cs (acc ++ [rcQ s a])) (thOf (DT.fol [y, y, y, y, y] (qT true h s cs acc a k i m))) (h0Of (DT.fol [y, y, y, y, y] (qT true h s cs acc a k i m)))) := by kernel_rfl
theorem wQ_2 (b : Bool) (h : HD) (s : List UInt8) (cs acc : List Rc) (a k i : Int) (m : Nat) : DT.fol [y, y, n] (qT b h s cs acc a k i m) = some ([decide (i < k), short s && decide (a < 50000), okQ s a], .ends .ret (.tuple [.ptr 0 0, .i false .i64 2]) (qS b zc12 3 (nb b) h cs acc)) := by cases b <;> kernel_rfl
theorem wQ_3 (b : Bool) (h : HD) (s : List UInt8) (cs acc : List Rc) (a k i : Int) (m : Nat) : DT.fol [n] (qT b h s cs acc a k i m) = some ([decide (i < k)], .ends (.exit 0) (.tuple [.s true s, .ptr 0 0, .ptr 1 0, .tsl 2 1 2 4, .i true .i64 a]) (qS b z12 3 (nb b) h cs acc)) := by cases b <;> kernel_rfl
/-! ### What the loop tells -/
noncomputable def qR (j : Nat) (h : HD) (s : List UInt8) (cs : List Rc) (o : Option (List Rc × Int)) : LR :=
  match o with
  | none => ⟨.ret, [2, 3], [.ptr 0 0, .i false .i64 2], ⟨[(0, .row 49 z12 none)], 20⟩⟩
  | some r => ⟨.normal, [0, 2, 4, 6, 7], [.s true s, .ptr 0 0, .ptr 1 0, .tsl 2 1 2 4, .i true .i64 r.2], qS (nE r.1) z12 j (match nE r.1 with | true => j + 1 | false => 3) h cs r.1⟩
structure XQ where
  h : HD
  s : List UInt8
  cs : List Rc
  k : Nat
  i : Nat
  a : Int
  acc : List Rc
noncomputable def qinv (x : XQ) : List SV × SH := (qv x.s x.a x.k x.i, qS (nE x.acc) z12 3 (nb (nE x.acc)) x.h x.cs x.acc)
def qj (b c : Bool) : Nat := match b, c with | true, true => 4 | _, _ => 3
structure XQ.Ok (x : XQ) : Prop where
  s : x.s.length < 40000
  k : x.k < 65536
  i : x.i ≤ x.k
  a : x.a < 50000
  acc : x.acc.length ≤ x.i
noncomputable def qo (x : XQ) : Option (List Rc × Int) := qsT x.s (x.k - x.i) x.a x.acc
noncomputable def qres (x : XQ) : Option LR := @ite _ x.Ok (Classical.propDecidable _) (some (qR (qj (nE x.acc) (decide (x.i < x.k))) x.h x.s x.cs (qo x))) none
theorem qres_of {x : XQ} (h : x.Ok) : qres x = some (qR (qj (nE x.acc) (decide (x.i < x.k))) x.h x.s x.cs (qo x)) := if_pos h
def qmu (x : XQ) : Nat := x.k - x.i
theorem qR_e (j j' : Nat) (h : HD) (s : List UInt8) (cs : List Rc) (o : Option (List Rc × Int)) : (qR j h s cs o).e = (qR j' h s cs o).e ∧ (qR j h s cs o).ix = (qR j' h s cs o).ix := by cases o <;> exact ⟨rfl, rfl⟩
theorem combQE (j : Bool) (h : HD) (s : List UInt8) (cs : List Rc) (a k i : Int) (m : Nat) (r : Rc) (L : List Rc) (b : Int) : comb 3 (thOf (DT.fol [y, y, y] (qT false h s cs [] a k i m))) (h0Of (DT.fol [y, y, y] (qT false h s cs [] a k i m))) (qR (nb j) h s cs (some (r :: L, b))) = some (.tuple (qR 3 h s cs (some (r :: L, b))).v, (qR 3 h s cs (some (r :: L, b))).h) := by cases j <;> kernel_rfl
theorem combQL (j : Bool) (h : HD) (s : List UInt8) (cs acc : List Rc) (a k i : Int) (m : Nat) (r : Rc) (L : List Rc) (b : Int) : comb 4 (thOf (DT.fol [y, y, y, y, y] (qT true h s cs acc a k i m))) (h0Of (DT.fol [y, y, y, y, y] (qT true h s cs acc a k i m))) (qR (nb j) h s cs (some (r :: L, b))) = some (.tuple (qR 4 h s cs (some (r :: L, b))).v, (qR 4 h s cs (some (r :: L, b))).h) := by cases j <;> kernel_rfl
theorem combQEn (j : Nat) (h : HD) (s : List UInt8) (cs : List Rc) (a k i : Int) (m : Nat) : comb 3 (thOf (DT.fol [y, y, y] (qT false h s cs [] a k i m))) (h0Of (DT.fol [y, y, y] (qT false h s cs [] a k i m))) (qR j h s cs none) = some (.tuple (qR 3 h s cs none).v, ⟨[(0, .row 49 z12 none)], 3⟩) := by kernel_rfl
theorem combQLn (j : Nat) (h : HD) (s : List UInt8) (cs acc : List Rc) (a k i : Int) (m : Nat) : comb 4 (thOf (DT.fol [y, y, y, y, y] (qT true h s cs acc a k i m))) (h0Of (DT.fol [y, y, y, y, y] (qT true h s cs acc a k i m))) (qR j h s cs none) = some (.tuple (qR 3 h s cs none).v, ⟨[(0, .row 49 z12 none)], 4⟩) := by kernel_rfl
end Go.Proofs.YtgemonlknehegaaGreatDoor.AI
namespace Go.Proofs.YtgemonlknehegaaGreatDoor.AI
open Go
set_option linter.unusedVariables false
set_option linter.unusedSimpArgs false
set_option maxRecDepth 100000
theorem qsT_len {s : List UInt8} : ∀ (k : Nat) (a : Int) (acc : List Rc) (r : List Rc × Int), qsT s k a acc = some r → r.1.length = acc.length + k
  | 0, a, acc, r, e => by cases e; rfl
  | k + 1, a, acc, r, e => by
    unfold qsT at e
    split at e
    · rw [qsT_len k _ _ r e, List.length_append]; simp only [List.length_cons, List.length_nil]; omega
    · cases e
theorem wkZ {v : SV} {m : Nat} (hm : m ≤ 20) : Wk (v, ⟨[(0, .row 49 z12 none)], m⟩) (v, ⟨[(0, .row 49 z12 none)], 20⟩) := ⟨rfl, hm, fun x o ho => ho⟩
theorem wkRet {sh : SH} (h0 : sh.opened.get 0 = some (.row 49 z12 none)) (hm : sh.nm ≤ 20) : Wk (.tuple [.ptr 0 0, .i false .i64 2], sh) (.tuple [.ptr 0 0, .i false .i64 2], ⟨[(0, .row 49 z12 none)], 20⟩) := by
  refine ⟨rfl, hm, fun x o ho => ?_⟩
  cases x with
  | zero => exact h0.trans ho
  | succ x => cases ho
theorem okQ_next {s : List UInt8} {a : Int} (h : okQ s a = true) (hs : s.length < 40000) : nxA s a + 2 + 2 < 50000 := by
  unfold okQ at h
  rw [Bool.and_eq_true, Bool.and_eq_true] at h
  have h2 := of_decide_eq_true h.2.2
  omega
theorem qo_step {x : XQ} (hi : x.i < x.k) (hok : okQ x.s x.a = true) : qo x = qo ⟨x.h, x.s, x.cs, x.k, x.i + 1, nxA x.s x.a + 2 + 2, x.acc ++ [rcQ x.s x.a]⟩ := by
  unfold qo
  obtain ⟨d, hd⟩ : ∃ d, x.k - x.i = d + 1 := ⟨x.k - x.i - 1, by omega⟩
  have hd' : x.k - (x.i + 1) = d := by omega
  show qsT x.s (x.k - x.i) x.a x.acc = qsT x.s (x.k - (x.i + 1)) _ _
  rw [hd, hd']
  show (match okQ x.s x.a with | true => qsT x.s d (nxA x.s x.a + 2 + 2) (x.acc ++ [rcQ x.s x.a]) | false => none) = _
  rw [hok]
theorem qo_bad {x : XQ} (hi : x.i < x.k) (hok : okQ x.s x.a = false) : qo x = none := by
  unfold qo
  obtain ⟨d, hd⟩ : ∃ d, x.k - x.i = d + 1 := ⟨x.k - x.i - 1, by omega⟩
  rw [hd]
  show (match okQ x.s x.a with | true => qsT x.s d (nxA x.s x.a + 2 + 2) (x.acc ++ [rcQ x.s x.a]) | false => none) = _
  rw [hok]
theorem qo_end {x : XQ} (hi : ¬ x.i < x.k) : qo x = some (x.acc, x.a) := by
  unfold qo
  rw [show x.k - x.i = 0 by omega]; rfl
theorem turnQ (m : Nat) (x : XQ) (R : LR) (hR : qres x = some R) : ∃ t, (seL Tryz.prog cH (m + 18) 43 Tryz.f43.ntmps (blkL Tryz.f43 0) [0, 2, 4, 6, 7, 30, 31] ix43 (qinv x)).val = some t ∧ TurnOk 0 ix43 qinv qres qmu x R t := by
  by_cases hx : x.Ok
  · rw [qres_of hx] at hR
    cases hR
    obtain ⟨hh, s, cs, k, i, a, acc⟩ := x
    have hs := hx.s
    have hk := hx.k
    have hi0 := hx.i
    have ha := hx.a
    have hacc := hx.acc
    simp only at hs hk hi0 ha hacc
    show ∃ t, (qT (nE acc) hh s cs acc a k i m).val = some t ∧ _
    have c1 : (short s && decide (a < 50000)) = true := by
      rw [show short s = true from decide_eq_true (by omega), decide_eq_true ha]; rfl
    by_cases hi : i < k
    · have c0 : decide ((i : Int) < (k : Int)) = true := decide_eq_true (by omega)
      have hw : IntKind.wrap .u16 ((i : Int) + 1) = ((i + 1 : Nat) : Int) := by rw [wrap16 (by omega) (by omega)]; rfl
      cases hok : okQ s a with
      | false =>
        refine ⟨_, fol_val (wQ_2 (nE acc) hh s cs acc a k i m) (by rw [c0, c1, hok]; rfl), ?_⟩
        rw [qo_bad (x := ⟨hh, s, cs, k, i, a, acc⟩) hi hok]
        refine ⟨.inr ⟨rfl, rfl⟩, rfl, wkRet ?_ ?_⟩
        · cases nE acc <;> rfl
        · show nb (nE acc) ≤ 20; cases nE acc <;> decide
      | true =>
        have hst := qo_step (x := ⟨hh, s, cs, k, i, a, acc⟩) hi hok
        simp only at hst
        have hx' : XQ.Ok ⟨hh, s, cs, k, i + 1, nxA s a + 2 + 2, acc ++ [rcQ s a]⟩ := ⟨hs, hk, hi, okQ_next hok hs, by simp only [List.length_append, List.length_cons, List.length_nil]; omega⟩
        have hmu : qmu ⟨hh, s, cs, k, i + 1, nxA s a + 2 + 2, acc ++ [rcQ s a]⟩ < qmu ⟨hh, s, cs, k, i, a, acc⟩ := by unfold qmu; simp only; omega
        have hne : ∀ r, qo ⟨hh, s, cs, k, i + 1, nxA s a + 2 + 2, acc ++ [rcQ s a]⟩ = some r → ∃ e L, r = (e :: L, r.2) := fun r hr => by
          have := qsT_len _ _ _ r hr
          rw [List.length_append] at this
          obtain ⟨l, b⟩ := r
          cases l with
          | nil => simp only [List.length_cons, List.length_nil] at this; omega
          | cons e L => exact ⟨e, L, rfl⟩
        cases acc with
        | nil =>
          refine ⟨_, fol_val (wQE_1 hh s cs a k i m) (by rw [c0, c1, hok]; rfl), ⟨hh, s, cs, k, i + 1, nxA s a + 2 + 2, [rcQ s a]⟩, _, by rw [hw]; rfl, rfl, hmu, qres_of hx', ?_⟩
          rw [hst]
          refine ⟨(qR_e _ _ _ _ _ _).1, (qR_e _ _ _ _ _ _).2, ?_⟩
          simp only [List.nil_append] at hne ⊢
          rw [show qj (nE ([] : List Rc)) (decide (i < k)) = 3 from rfl, show qj (nE [rcQ s a]) (decide (i + 1 < k)) = nb (decide (i + 1 < k)) by cases decide (i + 1 < k) <;> rfl]
          cases hq : qo ⟨hh, s, cs, k, i + 1, nxA s a + 2 + 2, [rcQ s a]⟩ with
          | none => exact ⟨_, combQEn _ hh s cs a k i m, wkZ (by decide)⟩
          | some r =>
            obtain ⟨e, L, hr⟩ := hne r hq
            rw [hr]
            exact ⟨_, combQE _ hh s cs a k i m e L r.2, Opn.wk ⟨rfl, rfl⟩⟩
        | cons c t =>
          refine ⟨_, fol_val (wQL_1 hh s cs (c :: t) a k i m) (by rw [c0, c1, hok, show decide ((c :: t).length < 1048576) = true from decide_eq_true (by omega), show decide (0 = 0 ∧ (c :: t).length = (c :: t).length) = true from decide_eq_true ⟨rfl, rfl⟩]; rfl), ⟨hh, s, cs, k, i + 1, nxA s a + 2 + 2, c :: t ++ [rcQ s a]⟩, _, by rw [hw]; rfl, rfl, hmu, qres_of hx', ?_⟩
          rw [hst]
          refine ⟨(qR_e _ _ _ _ _ _).1, (qR_e _ _ _ _ _ _).2, ?_⟩
          rw [show qj (nE (c :: t)) (decide (i < k)) = 4 by rw [decide_eq_true hi]; rfl, show qj (nE (c :: t ++ [rcQ s a])) (decide (i + 1 < k)) = nb (decide (i + 1 < k)) by cases decide (i + 1 < k) <;> rfl]
          cases hq : qo ⟨hh, s, cs, k, i + 1, nxA s a + 2 + 2, c :: t ++ [rcQ s a]⟩ with
          | none => exact ⟨_, combQLn _ hh s cs (c :: t) a k i m, wkZ (by decide)⟩
          | some r =>
            obtain ⟨e, L, hr⟩ := hne r hq
            rw [hr]
            exact ⟨_, combQL _ hh s cs (c :: t) a k i m e L r.2, Opn.wk ⟨rfl, rfl⟩⟩
    · have c0 : decide ((i : Int) < (k : Int)) = false := decide_eq_false (by omega)
      refine ⟨_, fol_val (wQ_3 (nE acc) hh s cs acc a k i m) (by rw [c0]; rfl), ?_⟩
      rw [qo_end (x := ⟨hh, s, cs, k, i, a, acc⟩) hi]
      refine ⟨.inl ⟨rfl, rfl⟩, rfl, Opn.wk ⟨rfl, ?_⟩⟩
      rw [show qj (nE acc) (decide (i < k)) = 3 by rw [decide_eq_false hi]; cases nE acc <;> rfl]
      show (qS (nE acc) z12 3 (nb (nE acc)) hh cs acc).opened = (qS (nE acc) z12 3 (match nE acc with | true => 3 + 1 | false => 3) hh cs acc).opened
      cases nE acc <;> rfl
  · unfold qres at hR
    rw [if_neg hx] at hR; cases hR
end Go.Proofs.YtgemonlknehegaaGreatDoor.AI
