/- The chain of TopRefuses, part 46. -/
import Derived.Test.YtgemonlknehegaaGreatDoorK45
namespace Go.Proofs.YtgemonlknehegaaGreatDoor.AI
open Go WB
set_option linter.unusedVariables false
set_option maxRecDepth 100000
noncomputable section
def cP5 : Cfg := cPx.addS 11 13 (lift sp11)
theorem cP5_ok : CfgOk Tryz.prog cP5 := cPx_ok.addS (lift_ok sp11_ok)
def rec5 (m : Nat) : R3 := fun g args sh => match Nat.beq g 9 with
  | true => (match args with | [] => .leaf (.b false true, sh) | _ => .fail)
  | false => se Tryz.prog cP5 m g args sh
def T5 (s : List UInt8) (c : Int) (m : Nat) : DT SV := (seFn Tryz.prog (cP5.lp (m + 60)) (rec5 (m + 60)) 5 [.s true s, .i true .u8 c] .empty).map Prod.fst
end
end Go.Proofs.YtgemonlknehegaaGreatDoor.AI
namespace Go.Proofs.YtgemonlknehegaaGreatDoor.AI
open Go WB
set_option linter.unusedVariables false
set_option maxRecDepth 100000
noncomputable section
def qL (s : List UInt8) : List Rc := oL (oQ s)
def hst (c : Int) : Int := IntKind.wrap .u32 (2000 + IntKind.wrap .u32 c)
def shp (b1 b2 b3 b4 : Bool) : List WB := [bw b1, bw b2, bw b3, bw b4]
def hd9 (s : List UInt8) : List Bool := [short s, decide (s.length < 12), (hdS s).qr, decide (s.length < 40000), okM s, nE (qL s), nE (oA s).2.1, nE (oS s).2.1, nE (oR s).2.1]
def rkL (b : Bool) (k : Nat) : Bool := match b with | true => decide (0 = 0) && decide (k = k) | false => true
def rkM (b1 b2 b3 b4 : Bool) (s : List UInt8) : Bool := decide ((hdS s).id = (hdS s).id) && ((hdS s).qr == (hdS s).qr && ((hdS s).aa == (hdS s).aa && ((hdS s).tc == (hdS s).tc && ((hdS s).rd == (hdS s).rd && ((hdS s).ra == (hdS s).ra && (decide ((hdS s).op = (hdS s).op) && (decide ((hdS s).rc = (hdS s).rc) && (rkL b1 (qL s).length && (rkL b2 (oA s).2.1.length && (rkL b3 (oS s).2.1.length && (rkL b4 (oR s).2.1.length && true)))))))))))
def okc (b1 : Bool) (h : HD) (k : Int) (l : List Rc) : Bool := okH (rh h k false) && (goodL l && (decide (l.length = l.length ∧ l.length < 2000) && (b1 == nE l)))
def rspC (r : List UInt8) : List Bool := [decide (r.length < 40000), okM r, nE (oL (oQ r)), nE (oA r).2.1, nE (oS r).2.1, nE (oR r).2.1]
def frm (c : Int) : Bool := TB.c (TB.and ⟨true || true, decide (hst c = hst c)⟩ (TB.and ⟨false || false, decide ((5000 : Int) = 5000)⟩ ⟨false, true⟩))
def pE (b1 b2 b3 b4 : Bool) (wb : List WB) (c : Bool) : List WB := [n, y, n, n, y, y] ++ (shp b1 b2 b3 b4 ++ (wb ++ ([y, n, y, y, y, bw c, n, n, n, y, n, n, y, y] ++ (shp b1 b2 b3 b4 ++ (wb ++ [y, y, y])))))
def cErr (b1 b2 b3 b4 : Bool) (s : List UInt8) (c : Int) (W : List Bool) (k : Int) (l : List Rc) : List Bool :=
  [decide (600 < Int.ofNat s.length)] ++ (hd9 s ++ (W ++ ([rkM b1 b2 b3 b4 s, decide (hst c = 1000), okc b1 (hdS s) k l] ++ (rspC (rspB (hdS s) k l) ++ (hd9 s ++ (W ++ [rkM b1 b2 b3 b4 s, decide ((hdS (rspB (hdS s) k l)).rc = k), frm c]))))))
def sel (b : Bool) (l : List Rc) : List Rc := match b with | true => l | false => []
def cOp (s : List UInt8) : Bool := !decide ((hdS s).op = 0)
def cQone (s : List UInt8) : Bool := !decide (Int.ofNat (qL s).length = 1)
def d0 (s : List UInt8) : List Bool := [decide (0 < (qL s).length), decide (0 + 0 < (qL s).length)]
def qT1 (s : List UInt8) : Int := Lf.toN (List.headD (List.tail (List.getD (qL s) (0 + 0) [])) (Lf.n 0))
def qC1 (s : List UInt8) : Int := Lf.toN (List.headD (List.tail (List.tail (List.getD (qL s) (0 + 0) []))) (Lf.n 0))
def W7 (s : List UInt8) : List Bool := [cOp s, cQone s, !(hdS s).rd] ++ d0 s ++ [!decide (qC1 s = 1)] ++ d0 s ++ [decide (qT1 s = 0)] ++ d0 s ++ [decide (128 ≤ qT1 s)]
theorem w5_0 (s : List UInt8) (c : Int) (m : Nat) : DT.fol [y] (T5 s c m) = some ([decide (600 < Int.ofNat s.length)], .b false true) := by kernel_rfl
theorem w5_12 (s : List UInt8) (c : Int) (m : Nat) : DT.fol [n, y, y, y, y] (T5 s c m) = some ([decide (600 < Int.ofNat s.length), short s, decide (s.length < 12), short s, decide (s.length < 12)], .b false true) := by kernel_rfl
theorem w5_qr (s : List UInt8) (c : Int) (m : Nat) : DT.fol [n, y, n, y, y, n, y] (T5 s c m) = some ([decide (600 < Int.ofNat s.length), short s, decide (s.length < 12), (hdS s).qr, short s, decide (s.length < 12), (hdS s).qr], .b false true) := by kernel_rfl
theorem w5_F (b : Bool) (s : List UInt8) (c : Int) (m : Nat) : DT.fol [n, y, n, n, y, n, y, n, y, y, y, bw b, n, n, n, y, n, n, y, n, y, y, y] (T5 s c m) = some ([decide (600 < Int.ofNat s.length), short s, decide (s.length < 12), (hdS s).qr, decide (s.length < 40000), okM s, !decide (erM s = 0), decide (hst c = 1000), okc false (hdS s) 1 []] ++ (rspC (rspB (hdS s) 1 []) ++ [short s, decide (s.length < 12), (hdS s).qr, decide (s.length < 40000), okM s, !decide (erM s = 0), decide ((hdS (rspB (hdS s) 1 [])).rc = 1), frm c]), .b false true) := by cases b <;> kernel_rfl
theorem w5_q0 (b2 b3 b4 b : Bool) (s : List UInt8) (c : Int) (m : Nat) : DT.fol (pE false b2 b3 b4 [n] b) (T5 s c m) = some (cErr false b2 b3 b4 s c [cOp s] 1 [], .b false true) := by cases b2 <;> cases b3 <;> cases b4 <;> cases b <;> kernel_rfl
theorem w5_rd (b3 b4 b : Bool) (s : List UInt8) (c : Int) (m : Nat) : DT.fol (pE true false b3 b4 [n, n, y] b) (T5 s c m) = some (cErr true false b3 b4 s c [cOp s, cQone s, !(hdS s).rd] 5 (qL s), .b false true) := by cases b3 <;> cases b4 <;> cases b <;> kernel_rfl
end
end Go.Proofs.YtgemonlknehegaaGreatDoor.AI
