/- The chain of TopRefuses, part 35. -/
import Derived.Test.YtgemonlknehegaaGreatDoorK34
namespace Go.Proofs.YtgemonlknehegaaGreatDoor.AI
open Go
set_option linter.unusedVariables false
set_option linter.unusedSimpArgs false
set_option maxRecDepth 100000
def ixT : AExit → List Nat := fun e => match e with | .ret => [4, 5, 6] | _ => []
def tv (s : List UInt8) (at' frm beh : Int) : List SV := [.s true s, .i true .i64 at', .ptr 0 0, .i true .i64 frm, .i true .i64 beh]
def tE : SH := ⟨[(0, .row 365 [.nil .p, .nil .s] none)], 1⟩
def tL (j nm : Nat) (out : List UInt8) : SH := ⟨[(0, .row 365 [.ptr 0 0, .tsl j 1 0 out.length] none), (j, .bytes 5 out)], nm⟩
/-- a name's parts at a place: its size, its label, where a pointer leads -/
def z8 (s : List UInt8) (a : Int) : Int := ((at8 s (Int.toNat a) : Nat) : Int)
def w8 (s : List UInt8) (a : Int) : Int := IntKind.wrap IntKind.i64 (z8 s a)
def lbl (s : List UInt8) (a : Int) : List UInt8 := sub8 s (a + 1) (w8 s a)
def one (s : List UInt8) (a : Int) : List UInt8 := [UInt8.ofNat (Int.toNat (z8 s a))]
def plc (s : List UInt8) (a : Int) : Int := nat2S nAndNot (IntKind.wrap IntKind.i64 ((u16 s (Int.toNat a) : Nat) : Int)) 49152
theorem wTE_1 (s : List UInt8) (a fr be : Int) (n : Nat) : DT.follow [true, true, true, true] (seL Tryz.prog cM (n + 6) 206 94 (blkL Tryz.f206 0) [0, 1, 7, 8, 9] ixT (tv s a fr be, tE)) = some ([short s, okSome s a 1, decide (63 < (z8 s a)), decide ((z8 s a) < 192)], Turn.ends AExit.ret (SV.tuple [SV.s false [], SV.i false IntKind.i64 0, SV.i false IntKind.i64 2]) { objs := [(0, SO.row 365 [SV.nil NK.p, SV.nil NK.s] none)], nm := 1 }) := by kernel_rfl
theorem wTE_2 (s : List UInt8) (a fr be : Int) (n : Nat) : DT.follow [true, true, true, false, true, true, true, true, true, true] (seL Tryz.prog cM (n + 6) 206 94 (blkL Tryz.f206 0) [0, 1, 7, 8, 9] ixT (tv s a fr be, tE)) = some ([short s, okSome s a 1, decide (63 < (z8 s a)), decide ((z8 s a) < 192), decide (192 ≤ (z8 s a)), short s, okSome s a 2, inB IntKind.i64 (IntKind.wrap IntKind.i64 ((u16 s (Int.toNat a) : Nat) : Int)) && inB IntKind.i64 49152, decide (plc s a < fr), decide (be < 0)], Turn.next [SV.s true s, SV.i true IntKind.i64 (plc s a), SV.ptr 0 0, SV.i true IntKind.i64 (plc s a), SV.i true IntKind.i64 (a + 2)] { objs := [(0, SO.row 365 [SV.nil NK.p, SV.nil NK.s] none)], nm := 1 } [0] { objs := [(0, SO.row 365 [SV.nil NK.p, SV.nil NK.s] none)], nm := 1 }) := by kernel_rfl
theorem wTE_3 (s : List UInt8) (a fr be : Int) (n : Nat) : DT.follow [true, true, true, false, true, true, true, true, true, false] (seL Tryz.prog cM (n + 6) 206 94 (blkL Tryz.f206 0) [0, 1, 7, 8, 9] ixT (tv s a fr be, tE)) = some ([short s, okSome s a 1, decide (63 < (z8 s a)), decide ((z8 s a) < 192), decide (192 ≤ (z8 s a)), short s, okSome s a 2, inB IntKind.i64 (IntKind.wrap IntKind.i64 ((u16 s (Int.toNat a) : Nat) : Int)) && inB IntKind.i64 49152, decide (plc s a < fr), decide (be < 0)], Turn.next [SV.s true s, SV.i true IntKind.i64 (plc s a), SV.ptr 0 0, SV.i true IntKind.i64 (plc s a), SV.i true IntKind.i64 be] { objs := [(0, SO.row 365 [SV.nil NK.p, SV.nil NK.s] none)], nm := 1 } [0] { objs := [(0, SO.row 365 [SV.nil NK.p, SV.nil NK.s] none)], nm := 1 }) := by kernel_rfl
theorem wTE_4 (s : List UInt8) (a fr be : Int) (n : Nat) : DT.follow [true, true, true, false, true, true, true, true, false] (seL Tryz.prog cM (n + 6) 206 94 (blkL Tryz.f206 0) [0, 1, 7, 8, 9] ixT (tv s a fr be, tE)) = some ([short s, okSome s a 1, decide (63 < (z8 s a)), decide ((z8 s a) < 192), decide (192 ≤ (z8 s a)), short s, okSome s a 2, inB IntKind.i64 (IntKind.wrap IntKind.i64 ((u16 s (Int.toNat a) : Nat) : Int)) && inB IntKind.i64 49152, decide (plc s a < fr)], Turn.ends AExit.ret (SV.tuple [SV.s false [], SV.i false IntKind.i64 0, SV.i false IntKind.i64 2]) { objs := [(0, SO.row 365 [SV.nil NK.p, SV.nil NK.s] none)], nm := 1 }) := by kernel_rfl
theorem wTE_5 (s : List UInt8) (a fr be : Int) (n : Nat) : DT.follow [true, true, true, false, true, true, false] (seL Tryz.prog cM (n + 6) 206 94 (blkL Tryz.f206 0) [0, 1, 7, 8, 9] ixT (tv s a fr be, tE)) = some ([short s, okSome s a 1, decide (63 < (z8 s a)), decide ((z8 s a) < 192), decide (192 ≤ (z8 s a)), short s, okSome s a 2], Turn.ends AExit.ret (SV.tuple [SV.s false [], SV.i false IntKind.i64 0, SV.i false IntKind.i64 2]) { objs := [(0, SO.row 365 [SV.nil NK.p, SV.nil NK.s] none)], nm := 1 }) := by kernel_rfl
theorem wTE_32 (s : List UInt8) (a fr be : Int) (n : Nat) : DT.follow [true, true, false, false, true, true, false, true, true, true, true, true, true, false, true, true, true] (seL Tryz.prog cM (n + 6) 206 94 (blkL Tryz.f206 0) [0, 1, 7, 8, 9] ixT (tv s a fr be, tE)) = some ([short s, okSome s a 1, decide (63 < (z8 s a)), decide (192 ≤ (z8 s a)), short s, okSome s (a + 1) (w8 s a), decide (255 < IntKind.wrap IntKind.i64 (Int.ofNat (Nat.succ 0) + Int.ofNat (List.length (lbl s a)))), inB IntKind.u8 (z8 s a) && true, decide (List.length (lbl s a) < 100000), decide (List.length (one s a) < 1048576), decide (List.length (fold (lbl s a)) < 1048576), decide (0 = 0 ∧ List.length (one s a) = List.length (one s a)), decide (fold (lbl s a) = []), decide (0 < (z8 s a)), decide (be < 0), decide (0 < List.length (one s a)), nn (Int.ofNat (List.length (one s a))) && decide (Int.toNat (Int.ofNat (List.length (one s a))) < 1048576) && decide (0 < Int.toNat (Int.ofNat (List.length (one s a)))) && decide (0 + Int.toNat (Int.ofNat (List.length (one s a))) ≤ List.length (one s a))], Turn.ends AExit.ret (SV.tuple [SV.s true (List.take (Int.toNat (Int.ofNat (List.length (one s a)))) (List.drop 0 (one s a))), SV.i true IntKind.i64 (a + 1 + w8 s a), SV.i false IntKind.i64 0]) { objs := [(0, SO.row 365 [SV.ptr 0 0, SV.tsl 1 1 0 1] none)], nm := 2 }) := by kernel_rfl
theorem wTE_33 (s : List UInt8) (a fr be : Int) (n : Nat) : DT.follow [true, true, false, false, true, true, false, true, true, true, true, true, true, false, false, true, true] (seL Tryz.prog cM (n + 6) 206 94 (blkL Tryz.f206 0) [0, 1, 7, 8, 9] ixT (tv s a fr be, tE)) = some ([short s, okSome s a 1, decide (63 < (z8 s a)), decide (192 ≤ (z8 s a)), short s, okSome s (a + 1) (w8 s a), decide (255 < IntKind.wrap IntKind.i64 (Int.ofNat (Nat.succ 0) + Int.ofNat (List.length (lbl s a)))), inB IntKind.u8 (z8 s a) && true, decide (List.length (lbl s a) < 100000), decide (List.length (one s a) < 1048576), decide (List.length (fold (lbl s a)) < 1048576), decide (0 = 0 ∧ List.length (one s a) = List.length (one s a)), decide (fold (lbl s a) = []), decide (0 < (z8 s a)), decide (be < 0), decide (0 < List.length (one s a)), nn (Int.ofNat (List.length (one s a))) && decide (Int.toNat (Int.ofNat (List.length (one s a))) < 1048576) && decide (0 < Int.toNat (Int.ofNat (List.length (one s a)))) && decide (0 + Int.toNat (Int.ofNat (List.length (one s a))) ≤ List.length (one s a))], Turn.ends AExit.ret (SV.tuple [SV.s true (List.take (Int.toNat (Int.ofNat (List.length (one s a)))) (List.drop 0 (one s a))), SV.i true IntKind.i64 be, SV.i false IntKind.i64 0]) { objs := [(0, SO.row 365 [SV.ptr 0 0, SV.tsl 1 1 0 1] none)], nm := 2 }) := by kernel_rfl
theorem wTE_34 (s : List UInt8) (a fr be : Int) (n : Nat) : DT.follow [true, true, false, false, true, true, false, true, true, true, true, true, false, true] (seL Tryz.prog cM (n + 6) 206 94 (blkL Tryz.f206 0) [0, 1, 7, 8, 9] ixT (tv s a fr be, tE)) = some ([short s, okSome s a 1, decide (63 < (z8 s a)), decide (192 ≤ (z8 s a)), short s, okSome s (a + 1) (w8 s a), decide (255 < IntKind.wrap IntKind.i64 (Int.ofNat (Nat.succ 0) + Int.ofNat (List.length (lbl s a)))), inB IntKind.u8 (z8 s a) && true, decide (List.length (lbl s a) < 100000), decide (List.length (one s a) < 1048576), decide (List.length (fold (lbl s a)) < 1048576), decide (0 = 0 ∧ List.length (one s a) = List.length (one s a)), decide (fold (lbl s a) = []), decide (0 < (z8 s a))], Turn.next [SV.s true s, SV.i true IntKind.i64 (a + 1 + w8 s a), SV.ptr 0 0, SV.i true IntKind.i64 fr, SV.i true IntKind.i64 be] { objs := [(0, SO.row 365 [SV.ptr 0 0, SV.tsl 1 1 0 (List.length ((one s a) ++ fold (lbl s a)))] none), (1, SO.bytes 5 ((one s a) ++ fold (lbl s a)))], nm := 2 } [0, 3] { objs := [(3, SO.bytes 5 ((one s a) ++ fold (lbl s a))), (1, SO.row 5 [SV.i true IntKind.u8 (z8 s a)] none), (0, SO.row 365 [SV.ptr 0 0, SV.tsl 3 1 0 (List.length ((one s a) ++ fold (lbl s a)))] none)], nm := 4 }) := by kernel_rfl
theorem wTE_37 (s : List UInt8) (a fr be : Int) (n : Nat) : DT.follow [true, true, false, false, true, false] (seL Tryz.prog cM (n + 6) 206 94 (blkL Tryz.f206 0) [0, 1, 7, 8, 9] ixT (tv s a fr be, tE)) = some ([short s, okSome s a 1, decide (63 < (z8 s a)), decide (192 ≤ (z8 s a)), short s, okSome s (a + 1) (w8 s a)], Turn.ends AExit.ret (SV.tuple [SV.s false [], SV.i false IntKind.i64 0, SV.i false IntKind.i64 2]) { objs := [(0, SO.row 365 [SV.nil NK.p, SV.nil NK.s] none)], nm := 1 }) := by kernel_rfl
theorem wTE_38 (s : List UInt8) (a fr be : Int) (n : Nat) : DT.follow [true, false] (seL Tryz.prog cM (n + 6) 206 94 (blkL Tryz.f206 0) [0, 1, 7, 8, 9] ixT (tv s a fr be, tE)) = some ([short s, okSome s a 1], Turn.ends AExit.ret (SV.tuple [SV.s false [], SV.i false IntKind.i64 0, SV.i false IntKind.i64 2]) { objs := [(0, SO.row 365 [SV.nil NK.p, SV.nil NK.s] none)], nm := 1 }) := by kernel_rfl
theorem wTL_1 (s : List UInt8) (a fr be : Int) (out : List UInt8) (n : Nat) : DT.follow [true, true, true, true] (seL Tryz.prog cM (n + 6) 206 94 (blkL Tryz.f206 0) [0, 1, 7, 8, 9] ixT (tv s a fr be, tL 1 2 out)) = some ([short s, okSome s a 1, decide (63 < (z8 s a)), decide ((z8 s a) < 192)], Turn.ends AExit.ret (SV.tuple [SV.s false [], SV.i false IntKind.i64 0, SV.i false IntKind.i64 2]) { objs := [(0, SO.row 365 [SV.ptr 0 0, SV.tsl 1 1 0 (List.length out)] none), (1, SO.bytes 5 out)], nm := 2 }) := by kernel_rfl
theorem wTL_2 (s : List UInt8) (a fr be : Int) (out : List UInt8) (n : Nat) : DT.follow [true, true, true, false, true, true, true, true, true, true] (seL Tryz.prog cM (n + 6) 206 94 (blkL Tryz.f206 0) [0, 1, 7, 8, 9] ixT (tv s a fr be, tL 1 2 out)) = some ([short s, okSome s a 1, decide (63 < (z8 s a)), decide ((z8 s a) < 192), decide (192 ≤ (z8 s a)), short s, okSome s a 2, inB IntKind.i64 (IntKind.wrap IntKind.i64 ((u16 s (Int.toNat a) : Nat) : Int)) && inB IntKind.i64 49152, decide (plc s a < fr), decide (be < 0)], Turn.next [SV.s true s, SV.i true IntKind.i64 (plc s a), SV.ptr 0 0, SV.i true IntKind.i64 (plc s a), SV.i true IntKind.i64 (a + 2)] { objs := [(0, SO.row 365 [SV.ptr 0 0, SV.tsl 1 1 0 (List.length out)] none), (1, SO.bytes 5 out)], nm := 2 } [0, 1] { objs := [(0, SO.row 365 [SV.ptr 0 0, SV.tsl 1 1 0 (List.length out)] none), (1, SO.bytes 5 out)], nm := 2 }) := by kernel_rfl
theorem wTL_3 (s : List UInt8) (a fr be : Int) (out : List UInt8) (n : Nat) : DT.follow [true, true, true, false, true, true, true, true, true, false] (seL Tryz.prog cM (n + 6) 206 94 (blkL Tryz.f206 0) [0, 1, 7, 8, 9] ixT (tv s a fr be, tL 1 2 out)) = some ([short s, okSome s a 1, decide (63 < (z8 s a)), decide ((z8 s a) < 192), decide (192 ≤ (z8 s a)), short s, okSome s a 2, inB IntKind.i64 (IntKind.wrap IntKind.i64 ((u16 s (Int.toNat a) : Nat) : Int)) && inB IntKind.i64 49152, decide (plc s a < fr), decide (be < 0)], Turn.next [SV.s true s, SV.i true IntKind.i64 (plc s a), SV.ptr 0 0, SV.i true IntKind.i64 (plc s a), SV.i true IntKind.i64 be] { objs := [(0, SO.row 365 [SV.ptr 0 0, SV.tsl 1 1 0 (List.length out)] none), (1, SO.bytes 5 out)], nm := 2 } [0, 1] { objs := [(0, SO.row 365 [SV.ptr 0 0, SV.tsl 1 1 0 (List.length out)] none), (1, SO.bytes 5 out)], nm := 2 }) := by kernel_rfl
theorem wTL_4 (s : List UInt8) (a fr be : Int) (out : List UInt8) (n : Nat) : DT.follow [true, true, true, false, true, true, true, true, false] (seL Tryz.prog cM (n + 6) 206 94 (blkL Tryz.f206 0) [0, 1, 7, 8, 9] ixT (tv s a fr be, tL 1 2 out)) = some ([short s, okSome s a 1, decide (63 < (z8 s a)), decide ((z8 s a) < 192), decide (192 ≤ (z8 s a)), short s, okSome s a 2, inB IntKind.i64 (IntKind.wrap IntKind.i64 ((u16 s (Int.toNat a) : Nat) : Int)) && inB IntKind.i64 49152, decide (plc s a < fr)], Turn.ends AExit.ret (SV.tuple [SV.s false [], SV.i false IntKind.i64 0, SV.i false IntKind.i64 2]) { objs := [(0, SO.row 365 [SV.ptr 0 0, SV.tsl 1 1 0 (List.length out)] none), (1, SO.bytes 5 out)], nm := 2 }) := by kernel_rfl
theorem wTL_5 (s : List UInt8) (a fr be : Int) (out : List UInt8) (n : Nat) : DT.follow [true, true, true, false, true, true, false] (seL Tryz.prog cM (n + 6) 206 94 (blkL Tryz.f206 0) [0, 1, 7, 8, 9] ixT (tv s a fr be, tL 1 2 out)) = some ([short s, okSome s a 1, decide (63 < (z8 s a)), decide ((z8 s a) < 192), decide (192 ≤ (z8 s a)), short s, okSome s a 2], Turn.ends AExit.ret (SV.tuple [SV.s false [], SV.i false IntKind.i64 0, SV.i false IntKind.i64 2]) { objs := [(0, SO.row 365 [SV.ptr 0 0, SV.tsl 1 1 0 (List.length out)] none), (1, SO.bytes 5 out)], nm := 2 }) := by kernel_rfl
theorem wTL_24 (s : List UInt8) (a fr be : Int) (out : List UInt8) (n : Nat) : DT.follow [true, true, false, false, true, true, true] (seL Tryz.prog cM (n + 6) 206 94 (blkL Tryz.f206 0) [0, 1, 7, 8, 9] ixT (tv s a fr be, tL 1 2 out)) = some ([short s, okSome s a 1, decide (63 < (z8 s a)), decide (192 ≤ (z8 s a)), short s, okSome s (a + 1) (w8 s a), decide (255 < IntKind.wrap IntKind.i64 (IntKind.wrap IntKind.i64 (Int.ofNat (List.length out) + 1) + Int.ofNat (List.length (lbl s a))))], Turn.ends AExit.ret (SV.tuple [SV.s false [], SV.i false IntKind.i64 0, SV.i false IntKind.i64 2]) { objs := [(0, SO.row 365 [SV.ptr 0 0, SV.tsl 1 1 0 (List.length out)] none), (1, SO.bytes 5 out)], nm := 2 }) := by kernel_rfl
theorem wTL_32 (s : List UInt8) (a fr be : Int) (out : List UInt8) (n : Nat) : DT.follow [true, true, false, false, true, true, false, true, true, true, true, true, true, true, true, false, true, true, true] (seL Tryz.prog cM (n + 6) 206 94 (blkL Tryz.f206 0) [0, 1, 7, 8, 9] ixT (tv s a fr be, tL 1 2 out)) = some ([short s, okSome s a 1, decide (63 < (z8 s a)), decide (192 ≤ (z8 s a)), short s, okSome s (a + 1) (w8 s a), decide (255 < IntKind.wrap IntKind.i64 (IntKind.wrap IntKind.i64 (Int.ofNat (List.length out) + 1) + Int.ofNat (List.length (lbl s a)))), decide (List.length out < 1048576), inB IntKind.u8 (z8 s a) && true, decide (0 = 0 ∧ List.length out = List.length out), decide (List.length (lbl s a) < 100000), decide (List.length (out ++ (one s a)) < 1048576), decide (List.length (fold (lbl s a)) < 1048576), decide (0 = 0 ∧ List.length (out ++ (one s a)) = List.length (out ++ (one s a))), decide (fold (lbl s a) = []), decide (0 < (z8 s a)), decide (be < 0), decide (0 < List.length (out ++ (one s a))), nn (Int.ofNat (List.length (out ++ (one s a)))) && decide (Int.toNat (Int.ofNat (List.length (out ++ (one s a)))) < 1048576) && decide (0 < Int.toNat (Int.ofNat (List.length (out ++ (one s a))))) && decide (0 + Int.toNat (Int.ofNat (List.length (out ++ (one s a)))) ≤ List.length (out ++ (one s a)))], Turn.ends AExit.ret (SV.tuple [SV.s true (List.take (Int.toNat (Int.ofNat (List.length (out ++ (one s a))))) (List.drop 0 (out ++ (one s a)))), SV.i true IntKind.i64 (a + 1 + w8 s a), SV.i false IntKind.i64 0]) { objs := [(0, SO.row 365 [SV.ptr 0 0, SV.tsl 2 1 0 (List.length (out ++ (one s a)))] none)], nm := 3 }) := by kernel_rfl
theorem wTL_33 (s : List UInt8) (a fr be : Int) (out : List UInt8) (n : Nat) : DT.follow [true, true, false, false, true, true, false, true, true, true, true, true, true, true, true, false, false, true, true] (seL Tryz.prog cM (n + 6) 206 94 (blkL Tryz.f206 0) [0, 1, 7, 8, 9] ixT (tv s a fr be, tL 1 2 out)) = some ([short s, okSome s a 1, decide (63 < (z8 s a)), decide (192 ≤ (z8 s a)), short s, okSome s (a + 1) (w8 s a), decide (255 < IntKind.wrap IntKind.i64 (IntKind.wrap IntKind.i64 (Int.ofNat (List.length out) + 1) + Int.ofNat (List.length (lbl s a)))), decide (List.length out < 1048576), inB IntKind.u8 (z8 s a) && true, decide (0 = 0 ∧ List.length out = List.length out), decide (List.length (lbl s a) < 100000), decide (List.length (out ++ (one s a)) < 1048576), decide (List.length (fold (lbl s a)) < 1048576), decide (0 = 0 ∧ List.length (out ++ (one s a)) = List.length (out ++ (one s a))), decide (fold (lbl s a) = []), decide (0 < (z8 s a)), decide (be < 0), decide (0 < List.length (out ++ (one s a))), nn (Int.ofNat (List.length (out ++ (one s a)))) && decide (Int.toNat (Int.ofNat (List.length (out ++ (one s a)))) < 1048576) && decide (0 < Int.toNat (Int.ofNat (List.length (out ++ (one s a))))) && decide (0 + Int.toNat (Int.ofNat (List.length (out ++ (one s a)))) ≤ List.length (out ++ (one s a)))], Turn.ends AExit.ret (SV.tuple [SV.s true (List.take (Int.toNat (Int.ofNat (List.length (out ++ (one s a))))) (List.drop 0 (out ++ (one s a)))), SV.i true IntKind.i64 be, SV.i false IntKind.i64 0]) { objs := [(0, SO.row 365 [SV.ptr 0 0, SV.tsl 2 1 0 (List.length (out ++ (one s a)))] none)], nm := 3 }) := by kernel_rfl
theorem wTL_34 (s : List UInt8) (a fr be : Int) (out : List UInt8) (n : Nat) : DT.follow [true, true, false, false, true, true, false, true, true, true, true, true, true, true, false, true] (seL Tryz.prog cM (n + 6) 206 94 (blkL Tryz.f206 0) [0, 1, 7, 8, 9] ixT (tv s a fr be, tL 1 2 out)) = some ([short s, okSome s a 1, decide (63 < (z8 s a)), decide (192 ≤ (z8 s a)), short s, okSome s (a + 1) (w8 s a), decide (255 < IntKind.wrap IntKind.i64 (IntKind.wrap IntKind.i64 (Int.ofNat (List.length out) + 1) + Int.ofNat (List.length (lbl s a)))), decide (List.length out < 1048576), inB IntKind.u8 (z8 s a) && true, decide (0 = 0 ∧ List.length out = List.length out), decide (List.length (lbl s a) < 100000), decide (List.length (out ++ (one s a)) < 1048576), decide (List.length (fold (lbl s a)) < 1048576), decide (0 = 0 ∧ List.length (out ++ (one s a)) = List.length (out ++ (one s a))), decide (fold (lbl s a) = []), decide (0 < (z8 s a))], Turn.next [SV.s true s, SV.i true IntKind.i64 (a + 1 + w8 s a), SV.ptr 0 0, SV.i true IntKind.i64 fr, SV.i true IntKind.i64 be] { objs := [(0, SO.row 365 [SV.ptr 0 0, SV.tsl 1 1 0 (List.length (out ++ (one s a) ++ fold (lbl s a)))] none), (1, SO.bytes 5 (out ++ (one s a) ++ fold (lbl s a)))], nm := 2 } [0, 4] { objs := [(4, SO.bytes 5 (out ++ (one s a) ++ fold (lbl s a))), (2, SO.row 5 [SV.i true IntKind.u8 (z8 s a)] none), (0, SO.row 365 [SV.ptr 0 0, SV.tsl 4 1 0 (List.length (out ++ (one s a) ++ fold (lbl s a)))] none)], nm := 5 }) := by kernel_rfl
theorem wTL_37 (s : List UInt8) (a fr be : Int) (out : List UInt8) (n : Nat) : DT.follow [true, true, false, false, true, false] (seL Tryz.prog cM (n + 6) 206 94 (blkL Tryz.f206 0) [0, 1, 7, 8, 9] ixT (tv s a fr be, tL 1 2 out)) = some ([short s, okSome s a 1, decide (63 < (z8 s a)), decide (192 ≤ (z8 s a)), short s, okSome s (a + 1) (w8 s a)], Turn.ends AExit.ret (SV.tuple [SV.s false [], SV.i false IntKind.i64 0, SV.i false IntKind.i64 2]) { objs := [(0, SO.row 365 [SV.ptr 0 0, SV.tsl 1 1 0 (List.length out)] none), (1, SO.bytes 5 out)], nm := 2 }) := by kernel_rfl
theorem wTL_38 (s : List UInt8) (a fr be : Int) (out : List UInt8) (n : Nat) : DT.follow [true, false] (seL Tryz.prog cM (n + 6) 206 94 (blkL Tryz.f206 0) [0, 1, 7, 8, 9] ixT (tv s a fr be, tL 1 2 out)) = some ([short s, okSome s a 1], Turn.ends AExit.ret (SV.tuple [SV.s false [], SV.i false IntKind.i64 0, SV.i false IntKind.i64 2]) { objs := [(0, SO.row 365 [SV.ptr 0 0, SV.tsl 1 1 0 (List.length out)] none), (1, SO.bytes 5 out)], nm := 2 }) := by kernel_rfl
structure TS where
  a : Int
  fr : Int
  be : Int
  out : List UInt8
inductive TStep where
  | err
  | more (x : TS)
  | done (n : List UInt8) (b : Int)
/-- one part of a name -/
def tstep (s : List UInt8) (x : TS) : TStep :=
  match okSome s x.a 1 with
  | false => .err
  | true => match decide (63 < z8 s x.a), decide (z8 s x.a < 192) with
    | true, true => .err
    | true, false => (match okSome s x.a 2 with
      | true => (match decide (plc s x.a < x.fr) with
        | true => .more ⟨plc s x.a, plc s x.a, (match decide (x.be < 0) with | true => x.a + 2 | false => x.be), x.out⟩
        | false => .err)
      | false => .err)
    | false, _ => (match okSome s (x.a + 1) (w8 s x.a) with
      | false => .err
      | true => (match decide (255 < x.out.length + 1 + (lbl s x.a).length) with
        | true => .err
        | false => (match decide (0 < z8 s x.a) with
          | true => .more ⟨x.a + 1 + w8 s x.a, x.fr, x.be, x.out ++ one s x.a ++ fold (lbl s x.a)⟩
          | false => .done (x.out ++ one s x.a) (match decide (x.be < 0) with | true => x.a + 1 + w8 s x.a | false => x.be))))
def tk : Nat → List UInt8 → TS → Option (List UInt8 × Int)
  | 0, _, _ => none
  | n + 1, s, x => match tstep s x with
    | .err => none
    | .more y => tk n s y
    | .done n b => some (n, b)
def tmu (x : TS) : Nat := x.fr.toNat + (256 - x.out.length)
theorem z8_lt (s : List UInt8) (a : Int) : 0 ≤ z8 s a ∧ z8 s a < 256 := by
  have := at8_lt s a.toNat
  unfold z8; omega
theorem w8_eq (s : List UInt8) (a : Int) : w8 s a = z8 s a := by
  have := z8_lt s a
  unfold w8; rw [wrap64 (by omega) (by omega)]
theorem lbl_length {s : List UInt8} {a : Int} (h : okSome s (a + 1) (w8 s a) = true) : (lbl s a).length = (z8 s a).toNat := by
  unfold lbl; rw [sub8_length h, w8_eq]
theorem plc_nn (s : List UInt8) (a : Int) : 0 ≤ plc s a := Int.natCast_nonneg _
theorem tstep_mu {s : List UInt8} {x y : TS} (hx : x.out.length ≤ 255) (h : tstep s x = .more y) : tmu y < tmu x ∧ y.out.length ≤ 255 := by
  unfold tstep at h
  split at h
  · cases h
  · split at h
    · cases h
    · split at h
      · split at h
        · rename_i hp
          cases h
          have := plc_nn s x.a
          have := of_decide_eq_true hp
          refine ⟨?_, hx⟩
          show (plc s x.a).toNat + (256 - x.out.length) < x.fr.toNat + (256 - x.out.length)
          omega
        · cases h
      · cases h
    · split at h
      · cases h
      · split at h
        · cases h
        · split at h
          · rename_i hk _ hl _ hz
            cases h
            have h1 := of_decide_eq_false hl
            have hf : (fold (lbl s x.a)).length = (lbl s x.a).length := fold_length _
            have hlen : (x.out ++ one s x.a ++ fold (lbl s x.a)).length = x.out.length + 1 + (lbl s x.a).length := by
              rw [List.length_append, List.length_append, hf]; rfl
            refine ⟨?_, by show (x.out ++ one s x.a ++ fold (lbl s x.a)).length ≤ 255; omega⟩
            show x.fr.toNat + (256 - (x.out ++ one s x.a ++ fold (lbl s x.a)).length) < x.fr.toNat + (256 - x.out.length)
            omega
          · cases h
theorem tk_fuel {s : List UInt8} : ∀ (n m : Nat) (x : TS), x.out.length ≤ 255 → tmu x < n → tmu x < m → tk n s x = tk m s x
  | 0, _, _, _, h, _ => by omega
  | _ + 1, 0, _, _, _, h => by omega
  | n + 1, m + 1, x, hx, h1, h2 => by
    show (match tstep s x with | .err => none | .more y => tk n s y | .done n b => some (n, b)) = match tstep s x with | .err => none | .more y => tk m s y | .done n b => some (n, b)
    cases h : tstep s x with
    | err => rfl
    | done n b => rfl
    | more y =>
      obtain ⟨a, b⟩ := tstep_mu hx h
      exact tk_fuel n m y b (by omega) (by omega)
/-- the name that stands somewhere, and what is behind it -/
def tkF (s : List UInt8) (x : TS) : Option (List UInt8 × Int) := tk (tmu x + 1) s x
theorem tkF_step {s : List UInt8} {x : TS} (hx : x.out.length ≤ 255) : tkF s x = match tstep s x with | .err => none | .more y => tkF s y | .done n b => some (n, b) := by
  show (match tstep s x with | .err => none | .more y => tk (tmu x) s y | .done n b => some (n, b)) = _
  cases h : tstep s x with
  | err => rfl
  | done n b => rfl
  | more y =>
    obtain ⟨a, b⟩ := tstep_mu hx h
    exact tk_fuel _ _ y b (by omega) (by omega)
def tR (o : Option (List UInt8 × Int)) : LR :=
  match o with
  | some r => ⟨.ret, [4, 5, 6], [.s true r.1, .i true .i64 r.2, .i false .i64 0], ⟨[], 3⟩⟩
  | none => ⟨.ret, [4, 5, 6], [.s false [], .i false .i64 0, .i false .i64 2], ⟨[], 3⟩⟩
structure XT where
  s : List UInt8
  x : TS
def tinv (x : XT) : List SV × SH := (tv x.s x.x.a x.x.fr x.x.be, match x.x.out with | [] => tE | c :: l => tL 1 2 (c :: l))
noncomputable def tres (x : XT) : Option LR := if short x.s = true ∧ x.x.out.length ≤ 255 then some (tR (tkF x.s x.x)) else none
theorem combT1 (o : Option (List UInt8 × Int)) (A : SO) : ∃ v, comb 1 [0] ⟨[(0, A)], 1⟩ (tR o) = some (v, ⟨[], 1⟩) ∧ v = .tuple (tR o).v := by
  cases o with
  | none => exact ⟨_, by kernel_rfl, rfl⟩
  | some r => exact ⟨.tuple [.s true r.1, .i true .i64 r.2, .i false .i64 0], by kernel_rfl, rfl⟩
theorem combT2 (o : Option (List UInt8 × Int)) (A B C : SO) : ∃ v, comb 1 [0, 3] ⟨[(3, A), (1, B), (0, C)], 4⟩ (tR o) = some (v, ⟨[], 1⟩) ∧ v = .tuple (tR o).v := by
  cases o with
  | none => exact ⟨.tuple [.s false [], .i false .i64 0, .i false .i64 2], by kernel_rfl, rfl⟩
  | some r => exact ⟨.tuple [.s true r.1, .i true .i64 r.2, .i false .i64 0], by kernel_rfl, rfl⟩
theorem combT3 (o : Option (List UInt8 × Int)) (A B : SO) : ∃ v, comb 2 [0, 1] ⟨[(0, A), (1, B)], 2⟩ (tR o) = some (v, ⟨[], 2⟩) ∧ v = .tuple (tR o).v := by
  cases o with
  | none => exact ⟨.tuple [.s false [], .i false .i64 0, .i false .i64 2], by kernel_rfl, rfl⟩
  | some r => exact ⟨.tuple [.s true r.1, .i true .i64 r.2, .i false .i64 0], by kernel_rfl, rfl⟩
theorem combT4 (o : Option (List UInt8 × Int)) (A B C : SO) : ∃ v, comb 2 [0, 4] ⟨[(4, A), (2, B), (0, C)], 5⟩ (tR o) = some (v, ⟨[], 2⟩) ∧ v = .tuple (tR o).v := by
  cases o with
  | none => exact ⟨.tuple [.s false [], .i false .i64 0, .i false .i64 2], by kernel_rfl, rfl⟩
  | some r => exact ⟨.tuple [.s true r.1, .i true .i64 r.2, .i false .i64 0], by kernel_rfl, rfl⟩
theorem pcond (s : List UInt8) (a : Int) : (inB IntKind.i64 (IntKind.wrap IntKind.i64 ((u16 s (Int.toNat a) : Nat) : Int)) && inB IntKind.i64 49152) = true := by
  have h1 := at8_lt s a.toNat
  have h2 := at8_lt s (a.toNat + 1)
  have h3 : u16 s a.toNat < 65536 := by unfold u16; omega
  rw [wrap64 (by omega) (by omega), Bool.and_eq_true]
  have e : (bnd .i64 : Int) = 9223372036854775808 := rfl
  exact ⟨decide_eq_true ⟨by omega, by rw [e]; omega⟩, decide_eq_true ⟨by omega, by rw [e]; omega⟩⟩
theorem wkT {x : SV} {R : LR} {sh : SH} (hv : x = .tuple R.v) (hh : R.h = ⟨[], 3⟩) (hn : sh.nm ≤ 3) : Wk (x, sh) (.tuple R.v, R.h) := by
  refine ⟨by rw [hv], by rw [hh]; exact hn, fun y o ho => ?_⟩
  rw [hh] at ho; cases ho
theorem tR_h (o : Option (List UInt8 × Int)) : (tR o).h = ⟨[], 3⟩ := by cases o <;> rfl
theorem tR_e (o : Option (List UInt8 × Int)) : (tR o).e = .ret ∧ (tR o).ix = [4, 5, 6] := by cases o <;> exact ⟨rfl, rfl⟩
theorem tres_of {s : List UInt8} {x : TS} (h1 : short s = true) (h2 : x.out.length ≤ 255) : tres ⟨s, x⟩ = some (tR (tkF s x)) := if_pos ⟨h1, h2⟩
/-- all that is asked of a turn that goes on -/
theorem tnext {s : List UInt8} {x y : TS} {w : List SV} {sw h0 : SH} {th : List Nat} (h1 : short s = true) (hx : x.out.length ≤ 255) (hst : tstep s x = .more y) (ew : openL w = openL (tinv ⟨s, y⟩).1) (es : sw.opened = (tinv ⟨s, y⟩).2.opened)
    (hc : ∀ o, ∃ v q, comb (tinv ⟨s, x⟩).2.nm th h0 (tR o) = some (v, q) ∧ v = .tuple (tR o).v ∧ q.nm ≤ 3) : TurnOk 0 ixT tinv tres (fun z => tmu z.x) ⟨s, x⟩ (tR (tkF s x)) (.next w sw th h0) := by
  obtain ⟨a, b⟩ := tstep_mu hx hst
  obtain ⟨v, q, c1, c2, c3⟩ := hc (tkF s y)
  refine ⟨⟨s, y⟩, tR (tkF s y), ew, es, a, tres_of h1 b, ?_, ?_, (v, q), c1, ?_⟩
  · rw [(tR_e _).1, (tR_e _).1]
  · rw [(tR_e _).2, (tR_e _).2]
  · have e : tkF s x = tkF s y := by rw [tkF_step hx, hst]
    rw [e]
    exact wkT c2 (tR_h _) c3
theorem tends {s : List UInt8} {x : TS} {v : SV} {sh : SH} {o : Option (List UInt8 × Int)} (ho : tkF s x = o) (hv : v.opened = (SV.tuple (tR o).v).opened) (hn : sh.nm ≤ 3) : TurnOk 0 ixT tinv tres (fun z => tmu z.x) ⟨s, x⟩ (tR (tkF s x)) (.ends .ret v sh) := by
  rw [ho]
  refine ⟨.inr ⟨rfl, (tR_e _).1⟩, (tR_e _).2, hv, by rw [tR_h]; exact hn, fun y o ho => ?_⟩
  rw [tR_h] at ho; cases ho
theorem turnTE (s : List UInt8) (a fr be : Int) (n : Nat) (hs : short s = true) (hx : (TS.mk a fr be []).out.length ≤ 255) : ∃ t, (seL Tryz.prog cM (n + 6) 206 94 (blkL Tryz.f206 0) [0, 1, 7, 8, 9] ixT (tinv ⟨s, ⟨a, fr, be, []⟩⟩)).val = some t ∧ TurnOk 0 ixT tinv tres (fun z => tmu z.x) ⟨s, ⟨a, fr, be, []⟩⟩ (tR (tkF s ⟨a, fr, be, []⟩)) t := by
  have hz := z8_lt s a
  cases h1 : okSome s a 1 with
  | false => exact ⟨_, follow_val (wTE_38 s a fr be n) (by rw [hs, h1]), tends (o := none) (by rw [tkF_step hx]; unfold tstep; simp only [h1]) rfl (by decide)⟩
  | true => cases h2 : decide (63 < z8 s a) with
    | true => cases h3 : decide (z8 s a < 192) with
      | true => exact ⟨_, follow_val (wTE_1 s a fr be n) (by rw [hs, h1, h2, h3]), tends (o := none) (by rw [tkF_step hx]; unfold tstep; simp only [h1, h2, h3]) rfl (by decide)⟩
      | false =>
        have h7 : decide (192 ≤ z8 s a) = true := decide_eq_true (by have := of_decide_eq_false h3; omega)
        cases h4 : okSome s a 2 with
        | false => exact ⟨_, follow_val (wTE_5 s a fr be n) (by rw [hs, h1, h2, h3, h7, h4]), tends (o := none) (by rw [tkF_step hx]; unfold tstep; simp only [h1, h2, h3, h4]) rfl (by decide)⟩
        | true => cases h5 : decide (plc s a < fr) with
          | false => exact ⟨_, follow_val (wTE_4 s a fr be n) (by rw [hs, h1, h2, h3, h7, h4, pcond, h5]), tends (o := none) (by rw [tkF_step hx]; unfold tstep; simp only [h1, h2, h3, h4, h5]) rfl (by decide)⟩
          | true => cases h6 : decide (be < 0) with
            | true => exact ⟨_, follow_val (wTE_2 s a fr be n) (by rw [hs, h1, h2, h3, h7, h4, pcond, h5, h6]), tnext (y := ⟨plc s a, plc s a, a + 2, []⟩) hs hx (by unfold tstep; simp only [h1, h2, h3, h4, h5, h6]) rfl rfl (fun o => by
            obtain ⟨v, k1, k2⟩ := combT1 o _
            exact ⟨v, _, k1, k2, by decide⟩)⟩
            | false => exact ⟨_, follow_val (wTE_3 s a fr be n) (by rw [hs, h1, h2, h3, h7, h4, pcond, h5, h6]), tnext (y := ⟨plc s a, plc s a, be, []⟩) hs hx (by unfold tstep; simp only [h1, h2, h3, h4, h5, h6]) rfl rfl (fun o => by
            obtain ⟨v, k1, k2⟩ := combT1 o _
            exact ⟨v, _, k1, k2, by decide⟩)⟩
    | false =>
      have h7 : decide (192 ≤ z8 s a) = false := decide_eq_false (by have := of_decide_eq_false h2; omega)
      cases h4 : okSome s (a + 1) (w8 s a) with
      | false => exact ⟨_, follow_val (wTE_37 s a fr be n) (by rw [hs, h1, h2, h7, h4]), tends (o := none) (by rw [tkF_step hx]; unfold tstep; simp only [h1, h2, h4]) rfl (by decide)⟩
      | true =>
        have hl := lbl_length h4
        have hz2 := of_decide_eq_false h2
        have hfl : (fold (lbl s a)).length = (lbl s a).length := fold_length _
        have f2 : (inB IntKind.u8 (z8 s a) && true) = true := by
          rw [Bool.and_true]; exact decide_eq_true ⟨hz.1, hz.2⟩
        have f3 : decide (one s a = []) = false := decide_eq_false (by unfold one; exact List.cons_ne_nil _ _)
        have f4 : decide ((lbl s a).length < 100000) = true := decide_eq_true (by omega)
        have f5 : decide ((one s a).length < 1048576) = true := decide_eq_true (by show 1 < 1048576; omega)
        have f6 : decide ((fold (lbl s a)).length < 1048576) = true := decide_eq_true (by omega)
        have f7 : decide (0 = 0 ∧ (one s a).length = (one s a).length) = true := decide_eq_true ⟨rfl, rfl⟩
        have h5 : decide (255 < ([] : List UInt8).length + 1 + (lbl s a).length) = false := decide_eq_false (by rw [hl]; show ¬ 255 < 0 + 1 + _; omega)
        have f1 : decide (255 < IntKind.wrap IntKind.i64 (Int.ofNat (Nat.succ 0) + Int.ofNat (lbl s a).length)) = false := decide_eq_false (by
          rw [Int.ofNat_eq_natCast (lbl s a).length, show Int.ofNat (Nat.succ 0) = (1 : Int) from rfl, wrap64 (by omega) (by omega)]; omega)
        have f8 : decide (0 < (one s a).length) = true := rfl
        have f9 : (nn (Int.ofNat (one s a).length) && decide (Int.toNat (Int.ofNat (one s a).length) < 1048576) && decide (0 < Int.toNat (Int.ofNat (one s a).length)) && decide (0 + Int.toNat (Int.ofNat (one s a).length) ≤ (one s a).length)) = true := rfl
        have k9 : List.take (Int.toNat (Int.ofNat (one s a).length)) (List.drop 0 (one s a)) = one s a := rfl
        cases h8 : decide (0 < z8 s a) with
        | true =>
          have f10 : decide (fold (lbl s a) = []) = false := decide_eq_false (fun e => by
            have := of_decide_eq_true h8
            have h0 : (fold (lbl s a)).length = 0 := by rw [e]; rfl
            omega)
          exact ⟨_, follow_val (wTE_34 s a fr be n) (by rw [hs, h1, h2, h7, h4, f1, f2, f4, f5, f6, f7, f10, h8]), tnext (y := ⟨a + 1 + w8 s a, fr, be, [] ++ one s a ++ fold (lbl s a)⟩) hs hx (by unfold tstep; simp only [h1, h2, h4, h5, h8]) rfl rfl (fun o => by
            obtain ⟨v, k1, k2⟩ := combT2 o _ _ _
            exact ⟨v, _, k1, k2, by decide⟩)⟩
        | false =>
          have f10 : decide (fold (lbl s a) = []) = true := decide_eq_true (List.length_eq_zero_iff.1 (by have := of_decide_eq_false h8; omega))
          cases h6 : decide (be < 0) with
          | true => exact ⟨_, follow_val (wTE_32 s a fr be n) (by rw [hs, h1, h2, h7, h4, f1, f2, f4, f5, f6, f7, f10, h8, h6, f8, f9]), tends (o := some ([] ++ one s a, a + 1 + w8 s a)) (by rw [tkF_step hx]; unfold tstep; simp only [h1, h2, h4, h5, h8, h6]) (by rw [k9]; rfl) (by decide)⟩
          | false => exact ⟨_, follow_val (wTE_33 s a fr be n) (by rw [hs, h1, h2, h7, h4, f1, f2, f4, f5, f6, f7, f10, h8, h6, f8, f9]), tends (o := some ([] ++ one s a, be)) (by rw [tkF_step hx]; unfold tstep; simp only [h1, h2, h4, h5, h8, h6]) (by rw [k9]; rfl) (by decide)⟩
theorem turnTL (s : List UInt8) (a fr be : Int) (c : UInt8) (cs : List UInt8) (n : Nat) (hs : short s = true) (hx : (TS.mk a fr be (c :: cs)).out.length ≤ 255) : ∃ t, (seL Tryz.prog cM (n + 6) 206 94 (blkL Tryz.f206 0) [0, 1, 7, 8, 9] ixT (tinv ⟨s, ⟨a, fr, be, (c :: cs)⟩⟩)).val = some t ∧ TurnOk 0 ixT tinv tres (fun z => tmu z.x) ⟨s, ⟨a, fr, be, (c :: cs)⟩⟩ (tR (tkF s ⟨a, fr, be, (c :: cs)⟩)) t := by
  have hz := z8_lt s a
  cases h1 : okSome s a 1 with
  | false => exact ⟨_, follow_val (wTL_38 s a fr be (c :: cs) n) (by rw [hs, h1]), tends (o := none) (by rw [tkF_step hx]; unfold tstep; simp only [h1]) rfl (Nat.le_of_ble_eq_true rfl)⟩
  | true => cases h2 : decide (63 < z8 s a) with
    | true => cases h3 : decide (z8 s a < 192) with
      | true => exact ⟨_, follow_val (wTL_1 s a fr be (c :: cs) n) (by rw [hs, h1, h2, h3]), tends (o := none) (by rw [tkF_step hx]; unfold tstep; simp only [h1, h2, h3]) rfl (Nat.le_of_ble_eq_true rfl)⟩
      | false =>
        have h7 : decide (192 ≤ z8 s a) = true := decide_eq_true (by have := of_decide_eq_false h3; omega)
        cases h4 : okSome s a 2 with
        | false => exact ⟨_, follow_val (wTL_5 s a fr be (c :: cs) n) (by rw [hs, h1, h2, h3, h7, h4]), tends (o := none) (by rw [tkF_step hx]; unfold tstep; simp only [h1, h2, h3, h4]) rfl (Nat.le_of_ble_eq_true rfl)⟩
        | true => cases h5 : decide (plc s a < fr) with
          | false => exact ⟨_, follow_val (wTL_4 s a fr be (c :: cs) n) (by rw [hs, h1, h2, h3, h7, h4, pcond, h5]), tends (o := none) (by rw [tkF_step hx]; unfold tstep; simp only [h1, h2, h3, h4, h5]) rfl (Nat.le_of_ble_eq_true rfl)⟩
          | true => cases h6 : decide (be < 0) with
            | true => exact ⟨_, follow_val (wTL_2 s a fr be (c :: cs) n) (by rw [hs, h1, h2, h3, h7, h4, pcond, h5, h6]), tnext (y := ⟨plc s a, plc s a, a + 2, (c :: cs)⟩) hs hx (by unfold tstep; simp only [h1, h2, h3, h4, h5, h6]) rfl rfl (fun o => by
            obtain ⟨v, k1, k2⟩ := combT3 o _ _
            exact ⟨v, _, k1, k2, by decide⟩)⟩
            | false => exact ⟨_, follow_val (wTL_3 s a fr be (c :: cs) n) (by rw [hs, h1, h2, h3, h7, h4, pcond, h5, h6]), tnext (y := ⟨plc s a, plc s a, be, (c :: cs)⟩) hs hx (by unfold tstep; simp only [h1, h2, h3, h4, h5, h6]) rfl rfl (fun o => by
            obtain ⟨v, k1, k2⟩ := combT3 o _ _
            exact ⟨v, _, k1, k2, by decide⟩)⟩
    | false =>
      have h7 : decide (192 ≤ z8 s a) = false := decide_eq_false (by have := of_decide_eq_false h2; omega)
      cases h4 : okSome s (a + 1) (w8 s a) with
      | false => exact ⟨_, follow_val (wTL_37 s a fr be (c :: cs) n) (by rw [hs, h1, h2, h7, h4]), tends (o := none) (by rw [tkF_step hx]; unfold tstep; simp only [h1, h2, h4]) rfl (Nat.le_of_ble_eq_true rfl)⟩
      | true =>
        have hl := lbl_length h4
        have hz2 := of_decide_eq_false h2
        have hfl : (fold (lbl s a)).length = (lbl s a).length := fold_length _
        have f2 : (inB IntKind.u8 (z8 s a) && true) = true := by
          rw [Bool.and_true]; exact decide_eq_true ⟨hz.1, hz.2⟩
        have f3 : decide (one s a = []) = false := decide_eq_false (by unfold one; exact List.cons_ne_nil _ _)
        have f4 : decide ((lbl s a).length < 100000) = true := decide_eq_true (by omega)
        have f5 : decide ((one s a).length < 1048576) = true := decide_eq_true (by show 1 < 1048576; omega)
        have f6 : decide ((fold (lbl s a)).length < 1048576) = true := decide_eq_true (by omega)
        have f7 : decide (0 = 0 ∧ (one s a).length = (one s a).length) = true := decide_eq_true ⟨rfl, rfl⟩
        have hx' : (c :: cs).length ≤ 255 := hx
        have g1 : decide ((c :: cs).length < 1048576) = true := decide_eq_true (by omega)
        have g2 : decide (0 = 0 ∧ (c :: cs).length = (c :: cs).length) = true := decide_eq_true ⟨rfl, rfl⟩
        have hol : ((c :: cs) ++ one s a).length = (c :: cs).length + 1 := by rw [List.length_append]; rfl
        have g3 : decide (((c :: cs) ++ one s a).length < 1048576) = true := decide_eq_true (by omega)
        have g4 : decide (0 = 0 ∧ ((c :: cs) ++ one s a).length = ((c :: cs) ++ one s a).length) = true := decide_eq_true ⟨rfl, rfl⟩
        have w1 : IntKind.wrap IntKind.i64 (Int.ofNat (c :: cs).length + 1) = (((c :: cs).length + 1 : Nat) : Int) := by
          rw [Int.ofNat_eq_natCast, wrap64 (by omega) (by omega)]; omega
        have f1 : ∀ b, decide (255 < (c :: cs).length + 1 + (lbl s a).length) = b → decide (255 < IntKind.wrap IntKind.i64 (IntKind.wrap IntKind.i64 (Int.ofNat (c :: cs).length + 1) + Int.ofNat (lbl s a).length)) = b := fun b hb => by
          rw [w1, Int.ofNat_eq_natCast, wrap64 (by omega) (by omega), ← hb]
          exact decide_eq_decide.2 (by omega)
        cases h5 : decide (255 < (c :: cs).length + 1 + (lbl s a).length) with
        | true => exact ⟨_, follow_val (wTL_24 s a fr be (c :: cs) n) (by rw [hs, h1, h2, h7, h4, f1 _ h5]), tends (o := none) (by rw [tkF_step hx]; unfold tstep; simp only [h1, h2, h4, h5]) rfl (Nat.le_of_ble_eq_true rfl)⟩
        | false =>
        have f8 : decide (0 < ((c :: cs) ++ one s a).length) = true := decide_eq_true (by omega)
        have f9 : (nn (Int.ofNat ((c :: cs) ++ one s a).length) && decide (Int.toNat (Int.ofNat ((c :: cs) ++ one s a).length) < 1048576) && decide (0 < Int.toNat (Int.ofNat ((c :: cs) ++ one s a).length)) && decide (0 + Int.toNat (Int.ofNat ((c :: cs) ++ one s a).length) ≤ ((c :: cs) ++ one s a).length)) = true := by
          rw [tn, show nn (Int.ofNat ((c :: cs) ++ one s a).length) = true from nnN _, decide_eq_true (show ((c :: cs) ++ one s a).length < 1048576 by omega), f8, decide_eq_true (by omega)]; rfl
        have k9 : List.take (Int.toNat (Int.ofNat ((c :: cs) ++ one s a).length)) (List.drop 0 ((c :: cs) ++ one s a)) = (c :: cs) ++ one s a := by
          rw [tn, List.drop_zero, List.take_length]
        cases h8 : decide (0 < z8 s a) with
        | true =>
          have f10 : decide (fold (lbl s a) = []) = false := decide_eq_false (fun e => by
            have := of_decide_eq_true h8
            have h0 : (fold (lbl s a)).length = 0 := by rw [e]; rfl
            omega)
          exact ⟨_, follow_val (wTL_34 s a fr be (c :: cs) n) (by rw [hs, h1, h2, h7, h4, f1 _ h5, g1, f2, g2, f4, g3, f6, g4, f10, h8]), tnext (y := ⟨a + 1 + w8 s a, fr, be, (c :: cs) ++ one s a ++ fold (lbl s a)⟩) hs hx (by unfold tstep; simp only [h1, h2, h4, h5, h8]) rfl rfl (fun o => by
            obtain ⟨v, k1, k2⟩ := combT4 o _ _ _
            exact ⟨v, _, k1, k2, by decide⟩)⟩
        | false =>
          have f10 : decide (fold (lbl s a) = []) = true := decide_eq_true (List.length_eq_zero_iff.1 (by have := of_decide_eq_false h8; omega))
          cases h6 : decide (be < 0) with
          | true => exact ⟨_, follow_val (wTL_32 s a fr be (c :: cs) n) (by rw [hs, h1, h2, h7, h4, f1 _ h5, g1, f2, g2, f4, g3, f6, g4, f10, h8, h6, f8, f9]), tends (o := some ((c :: cs) ++ one s a, a + 1 + w8 s a)) (by rw [tkF_step hx]; unfold tstep; simp only [h1, h2, h4, h5, h8, h6]) (by rw [k9]; rfl) (Nat.le_of_ble_eq_true rfl)⟩
          | false => exact ⟨_, follow_val (wTL_33 s a fr be (c :: cs) n) (by rw [hs, h1, h2, h7, h4, f1 _ h5, g1, f2, g2, f4, g3, f6, g4, f10, h8, h6, f8, f9]), tends (o := some ((c :: cs) ++ one s a, be)) (by rw [tkF_step hx]; unfold tstep; simp only [h1, h2, h4, h5, h8, h6]) (by rw [k9]; rfl) (Nat.le_of_ble_eq_true rfl)⟩
theorem turn206 (n : Nat) (x : XT) (R : LR) (hR : tres x = some R) : ∃ t, (seL Tryz.prog cM (n + 6) 206 Tryz.f206.ntmps (blkL Tryz.f206 0) [0, 1, 7, 8, 9] ixT (tinv x)).val = some t ∧ TurnOk 0 ixT tinv tres (fun z => tmu z.x) x R t := by
  obtain ⟨s, a, fr, be, out⟩ := x
  unfold tres at hR
  split at hR
  · rename_i h
    cases hR
    cases out with
    | nil => exact turnTE s a fr be n h.1 h.2
    | cons c cs => exact turnTL s a fr be c cs n h.1 h.2
  · cases hR
def nameAt (s : List UInt8) (a fr be : Int) : Option (List UInt8 × Int) := tkF s ⟨a, fr, be, []⟩
def nmOf (o : Option (List UInt8 × Int)) : List UInt8 := match o with | some r => r.1 | none => []
def nxOf (o : Option (List UInt8 × Int)) : Int := match o with | some r => r.2 | none => 0
def core206 : LSpec
  | [.s _ s, .i _ .i64 a, .ptr 0 0, .i _ .i64 fr, .i _ .i64 be], ⟨[(0, .row 365 [.nil .p, .nil .s] none)], 1⟩ => .need (short s && decide (fr < 50000)) (.node (nameAt s a fr be).isSome (.leaf ⟨.ret, [4, 5, 6], [.s true (nmOf (nameAt s a fr be)), .i true .i64 (nxOf (nameAt s a fr be)), .i false .i64 0], ⟨[], 3⟩⟩) (.leaf ⟨.ret, [4, 5, 6], [.s false [], .i false .i64 0, .i false .i64 2], ⟨[], 3⟩⟩))
  | _, _ => .fail
theorem core206_ok (vals : List SV) (sh : SH) (R : LR) (h : (core206 vals sh).val = some R) : ∃ x R1, openL (tinv x).1 = openL vals ∧ (tinv x).2.opened = sh.opened ∧ tres x = some R1 ∧ R1.e = R.e ∧ R1.ix = R.ix ∧ Opn (.tuple R1.v, R1.h) (.tuple R.v, R.h) ∧ tmu x.x < 100000 := by
  unfold core206 at h
  split at h
  · rename_i o1 s o2 a o3 fr o4 be
    obtain ⟨h1, h2⟩ := need_some h
    rw [Bool.and_eq_true] at h1
    have hfr := of_decide_eq_true h1.2
    refine ⟨⟨s, a, fr, be, []⟩, R, rfl, rfl, ?_, rfl, rfl, ⟨rfl, rfl⟩, ?_⟩
    · rw [tres_of h1.1 (Nat.zero_le _)]
      show some (tR (nameAt s a fr be)) = _
      rcases node_some h2 with ⟨e, h2⟩ | ⟨e, h2⟩
      · rw [← leaf_some h2]
        cases hn : nameAt s a fr be with
        | none => rw [hn] at e; cases e
        | some r => rfl
      · rw [← leaf_some h2]
        cases hn : nameAt s a fr be with
        | none => rfl
        | some r => rw [hn] at e; cases e
    · show fr.toNat + (256 - 0) < 100000
      omega
  · cases h
theorem loop206_ok : LoopOk Tryz.prog 206 0 6 (liftL [0, 1, 7, 8, 9] core206) := loop_at cM_ok Tryz.func206 (by kernel_rfl) core206_ok turn206
noncomputable def cT0 : Cfg := cM.addL 206 0 6 (liftL [0, 1, 7, 8, 9] core206)
theorem cT0_ok : CfgOk Tryz.prog cT0 := cM_ok.addL loop206_ok
theorem w206_1 (s : List UInt8) (a : Int) (n : Nat) : DT.follow [true, true] (seC Tryz.prog cT0 (n + 6) 206 [.s true s, .i true .i64 a] .empty) = some ([short s && decide (a < 50000), Option.isSome (nameAt s a a (-1))], some (SV.tuple [SV.s true (nmOf (nameAt s a a (-1))), SV.i true IntKind.i64 (nxOf (nameAt s a a (-1))), SV.i false IntKind.i64 0], { objs := [], nm := 0 })) := by kernel_rfl
theorem w206_2 (s : List UInt8) (a : Int) (n : Nat) : DT.follow [true, false] (seC Tryz.prog cT0 (n + 6) 206 [.s true s, .i true .i64 a] .empty) = some ([short s && decide (a < 50000), Option.isSome (nameAt s a a (-1))], some (SV.tuple [SV.s false [], SV.i false IntKind.i64 0, SV.i false IntKind.i64 2], { objs := [], nm := 0 })) := by kernel_rfl
/-- the name that stands at a place -/
def okA (s : List UInt8) (a : Int) : Bool := (nameAt s a a (-1)).isSome
def nmA (s : List UInt8) (a : Int) : List UInt8 := nmOf (nameAt s a a (-1))
def nxA (s : List UInt8) (a : Int) : Int := nxOf (nameAt s a a (-1))
def sp206 : Spec
  | [.s _ s, .i _ .i64 a], ⟨[], 0⟩ => .need (short s && decide (a < 50000)) (.node (okA s a) (.leaf (.tuple [.s true (nmA s a), .i true .i64 (nxA s a), .i false .i64 0], .empty)) (.leaf (.tuple [.s false [], .i false .i64 0, .i false .i64 2], .empty)))
  | _, _ => .fail
theorem sp206_ok : SpecOk Tryz.prog 206 7 sp206 := spec_ok cT0_ok fun n args sh r hr => by
  unfold sp206 at hr
  split at hr
  · rename_i o1 s o2 a
    obtain ⟨h1, hr⟩ := need_some hr
    rw [seC_open]
    show ∃ r1, (seC Tryz.prog cT0 (n + 6) 206 [.s true s, .i true .i64 a] .empty).val = _ ∧ _
    rcases node_some hr with ⟨hc, hr⟩ | ⟨hc, hr⟩
    · exact ⟨_, follow_val (w206_1 s a n) (by rw [h1, show (nameAt s a a (-1)).isSome = true from hc]), by rw [← leaf_some hr]; exact ⟨rfl, rfl⟩⟩
    · exact ⟨_, follow_val (w206_2 s a n) (by rw [h1, show (nameAt s a a (-1)).isSome = false from hc]), by rw [← leaf_some hr]; exact ⟨rfl, rfl⟩⟩
  · cases hr
noncomputable def cT : Cfg := cM.addS 206 7 (lift sp206)
theorem cT_ok : CfgOk Tryz.prog cT := cM_ok.addS (lift_ok sp206_ok)
end Go.Proofs.YtgemonlknehegaaGreatDoor.AI
