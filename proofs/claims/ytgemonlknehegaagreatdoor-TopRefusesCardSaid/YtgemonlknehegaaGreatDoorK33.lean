/- The chain of TopRefuses, part 33. -/
import Derived.Test.YtgemonlknehegaaGreatDoorK31
import Derived.Test.YtgemonlknehegaaGreatDoorK32
namespace Go.Proofs.YtgemonlknehegaaGreatDoor.AI
open Go
set_option linter.unusedVariables false
set_option linter.unusedSimpArgs false
set_option maxRecDepth 100000
noncomputable def b156 : Code := bodyC Tryz.f156
noncomputable def c156 : Code := rgRest 3 b156
noncomputable def lA : Code := rgA c156
noncomputable def lC : Code := rgC c156
/-- the memory while the labels are told: none yet; some -/
noncomputable def stEp (cur left : List UInt8) : SH := ⟨[(0, .loop 156 [4,5] [.ptr 2 0, .ptr 3 0] [11,12] lA lC), (1, .row 9 [.s true cur] none), (2, .row 72 [.nil .s] none), (3, .row 9 [.s true left] none)], 4⟩
noncomputable def stL (j nm : Nat) (cur left : List UInt8) (acc : List Rc) : SH := ⟨[(0, .loop 156 [4,5] [.ptr 2 0, .ptr 3 0] [11,12] lA lC), (1, .row 9 [.s true cur] none), (2, .row 72 [.tsl j 1 0 acc.length] none), (3, .row 9 [.s true left] none), (j, .lrow 9 [.str] acc)], nm⟩
noncomputable def ix0 : AExit → List Nat := fun _ => []
/-- how many bytes a label has -/
def k0 (cur : List UInt8) : Nat := (cur.getD 0 0).toNat
def lab0 (cur : List UInt8) : Int := Int.ofNat (UInt8.toNat (List.getD cur 0 0))
def lab1 (cur : List UInt8) : Int := IntKind.wrap IntKind.i64 (1 + IntKind.wrap IntKind.i64 (lab0 cur))
theorem wE_2 (cur left : List UInt8) (n : Nat) : DT.follow [true, true, true, true, true, true, true, true, true, true, true, true, true, true] (seL Tryz.prog Cfg.none (n + 1) 255 40 (blkL Tryz.f255 0) [0, 1] ix0 ([.yield 0, .ptr 1 0], stEp cur left)) = some ([!TB.c { o := true || false, c := decide (cur = Array.toList (ByteArray.data { data := #[] })) }, decide (0 < List.length cur), decide (0 < lab0 cur), decide (0 < List.length cur), decide (lab0 cur ≤ 63), decide (0 < List.length cur), decide (IntKind.wrap IntKind.i64 (lab0 cur) < Int.ofNat (List.length cur)), decide (0 < List.length cur), nn (lab1 cur), decide (1 ≤ Int.toNat (lab1 cur) ∧ Int.toNat (lab1 cur) ≤ List.length cur), nn (lab1 cur), decide (Int.toNat (lab1 cur) ≤ Prod.snd (true, List.length cur) ∧ Prod.snd (true, List.length cur) ≤ List.length cur), nn (lab1 cur), decide (Int.toNat (lab1 cur) ≤ Prod.snd (true, List.length cur) ∧ Prod.snd (true, List.length cur) ≤ List.length cur)], Turn.next [SV.yield 0, SV.ptr 1 0] { objs := [(0, SO.loop 156 [4, 5] [SV.ptr 2 0, SV.ptr 3 0] [11, 12] lA lC), (1, SO.row 9 [SV.s true (List.take (Prod.snd (true, List.length cur) - Int.toNat (lab1 cur)) (List.drop (Int.toNat (lab1 cur)) cur))] none), (2, SO.row 72 [SV.tsl 4 1 0 1] none), (3, SO.row 9 [SV.s true (List.take (Prod.snd (true, List.length cur) - Int.toNat (lab1 cur)) (List.drop (Int.toNat (lab1 cur)) cur))] none), (4, SO.lrow 9 [FK.str] [[Lf.s (List.take (Int.toNat (lab1 cur) - 1) (List.drop 1 cur))]])], nm := 5 } [0, 1, 2, 3, 5] { objs := [(0, SO.loop 156 [4, 5] [SV.ptr 2 0, SV.ptr 3 0] [11, 12] lA lC), (5, SO.lrow 9 [FK.str] [[Lf.s (List.take (Int.toNat (lab1 cur) - 1) (List.drop 1 cur))]]), (4, SO.row 9 [SV.s true (List.take (Int.toNat (lab1 cur) - 1) (List.drop 1 cur))] none), (1, SO.row 9 [SV.s true (List.take (Prod.snd (true, List.length cur) - Int.toNat (lab1 cur)) (List.drop (Int.toNat (lab1 cur)) cur))] none), (2, SO.row 72 [SV.tsl 5 1 0 1] none), (3, SO.row 9 [SV.s true (List.take (Prod.snd (true, List.length cur) - Int.toNat (lab1 cur)) (List.drop (Int.toNat (lab1 cur)) cur))] none)], nm := 6 }) := by kernel_rfl
theorem wE_3 (cur left : List UInt8) (n : Nat) : DT.follow [true, true, true, true, true, true, false] (seL Tryz.prog Cfg.none (n + 1) 255 40 (blkL Tryz.f255 0) [0, 1] ix0 ([.yield 0, .ptr 1 0], stEp cur left)) = some ([!TB.c { o := true || false, c := decide (cur = Array.toList (ByteArray.data { data := #[] })) }, decide (0 < List.length cur), decide (0 < lab0 cur), decide (0 < List.length cur), decide (lab0 cur ≤ 63), decide (0 < List.length cur), decide (IntKind.wrap IntKind.i64 (lab0 cur) < Int.ofNat (List.length cur))], Turn.ends (AExit.exit 0) (SV.tuple []) { objs := [(0, SO.loop 156 [4, 5] [SV.ptr 2 0, SV.ptr 3 0] [11, 12] lA lC), (1, SO.row 9 [SV.s true cur] none), (2, SO.row 72 [SV.nil NK.s] none), (3, SO.row 9 [SV.s true left] none)], nm := 4 }) := by kernel_rfl
theorem wE_4 (cur left : List UInt8) (n : Nat) : DT.follow [true, true, true, true, false] (seL Tryz.prog Cfg.none (n + 1) 255 40 (blkL Tryz.f255 0) [0, 1] ix0 ([.yield 0, .ptr 1 0], stEp cur left)) = some ([!TB.c { o := true || false, c := decide (cur = Array.toList (ByteArray.data { data := #[] })) }, decide (0 < List.length cur), decide (0 < lab0 cur), decide (0 < List.length cur), decide (lab0 cur ≤ 63)], Turn.ends (AExit.exit 0) (SV.tuple []) { objs := [(0, SO.loop 156 [4, 5] [SV.ptr 2 0, SV.ptr 3 0] [11, 12] lA lC), (1, SO.row 9 [SV.s true cur] none), (2, SO.row 72 [SV.nil NK.s] none), (3, SO.row 9 [SV.s true left] none)], nm := 4 }) := by kernel_rfl
theorem wE_5 (cur left : List UInt8) (n : Nat) : DT.follow [true, true, false] (seL Tryz.prog Cfg.none (n + 1) 255 40 (blkL Tryz.f255 0) [0, 1] ix0 ([.yield 0, .ptr 1 0], stEp cur left)) = some ([!TB.c { o := true || false, c := decide (cur = Array.toList (ByteArray.data { data := #[] })) }, decide (0 < List.length cur), decide (0 < lab0 cur)], Turn.ends (AExit.exit 0) (SV.tuple []) { objs := [(0, SO.loop 156 [4, 5] [SV.ptr 2 0, SV.ptr 3 0] [11, 12] lA lC), (1, SO.row 9 [SV.s true cur] none), (2, SO.row 72 [SV.nil NK.s] none), (3, SO.row 9 [SV.s true left] none)], nm := 4 }) := by kernel_rfl
theorem wE_6 (cur left : List UInt8) (n : Nat) : DT.follow [false] (seL Tryz.prog Cfg.none (n + 1) 255 40 (blkL Tryz.f255 0) [0, 1] ix0 ([.yield 0, .ptr 1 0], stEp cur left)) = some ([!TB.c { o := true || false, c := decide (cur = Array.toList (ByteArray.data { data := #[] })) }], Turn.ends (AExit.exit 0) (SV.tuple []) { objs := [(0, SO.loop 156 [4, 5] [SV.ptr 2 0, SV.ptr 3 0] [11, 12] lA lC), (1, SO.row 9 [SV.s true cur] none), (2, SO.row 72 [SV.nil NK.s] none), (3, SO.row 9 [SV.s true left] none)], nm := 4 }) := by kernel_rfl
theorem wL_2 (cur left : List UInt8) (acc : List Rc) (n : Nat) : DT.follow [true, true, true, true, true, true, true, true, true, true, true, true, true, true, true, true] (seL Tryz.prog Cfg.none (n + 1) 255 40 (blkL Tryz.f255 0) [0, 1] ix0 ([.yield 0, .ptr 1 0], stL 4 5 cur left acc)) = some ([!TB.c { o := true || false, c := decide (cur = Array.toList (ByteArray.data { data := #[] })) }, decide (0 < List.length cur), decide (0 < lab0 cur), decide (0 < List.length cur), decide (lab0 cur ≤ 63), decide (0 < List.length cur), decide (IntKind.wrap IntKind.i64 (lab0 cur) < Int.ofNat (List.length cur)), decide (0 < List.length cur), nn (lab1 cur), decide (1 ≤ Int.toNat (lab1 cur) ∧ Int.toNat (lab1 cur) ≤ List.length cur), nn (lab1 cur), decide (Int.toNat (lab1 cur) ≤ Prod.snd (true, List.length cur) ∧ Prod.snd (true, List.length cur) ≤ List.length cur), decide (List.length acc < 1048576), decide (0 = 0 ∧ List.length acc = List.length acc), nn (lab1 cur), decide (Int.toNat (lab1 cur) ≤ Prod.snd (true, List.length cur) ∧ Prod.snd (true, List.length cur) ≤ List.length cur)], Turn.next [SV.yield 0, SV.ptr 1 0] { objs := [(0, SO.loop 156 [4, 5] [SV.ptr 2 0, SV.ptr 3 0] [11, 12] lA lC), (1, SO.row 9 [SV.s true (List.take (Prod.snd (true, List.length cur) - Int.toNat (lab1 cur)) (List.drop (Int.toNat (lab1 cur)) cur))] none), (2, SO.row 72 [SV.tsl 4 1 0 (List.length (acc ++ [[Lf.s (List.take (Int.toNat (lab1 cur) - 1) (List.drop 1 cur))]]))] none), (3, SO.row 9 [SV.s true (List.take (Prod.snd (true, List.length cur) - Int.toNat (lab1 cur)) (List.drop (Int.toNat (lab1 cur)) cur))] none), (4, SO.lrow 9 [FK.str] (acc ++ [[Lf.s (List.take (Int.toNat (lab1 cur) - 1) (List.drop 1 cur))]]))], nm := 5 } [0, 1, 2, 3, 6] { objs := [(0, SO.loop 156 [4, 5] [SV.ptr 2 0, SV.ptr 3 0] [11, 12] lA lC), (6, SO.lrow 9 [FK.str] (acc ++ [[Lf.s (List.take (Int.toNat (lab1 cur) - 1) (List.drop 1 cur))]])), (5, SO.row 9 [SV.s true (List.take (Int.toNat (lab1 cur) - 1) (List.drop 1 cur))] none), (1, SO.row 9 [SV.s true (List.take (Prod.snd (true, List.length cur) - Int.toNat (lab1 cur)) (List.drop (Int.toNat (lab1 cur)) cur))] none), (2, SO.row 72 [SV.tsl 6 1 0 (List.length (acc ++ [[Lf.s (List.take (Int.toNat (lab1 cur) - 1) (List.drop 1 cur))]]))] none), (3, SO.row 9 [SV.s true (List.take (Prod.snd (true, List.length cur) - Int.toNat (lab1 cur)) (List.drop (Int.toNat (lab1 cur)) cur))] none)], nm := 7 }) := by kernel_rfl
theorem wL_3 (cur left : List UInt8) (acc : List Rc) (n : Nat) : DT.follow [true, true, true, true, true, true, false] (seL Tryz.prog Cfg.none (n + 1) 255 40 (blkL Tryz.f255 0) [0, 1] ix0 ([.yield 0, .ptr 1 0], stL 4 5 cur left acc)) = some ([!TB.c { o := true || false, c := decide (cur = Array.toList (ByteArray.data { data := #[] })) }, decide (0 < List.length cur), decide (0 < lab0 cur), decide (0 < List.length cur), decide (lab0 cur ≤ 63), decide (0 < List.length cur), decide (IntKind.wrap IntKind.i64 (lab0 cur) < Int.ofNat (List.length cur))], Turn.ends (AExit.exit 0) (SV.tuple []) { objs := [(0, SO.loop 156 [4, 5] [SV.ptr 2 0, SV.ptr 3 0] [11, 12] lA lC), (1, SO.row 9 [SV.s true cur] none), (2, SO.row 72 [SV.tsl 4 1 0 (List.length acc)] none), (3, SO.row 9 [SV.s true left] none), (4, SO.lrow 9 [FK.str] acc)], nm := 5 }) := by kernel_rfl
theorem wL_4 (cur left : List UInt8) (acc : List Rc) (n : Nat) : DT.follow [true, true, true, true, false] (seL Tryz.prog Cfg.none (n + 1) 255 40 (blkL Tryz.f255 0) [0, 1] ix0 ([.yield 0, .ptr 1 0], stL 4 5 cur left acc)) = some ([!TB.c { o := true || false, c := decide (cur = Array.toList (ByteArray.data { data := #[] })) }, decide (0 < List.length cur), decide (0 < lab0 cur), decide (0 < List.length cur), decide (lab0 cur ≤ 63)], Turn.ends (AExit.exit 0) (SV.tuple []) { objs := [(0, SO.loop 156 [4, 5] [SV.ptr 2 0, SV.ptr 3 0] [11, 12] lA lC), (1, SO.row 9 [SV.s true cur] none), (2, SO.row 72 [SV.tsl 4 1 0 (List.length acc)] none), (3, SO.row 9 [SV.s true left] none), (4, SO.lrow 9 [FK.str] acc)], nm := 5 }) := by kernel_rfl
theorem wL_5 (cur left : List UInt8) (acc : List Rc) (n : Nat) : DT.follow [true, true, false] (seL Tryz.prog Cfg.none (n + 1) 255 40 (blkL Tryz.f255 0) [0, 1] ix0 ([.yield 0, .ptr 1 0], stL 4 5 cur left acc)) = some ([!TB.c { o := true || false, c := decide (cur = Array.toList (ByteArray.data { data := #[] })) }, decide (0 < List.length cur), decide (0 < lab0 cur)], Turn.ends (AExit.exit 0) (SV.tuple []) { objs := [(0, SO.loop 156 [4, 5] [SV.ptr 2 0, SV.ptr 3 0] [11, 12] lA lC), (1, SO.row 9 [SV.s true cur] none), (2, SO.row 72 [SV.tsl 4 1 0 (List.length acc)] none), (3, SO.row 9 [SV.s true left] none), (4, SO.lrow 9 [FK.str] acc)], nm := 5 }) := by kernel_rfl
theorem wL_6 (cur left : List UInt8) (acc : List Rc) (n : Nat) : DT.follow [false] (seL Tryz.prog Cfg.none (n + 1) 255 40 (blkL Tryz.f255 0) [0, 1] ix0 ([.yield 0, .ptr 1 0], stL 4 5 cur left acc)) = some ([!TB.c { o := true || false, c := decide (cur = Array.toList (ByteArray.data { data := #[] })) }], Turn.ends (AExit.exit 0) (SV.tuple []) { objs := [(0, SO.loop 156 [4, 5] [SV.ptr 2 0, SV.ptr 3 0] [11, 12] lA lC), (1, SO.row 9 [SV.s true cur] none), (2, SO.row 72 [SV.tsl 4 1 0 (List.length acc)] none), (3, SO.row 9 [SV.s true left] none), (4, SO.lrow 9 [FK.str] acc)], nm := 5 }) := by kernel_rfl
theorem lab0_eq (cur : List UInt8) : lab0 cur = (k0 cur : Int) := rfl
theorem k0_lt (cur : List UInt8) : k0 cur < 256 := (cur.getD 0 0).toNat_lt
theorem wlab (cur : List UInt8) : IntKind.wrap IntKind.i64 (lab0 cur) = (k0 cur : Int) := by
  have := k0_lt cur
  rw [lab0_eq, wrap64 (by omega) (by omega)]
theorem lab1_eq (cur : List UInt8) : lab1 cur = ((1 + k0 cur : Nat) : Int) := by
  have := k0_lt cur
  unfold lab1
  rw [wlab, wrap64 (by omega) (by omega)]; omega
theorem c0 (cur : List UInt8) : (!TB.c { o := true || false, c := decide (cur = Array.toList (ByteArray.data { data := #[] })) }) = !decide (cur = []) := rfl
/-- is there a label? -/
def lstep (cur : List UInt8) : Bool := decide (cur ≠ []) && (decide (0 < k0 cur) && (decide (k0 cur ≤ 63) && decide (k0 cur < cur.length)))
def lrest (cur : List UInt8) : List UInt8 := cur.drop (1 + k0 cur)
def llabel (cur : List UInt8) : List UInt8 := (cur.drop 1).take (k0 cur)
structure LW where
  cur : List UInt8
  left : List UInt8
  acc : List Rc
/-- all labels, one by one -/
def walk : Nat → List UInt8 → List UInt8 → List Rc → LW
  | 0, cur, left, acc => ⟨cur, left, acc⟩
  | n + 1, cur, left, acc => match lstep cur with | true => walk n (lrest cur) (lrest cur) (acc ++ [[.s (llabel cur)]]) | false => ⟨cur, left, acc⟩
theorem lstep_len {cur : List UInt8} (h : lstep cur = true) : (lrest cur).length < cur.length := by
  unfold lstep at h
  simp only [Bool.and_eq_true, decide_eq_true_eq] at h
  unfold lrest
  rw [List.length_drop]
  have : cur.length ≠ 0 := fun e => h.1 (List.length_eq_zero_iff.1 e)
  omega
theorem lstep_nil : ∀ {cur : List UInt8}, cur.length = 0 → lstep cur = false := fun {cur} h => by
  rw [List.length_eq_zero_iff.1 h]; rfl
theorem walk_fuel : ∀ (n m : Nat) (cur left : List UInt8) (acc : List Rc), cur.length ≤ n → cur.length ≤ m → walk n cur left acc = walk m cur left acc
  | 0, 0, _, _, _, _, _ => rfl
  | 0, m + 1, cur, left, acc, h, _ => by
    show _ = match lstep cur with | true => _ | false => _
    rw [lstep_nil (by omega)]; rfl
  | n + 1, 0, cur, left, acc, _, h => by
    show (match lstep cur with | true => _ | false => _) = _
    rw [lstep_nil (by omega)]; rfl
  | n + 1, m + 1, cur, left, acc, h1, h2 => by
    show (match lstep cur with | true => _ | false => _) = match lstep cur with | true => _ | false => _
    cases h : lstep cur with
    | false => rfl
    | true =>
      have := lstep_len h
      exact walk_fuel n m _ _ _ (by omega) (by omega)
def wk (cur left : List UInt8) (acc : List Rc) : LW := walk cur.length cur left acc
theorem wk_step {cur left : List UInt8} {acc : List Rc} (h : lstep cur = true) : wk cur left acc = wk (lrest cur) (lrest cur) (acc ++ [[.s (llabel cur)]]) := by
  have hl := lstep_len h
  unfold wk
  rw [walk_fuel cur.length (cur.length + 1) _ _ _ (Nat.le_refl _) (by omega)]
  show (match lstep cur with | true => _ | false => _) = _
  rw [h]
  exact walk_fuel _ _ _ _ _ (by omega) (by omega)
theorem wk_stop {cur left : List UInt8} {acc : List Rc} (h : lstep cur = false) : wk cur left acc = ⟨cur, left, acc⟩ := by
  unfold wk
  rw [walk_fuel cur.length (cur.length + 1) _ _ _ (Nat.le_refl _) (by omega)]
  show (match lstep cur with | true => _ | false => _) = _
  rw [h]
inductive XS where
  | e (cur left : List UInt8)
  | l (cur left : List UInt8) (acc : List Rc)
noncomputable def xinv : XS → List SV × SH
  | .e cur left => ([.yield 0, .ptr 1 0], stEp cur left)
  | .l cur left acc => ([.yield 0, .ptr 1 0], stL 4 5 cur left acc)
noncomputable def LW.st (j nm : Nat) (w : LW) : SH := stL j nm w.cur w.left w.acc
noncomputable def rl (sh : SH) : LR := ⟨.normal, [], [], sh⟩
noncomputable def xres : XS → Option LR
  | .e cur left => if cur.length < 1000000 then some (rl (match lstep cur with | true => (wk cur left []).st 4 5 | false => stEp cur left)) else none
  | .l cur left acc => if cur.length + acc.length < 1000000 then some (rl (match lstep cur with | true => (wk cur left acc).st 5 6 | false => stL 4 5 cur left acc)) else none
def xmu : XS → Nat
  | .e cur _ => cur.length
  | .l cur _ _ => cur.length
theorem lrest_eq {cur : List UInt8} (h : lstep cur = true) : List.take (Prod.snd (true, List.length cur) - Int.toNat (lab1 cur)) (List.drop (Int.toNat (lab1 cur)) cur) = lrest cur := by
  rw [lab1_eq, Int.toNat_natCast]
  unfold lrest
  exact List.take_of_length_le (by rw [List.length_drop]; exact Nat.le_refl _)
theorem llabel_eq (cur : List UInt8) : List.take (Int.toNat (lab1 cur) - 1) (List.drop 1 cur) = llabel cur := by
  rw [lab1_eq, Int.toNat_natCast, Nat.add_sub_cancel_left]; rfl
theorem lstep_iff {cur : List UInt8} (h : lstep cur = true) : cur ≠ [] ∧ 0 < k0 cur ∧ k0 cur ≤ 63 ∧ k0 cur < cur.length := by
  unfold lstep at h
  simpa only [Bool.and_eq_true, decide_eq_true_eq] using h
theorem combE (c l : List UInt8) (a : List Rc) (A B C D E : SO) : comb 4 [0, 1, 2, 3, 5] ⟨[(0, A), (5, B), (4, C), (1, D), (2, E), (3, D)], 6⟩ (rl (stL 4 5 c l a)) = some (.tuple [], stL 4 5 c l a) := by kernel_rfl
theorem combE2 (c l : List UInt8) (a : List Rc) (A B C D E : SO) : comb 4 [0, 1, 2, 3, 5] ⟨[(0, A), (5, B), (4, C), (1, D), (2, E), (3, D)], 6⟩ (rl (stL 5 6 c l a)) = some (.tuple [], stL 4 5 c l a) := by kernel_rfl
theorem combL (c l : List UInt8) (a : List Rc) (A B C D E : SO) : comb 5 [0, 1, 2, 3, 6] ⟨[(0, A), (6, B), (5, C), (1, D), (2, E), (3, D)], 7⟩ (rl (stL 4 5 c l a)) = some (.tuple [], stL 5 6 c l a) := by kernel_rfl
theorem combL2 (c l : List UInt8) (a : List Rc) (A B C D E : SO) : comb 5 [0, 1, 2, 3, 6] ⟨[(0, A), (6, B), (5, C), (1, D), (2, E), (3, D)], 7⟩ (rl (stL 5 6 c l a)) = some (.tuple [], stL 5 6 c l a) := by kernel_rfl
theorem condsOk {cur : List UInt8} (h : lstep cur = true) : decide (0 < List.length cur) = true ∧ decide (0 < lab0 cur) = true ∧ decide (lab0 cur ≤ 63) = true ∧ decide (IntKind.wrap IntKind.i64 (lab0 cur) < Int.ofNat (List.length cur)) = true ∧ nn (lab1 cur) = true ∧ decide (1 ≤ Int.toNat (lab1 cur) ∧ Int.toNat (lab1 cur) ≤ List.length cur) = true ∧ decide (Int.toNat (lab1 cur) ≤ Prod.snd (true, List.length cur) ∧ Prod.snd (true, List.length cur) ≤ List.length cur) = true ∧ (!decide (cur = [])) = true := by
  obtain ⟨h1, h2, h3, h4⟩ := lstep_iff h
  have hp : 0 < cur.length := List.length_pos_iff.2 h1
  rw [wlab, lab0_eq, lab1_eq, Int.toNat_natCast]
  simp only [nn, decide_eq_true_eq, Int.ofNat_eq_natCast, Bool.not_eq_true', decide_eq_false_iff_not]
  refine ⟨hp, ?_, ?_, ?_, ?_, ?_, ?_, h1⟩ <;> omega
/-- where there is no label -/
theorem lstop_cases {cur : List UInt8} (h : lstep cur = false) : cur = [] ∨ (cur ≠ [] ∧ 0 < cur.length ∧ ¬ 0 < k0 cur) ∨ (cur ≠ [] ∧ 0 < cur.length ∧ 0 < k0 cur ∧ ¬ k0 cur ≤ 63) ∨ (cur ≠ [] ∧ 0 < cur.length ∧ 0 < k0 cur ∧ k0 cur ≤ 63 ∧ ¬ k0 cur < cur.length) := by
  unfold lstep at h
  by_cases h1 : cur = []
  · exact .inl h1
  · have hp : 0 < cur.length := List.length_pos_iff.2 h1
    simp only [ne_eq, h1, not_false_eq_true, decide_true, Bool.true_and, Bool.and_eq_false_iff, decide_eq_false_iff_not] at h
    by_cases h2 : 0 < k0 cur
    · by_cases h3 : k0 cur ≤ 63
      · rcases h with h | h | h
        · exact absurd h2 h
        · exact absurd h3 h
        · exact .inr (.inr (.inr ⟨h1, hp, h2, h3, h⟩))
      · exact .inr (.inr (.inl ⟨h1, hp, h2, h3⟩))
    · exact .inr (.inl ⟨h1, hp, h2⟩)
theorem turn255 (n : Nat) (x : XS) (R : LR) (hR : xres x = some R) : ∃ t, (seL Tryz.prog Cfg.none (n + 1) 255 Tryz.f255.ntmps (blkL Tryz.f255 0) [0, 1] ix0 (xinv x)).val = some t ∧ TurnOk 0 ix0 xinv xres xmu x R t := by
  cases x with
  | e cur left =>
    unfold xres at hR
    simp only at hR
    split at hR
    · rename_i hlen
      cases hR
      cases hst : lstep cur with
      | true =>
        obtain ⟨a1, a2, a3, a4, a5, a6, a7, a8⟩ := condsOk hst
        refine ⟨_, follow_val (wE_2 cur left n) ?_, ?_⟩
        · rw [c0, a1, a2, a3, a4, a5, a6, a7, a8]
        · have hl := lstep_len hst
          rw [lrest_eq hst, llabel_eq]
          have hx : xres (.l (lrest cur) (lrest cur) [[.s (llabel cur)]]) = some (rl (match lstep (lrest cur) with | true => (wk (lrest cur) (lrest cur) [[.s (llabel cur)]]).st 5 6 | false => stL 4 5 (lrest cur) (lrest cur) [[.s (llabel cur)]])) := if_pos (by simp only [List.length_cons, List.length_nil]; omega)
          refine ⟨.l (lrest cur) (lrest cur) [[.s (llabel cur)]], _, rfl, rfl, hl, hx, rfl, rfl, (.tuple [], (wk cur left []).st 4 5), ?_, Opn.wk ⟨rfl, rfl⟩⟩
          rw [show wk cur left [] = wk (lrest cur) (lrest cur) [[.s (llabel cur)]] from wk_step hst]
          cases hst2 : lstep (lrest cur) with
          | true => exact combE2 ..
          | false => rw [wk_stop hst2]; exact combE ..
      | false =>
        have fin : ∀ R', R' = rl (stEp cur left) → TurnOk 0 ix0 xinv xres xmu (.e cur left) R' (Turn.ends (.exit 0) (.tuple []) (stEp cur left)) := fun R' e => by subst e; exact ⟨.inl ⟨rfl, rfl⟩, rfl, Opn.wk ⟨rfl, rfl⟩⟩
        rcases lstop_cases hst with h | ⟨h1, h2, h3⟩ | ⟨h1, h2, h3, h4⟩ | ⟨h1, h2, h3, h4, h5⟩
        · exact ⟨_, follow_val (wE_6 cur left n) (by rw [c0, h]; rfl), fin _ rfl⟩
        · exact ⟨_, follow_val (wE_5 cur left n) (by rw [c0, lab0_eq]; simp only [h1, List.cons.injEq, Bool.not_eq_true', decide_eq_true_eq, decide_eq_false_iff_not, and_true, not_false_eq_true, decide_false, Bool.not_false, true_and]; omega), fin _ rfl⟩
        · exact ⟨_, follow_val (wE_4 cur left n) (by rw [c0, lab0_eq]; simp only [h1, List.cons.injEq, Bool.not_eq_true', decide_eq_true_eq, decide_eq_false_iff_not, and_true, not_false_eq_true, decide_false, Bool.not_false, true_and]; omega), fin _ rfl⟩
        · exact ⟨_, follow_val (wE_3 cur left n) (by rw [c0, wlab, lab0_eq]; simp only [h1, List.cons.injEq, Bool.not_eq_true', decide_eq_true_eq, decide_eq_false_iff_not, and_true, not_false_eq_true, decide_false, Bool.not_false, true_and, Int.ofNat_eq_natCast]; omega), fin _ rfl⟩
    · cases hR
  | l cur left acc =>
    unfold xres at hR
    simp only at hR
    split at hR
    · rename_i hlen
      cases hR
      cases hst : lstep cur with
      | true =>
        obtain ⟨a1, a2, a3, a4, a5, a6, a7, a8⟩ := condsOk hst
        have b1 : decide (List.length acc < 1048576) = true := decide_eq_true (by omega)
        refine ⟨_, follow_val (wL_2 cur left acc n) ?_, ?_⟩
        · rw [c0, a1, a2, a3, a4, a5, a6, a7, a8, b1, decide_eq_true (show 0 = 0 ∧ List.length acc = List.length acc from ⟨rfl, rfl⟩)]
        · have hl := lstep_len hst
          rw [lrest_eq hst, llabel_eq]
          have hx : xres (.l (lrest cur) (lrest cur) (acc ++ [[.s (llabel cur)]])) = some (rl (match lstep (lrest cur) with | true => (wk (lrest cur) (lrest cur) (acc ++ [[.s (llabel cur)]])).st 5 6 | false => stL 4 5 (lrest cur) (lrest cur) (acc ++ [[.s (llabel cur)]]))) := if_pos (by simp only [List.length_append, List.length_cons, List.length_nil]; omega)
          refine ⟨.l (lrest cur) (lrest cur) (acc ++ [[.s (llabel cur)]]), rl (match lstep (lrest cur) with | true => (wk (lrest cur) (lrest cur) (acc ++ [[.s (llabel cur)]])).st 5 6 | false => stL 4 5 (lrest cur) (lrest cur) (acc ++ [[.s (llabel cur)]])), rfl, rfl, hl, hx, rfl, rfl, (.tuple [], (wk cur left acc).st 5 6), ?_, Opn.wk ⟨rfl, rfl⟩⟩
          rw [wk_step hst]
          cases hst2 : lstep (lrest cur) with
          | true => exact combL2 ..
          | false => rw [wk_stop hst2]; exact combL ..
      | false =>
        have fin : ∀ R', R' = rl (stL 4 5 cur left acc) → TurnOk 0 ix0 xinv xres xmu (.l cur left acc) R' (Turn.ends (.exit 0) (.tuple []) (stL 4 5 cur left acc)) := fun R' e => by subst e; exact ⟨.inl ⟨rfl, rfl⟩, rfl, Opn.wk ⟨rfl, rfl⟩⟩
        rcases lstop_cases hst with h | ⟨h1, h2, h3⟩ | ⟨h1, h2, h3, h4⟩ | ⟨h1, h2, h3, h4, h5⟩
        · exact ⟨_, follow_val (wL_6 cur left acc n) (by rw [c0, h]; rfl), fin _ rfl⟩
        · exact ⟨_, follow_val (wL_5 cur left acc n) (by rw [c0, lab0_eq]; simp only [h1, List.cons.injEq, Bool.not_eq_true', decide_eq_true_eq, decide_eq_false_iff_not, and_true, not_false_eq_true, decide_false, Bool.not_false, true_and]; omega), fin _ rfl⟩
        · exact ⟨_, follow_val (wL_4 cur left acc n) (by rw [c0, lab0_eq]; simp only [h1, List.cons.injEq, Bool.not_eq_true', decide_eq_true_eq, decide_eq_false_iff_not, and_true, not_false_eq_true, decide_false, Bool.not_false, true_and]; omega), fin _ rfl⟩
        · exact ⟨_, follow_val (wL_3 cur left acc n) (by rw [c0, wlab, lab0_eq]; simp only [h1, List.cons.injEq, Bool.not_eq_true', decide_eq_true_eq, decide_eq_false_iff_not, and_true, not_false_eq_true, decide_false, Bool.not_false, true_and, Int.ofNat_eq_natCast]; omega), fin _ rfl⟩
    · cases hR
noncomputable def lOk (a c : Code) : Bool := @decide (a = lA ∧ c = lC) (Classical.propDecidable _)
noncomputable def core255 : LSpec
  | [.yield 0, .ptr 1 0], ⟨[(0, .loop 156 [4, 5] [.ptr 2 0, .ptr 3 0] [11, 12] a c), (1, .row 9 [.s _ cur] none), (2, .row 72 [.nil .s] none), (3, .row 9 [.s _ left] none)], 4⟩ => .need (lOk a c && decide (cur.length < 100000)) (.node (lstep cur) (.leaf (rl ((wk cur left []).st 4 5))) (.leaf (rl (stEp cur left))))
  | _, _ => .fail
theorem core255_ok (vals : List SV) (sh : SH) (R : LR) (h : (core255 vals sh).val = some R) : ∃ x R1, openL (xinv x).1 = openL vals ∧ (xinv x).2.opened = sh.opened ∧ xres x = some R1 ∧ R1.e = R.e ∧ R1.ix = R.ix ∧ Opn (.tuple R1.v, R1.h) (.tuple R.v, R.h) ∧ xmu x < 100000 := by
  unfold core255 at h
  split at h
  · rename_i a c o1 cur o2 left
    obtain ⟨h1, h2⟩ := need_some h
    rw [Bool.and_eq_true] at h1
    obtain ⟨h0, h1⟩ := h1
    obtain ⟨rfl, rfl⟩ := @of_decide_eq_true _ (Classical.propDecidable _) h0
    have h1 := of_decide_eq_true h1
    refine ⟨.e cur left, R, rfl, rfl, ?_, rfl, rfl, ⟨rfl, rfl⟩, h1⟩
    show (if cur.length < 1000000 then _ else _) = _
    rw [if_pos (by omega)]
    rcases node_some h2 with ⟨e, h2⟩ | ⟨e, h2⟩
    · rw [e, ← leaf_some h2]
    · rw [e, ← leaf_some h2]
  · cases h
theorem loop255_ok : LoopOk Tryz.prog 255 0 1 (liftL [0, 1] core255) := loop_at cfg_none Tryz.func255 (by kernel_rfl) core255_ok turn255
noncomputable def cL : Cfg := Cfg.none.addL 255 0 1 (liftL [0, 1] core255)
theorem cL_ok : CfgOk Tryz.prog cL := cfg_none.addL loop255_ok
noncomputable def lPre : List Code := rgPres 3 b156
noncomputable def lR3 : Code := rgR3 c156
noncomputable def lG : Operand := rgG c156
noncomputable def lPs : Array Nat := rgPs c156
noncomputable def lPost : Code := rgPost c156
theorem body156 : ∀ fn, Tryz.prog.funcs[156]? = some fn → fn.body = some (nest lR3 0 lG lPs lA lC lPost lPre) := fun fn h => by
  rw [Tryz.func156] at h
  cases h
  kernel_rfl
noncomputable def se156 (n : Nat) (args : List SV) (sh : SH) : DT (Option (SV × SH)) := seCR Tryz.prog cL (n + 2) 156 lPre lR3 [4, 5] lG lPs lA lC lPost args sh
theorem w156_1 (s : List UInt8) (n : Nat) : DT.follow [true, true, true] (se156 n [.s true s] .empty) = some ([lOk lA lC && decide (List.length s < 100000), lstep s, !TB.c { o := true || false, c := decide (LW.left (wk s s []) = Array.toList (ByteArray.data { data := #[0] })) }], some (SV.tuple [SV.nil NK.s, SV.i false IntKind.i64 2], { objs := [], nm := 0 })) := by kernel_rfl
theorem w156_2 (s : List UInt8) (n : Nat) : DT.follow [true, true, false, true] (se156 n [.s true s] .empty) = some ([lOk lA lC && decide (List.length s < 100000), lstep s, !TB.c { o := true || false, c := decide (LW.left (wk s s []) = Array.toList (ByteArray.data { data := #[0] })) }, decide (255 < Int.ofNat (List.length s))], some (SV.tuple [SV.nil NK.s, SV.i false IntKind.i64 3], { objs := [], nm := 0 })) := by kernel_rfl
theorem w156_3 (s : List UInt8) (n : Nat) : DT.follow [true, true, false, false] (se156 n [.s true s] .empty) = some ([lOk lA lC && decide (List.length s < 100000), lstep s, !TB.c { o := true || false, c := decide (LW.left (wk s s []) = Array.toList (ByteArray.data { data := #[0] })) }, decide (255 < Int.ofNat (List.length s))], some (SV.tuple [SV.tsl 0 1 0 (List.length (LW.acc (wk s s []))), SV.i false IntKind.i64 0], { objs := [(0, SO.lrow 9 [FK.str] (wk s s []).3)], nm := 1 })) := by kernel_rfl
theorem w156_4 (s : List UInt8) (n : Nat) : DT.follow [true, false, true] (se156 n [.s true s] .empty) = some ([lOk lA lC && decide (List.length s < 100000), lstep s, !TB.c { o := true || false, c := decide (s = Array.toList (ByteArray.data { data := #[0] })) }], some (SV.tuple [SV.nil NK.s, SV.i false IntKind.i64 2], { objs := [], nm := 0 })) := by kernel_rfl
theorem w156_5 (s : List UInt8) (n : Nat) : DT.follow [true, false, false, true] (se156 n [.s true s] .empty) = some ([lOk lA lC && decide (List.length s < 100000), lstep s, !TB.c { o := true || false, c := decide (s = Array.toList (ByteArray.data { data := #[0] })) }, decide (255 < Int.ofNat (List.length s))], some (SV.tuple [SV.nil NK.s, SV.i false IntKind.i64 3], { objs := [], nm := 0 })) := by kernel_rfl
theorem w156_6 (s : List UInt8) (n : Nat) : DT.follow [true, false, false, false] (se156 n [.s true s] .empty) = some ([lOk lA lC && decide (List.length s < 100000), lstep s, !TB.c { o := true || false, c := decide (s = Array.toList (ByteArray.data { data := #[0] })) }, decide (255 < Int.ofNat (List.length s))], some (SV.tuple [SV.nil NK.s, SV.i false IntKind.i64 0], { objs := [], nm := 0 })) := by kernel_rfl
def nilS : SV := .nil .s
def sp156 : Spec
  | [.s _ s], ⟨[], 0⟩ => .need (decide (s.length < 100000)) (.node (decide ((wk s s []).left = [0])) (.node (decide (s.length ≤ 255)) (.node (lstep s) (.leaf (.tuple [.tsl 0 1 0 (wk s s []).acc.length, .i false .i64 0], ⟨[(0, .lrow 9 [.str] (wk s s []).acc)], 1⟩)) (.leaf (.tuple [nilS, .i false .i64 0], .empty))) (.leaf (.tuple [nilS, .i false .i64 3], .empty))) (.leaf (.tuple [nilS, .i false .i64 2], .empty)))
  | _, _ => .fail
theorem cond156 {s : List UInt8} (h : s.length < 100000) : (lOk lA lC && decide (List.length s < 100000)) = true := by
  rw [decide_eq_true h, Bool.and_true]
  exact @decide_eq_true _ (Classical.propDecidable _) ⟨rfl, rfl⟩
theorem cz (s : List UInt8) : (!TB.c { o := true || false, c := decide (s = Array.toList (ByteArray.data { data := #[0] })) }) = !decide (s = [0]) := rfl
theorem c255 (s : List UInt8) : decide (255 < Int.ofNat (List.length s)) = !decide (s.length ≤ 255) := by
  by_cases h : s.length ≤ 255
  · rw [decide_eq_true h, decide_eq_false (by rw [Int.ofNat_eq_natCast]; omega)]; rfl
  · rw [decide_eq_false h, decide_eq_true (by rw [Int.ofNat_eq_natCast]; omega)]; rfl
theorem sp156_ok : SpecOk Tryz.prog 156 3 sp156 := specR_ok (d := 2) cL_ok body156 fun n args sh r hr => by
  unfold sp156 at hr
  split at hr
  · rename_i o s
    obtain ⟨hs, hr⟩ := need_some hr
    have hs := of_decide_eq_true hs
    rw [seCR_open]
    show ∃ r1, (se156 n [.s true s] .empty).val = _ ∧ _
    cases hst : lstep s with
    | true =>
      rcases node_some hr with ⟨hc, hr⟩ | ⟨hc, hr⟩
      · rcases node_some hr with ⟨hd, hr⟩ | ⟨hd, hr⟩
        · rcases node_some hr with ⟨he, hr⟩ | ⟨he, hr⟩
          · exact ⟨_, follow_val (w156_3 s n) (by rw [cond156 hs, hst, cz, hc, c255, hd]; rfl), by rw [← leaf_some hr]; exact ⟨rfl, rfl⟩⟩
          · rw [hst] at he; cases he
        · exact ⟨_, follow_val (w156_2 s n) (by rw [cond156 hs, hst, cz, hc, c255, hd]; rfl), by rw [← leaf_some hr]; exact ⟨rfl, rfl⟩⟩
      · exact ⟨_, follow_val (w156_1 s n) (by rw [cond156 hs, hst, cz, hc]; rfl), by rw [← leaf_some hr]; exact ⟨rfl, rfl⟩⟩
    | false =>
      rw [wk_stop hst] at hr
      rcases node_some hr with ⟨hc, hr⟩ | ⟨hc, hr⟩
      · have hc : decide (s = [0]) = true := hc
        rcases node_some hr with ⟨hd, hr⟩ | ⟨hd, hr⟩
        · rcases node_some hr with ⟨he, hr⟩ | ⟨he, hr⟩
          · rw [hst] at he; cases he
          · exact ⟨_, follow_val (w156_6 s n) (by rw [cond156 hs, hst, cz, hc, c255, hd]; rfl), by rw [← leaf_some hr]; exact ⟨rfl, rfl⟩⟩
        · exact ⟨_, follow_val (w156_5 s n) (by rw [cond156 hs, hst, cz, hc, c255, hd]; rfl), by rw [← leaf_some hr]; exact ⟨rfl, rfl⟩⟩
      · have hc : decide (s = [0]) = false := hc
        exact ⟨_, follow_val (w156_4 s n) (by rw [cond156 hs, hst, cz, hc]; rfl), by rw [← leaf_some hr]; exact ⟨rfl, rfl⟩⟩
  · cases hr
end Go.Proofs.YtgemonlknehegaaGreatDoor.AI
