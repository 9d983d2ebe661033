/- The chain of TopRefuses, part 36. -/
import Derived.Test.YtgemonlknehegaaGreatDoorK35
namespace Go.Proofs.YtgemonlknehegaaGreatDoor.AI
open Go
set_option linter.unusedVariables false
set_option linter.unusedSimpArgs false
set_option maxRecDepth 100000
def iv (s : List UInt8) (i : Nat) : List SV × SH := ([.s true s, .i true .i64 (Int.ofNat i)], .empty)
def ixI : AExit → List Nat := fun _ => [0, 3]
theorem wWh_1 (s : List UInt8) (i : Nat) (n : Nat) : DT.follow [true, true, true, true, true, true] (seL Tryz.prog cT (n + 1) 243 35 (blkL Tryz.f243 0) [0, 3] ixI (iv s i)) = some ([decide (Int.ofNat i < Int.ofNat (List.length s)), nn (Int.ofNat i), decide (Int.toNat (Int.ofNat i) < List.length s), decide (0 < Int.ofNat (UInt8.toNat (List.getD s (Int.toNat (Int.ofNat i)) 0))), nn (Int.ofNat i), decide (Int.toNat (Int.ofNat i) < List.length s)], Turn.next [SV.s true s, SV.i true IntKind.i64 (IntKind.wrap IntKind.i64 (Int.ofNat i + IntKind.wrap IntKind.i64 (1 + IntKind.wrap IntKind.i64 (Int.ofNat (UInt8.toNat (List.getD s (Int.toNat (Int.ofNat i)) 0))))))] { objs := [], nm := 0 } [] { objs := [], nm := 0 }) := by kernel_rfl
theorem wWh_2 (s : List UInt8) (i : Nat) (n : Nat) : DT.follow [true, true, true, false] (seL Tryz.prog cT (n + 1) 243 35 (blkL Tryz.f243 0) [0, 3] ixI (iv s i)) = some ([decide (Int.ofNat i < Int.ofNat (List.length s)), nn (Int.ofNat i), decide (Int.toNat (Int.ofNat i) < List.length s), decide (0 < Int.ofNat (UInt8.toNat (List.getD s (Int.toNat (Int.ofNat i)) 0)))], Turn.ends (AExit.exit 0) (SV.tuple [SV.s true s, SV.i true IntKind.i64 (Int.ofNat i)]) { objs := [], nm := 0 }) := by kernel_rfl
theorem wWh_3 (s : List UInt8) (i : Nat) (n : Nat) : DT.follow [false] (seL Tryz.prog cT (n + 1) 243 35 (blkL Tryz.f243 0) [0, 3] ixI (iv s i)) = some ([decide (Int.ofNat i < Int.ofNat (List.length s))], Turn.ends (AExit.exit 0) (SV.tuple [SV.s true s, SV.i true IntKind.i64 (Int.ofNat i)]) { objs := [], nm := 0 }) := by kernel_rfl
theorem wSt_1 (s : List UInt8) (i : Nat) (n : Nat) : DT.follow [true, true, true] (seL Tryz.prog cT (n + 1) 244 23 (blkL Tryz.f244 0) [0, 3] ixI (iv s i)) = some ([decide (Int.ofNat i < Int.ofNat (List.length s)), nn (Int.ofNat i), decide (Int.toNat (Int.ofNat i) < List.length s)], Turn.next [SV.s true s, SV.i true IntKind.i64 (IntKind.wrap IntKind.i64 (Int.ofNat i + IntKind.wrap IntKind.i64 (1 + IntKind.wrap IntKind.i64 (Int.ofNat (UInt8.toNat (List.getD s (Int.toNat (Int.ofNat i)) 0))))))] { objs := [], nm := 0 } [] { objs := [], nm := 0 }) := by kernel_rfl
theorem wSt_2 (s : List UInt8) (i : Nat) (n : Nat) : DT.follow [false] (seL Tryz.prog cT (n + 1) 244 23 (blkL Tryz.f244 0) [0, 3] ixI (iv s i)) = some ([decide (Int.ofNat i < Int.ofNat (List.length s))], Turn.ends (AExit.exit 0) (SV.tuple [SV.s true s, SV.i true IntKind.i64 (Int.ofNat i)]) { objs := [], nm := 0 }) := by kernel_rfl
/-- the place behind texts, one by one -/
def skI (z : Bool) : Nat → List UInt8 → Nat → Nat
  | 0, s, i => i
  | n + 1, s, i => if i < s.length ∧ (z = true → 0 < at8 s i) then skI z n s (i + (1 + at8 s i)) else i
def skF (z : Bool) (s : List UInt8) (i : Nat) : Nat := skI z (s.length - i) s i
theorem skI_fuel (z : Bool) (s : List UInt8) : ∀ (n m i : Nat), s.length - i ≤ n → s.length - i ≤ m → skI z n s i = skI z m s i
  | 0, 0, _, _, _ => rfl
  | 0, m + 1, i, h, _ => by
    show i = if i < s.length ∧ _ then _ else i
    rw [if_neg (by omega)]
  | n + 1, 0, i, _, h => by
    show (if i < s.length ∧ _ then _ else i) = i
    rw [if_neg (by omega)]
  | n + 1, m + 1, i, h1, h2 => by
    show (if i < s.length ∧ _ then skI z n s _ else i) = if i < s.length ∧ _ then skI z m s _ else i
    by_cases h : i < s.length ∧ (z = true → 0 < at8 s i)
    · rw [if_pos h, if_pos h]; exact skI_fuel z s n m _ (by omega) (by omega)
    · rw [if_neg h, if_neg h]
theorem skF_step {z : Bool} {s : List UInt8} {i : Nat} (h : i < s.length ∧ (z = true → 0 < at8 s i)) : skF z s i = skF z s (i + (1 + at8 s i)) := by
  unfold skF
  rw [skI_fuel z s _ (s.length - i + 1) i (Nat.le_refl _) (by omega)]
  show (if i < s.length ∧ _ then skI z _ s _ else i) = _
  rw [if_pos h]
  exact skI_fuel z s _ _ _ (by omega) (by omega)
theorem skF_stop {z : Bool} {s : List UInt8} {i : Nat} (h : ¬ (i < s.length ∧ (z = true → 0 < at8 s i))) : skF z s i = i := by
  unfold skF
  rw [skI_fuel z s _ (s.length - i + 1) i (Nat.le_refl _) (by omega)]
  show (if i < s.length ∧ _ then skI z _ s _ else i) = _
  rw [if_neg h]
theorem skI_lt (z : Bool) (s : List UInt8) : ∀ (n i : Nat), i < s.length + 256 → skI z n s i < s.length + 256
  | 0, i, h => h
  | n + 1, i, h => by
    show (if i < s.length ∧ _ then skI z n s _ else i) < _
    split
    · rename_i hc
      have := at8_lt s i
      exact skI_lt z s n _ (by omega)
    · exact h
theorem skF_lt (z : Bool) (s : List UInt8) : skF z s 0 < s.length + 256 := skI_lt z s _ 0 (by omega)
structure XI where
  s : List UInt8
  i : Nat
def iinv (x : XI) : List SV × SH := iv x.s x.i
def iR (z : Bool) (s : List UInt8) (i : Nat) : LR := ⟨.normal, [0, 3], [.s true s, .i true .i64 (Int.ofNat (skF z s i))], .empty⟩
noncomputable def ires (z : Bool) (x : XI) : Option LR := if x.s.length < 100000 then some (iR z x.s x.i) else none
def imu (x : XI) : Nat := x.s.length - x.i
theorem combI (z : Bool) (s : List UInt8) (i : Nat) : comb 0 [] ⟨[], 0⟩ (iR z s i) = some (.tuple [.s true s, .i true .i64 (Int.ofNat (skF z s i))], ⟨[], 0⟩) := by kernel_rfl
theorem wrapI {s : List UInt8} {i : Nat} (h : i < s.length) (hl : s.length < 100000) : IntKind.wrap IntKind.i64 (Int.ofNat i + IntKind.wrap IntKind.i64 (1 + IntKind.wrap IntKind.i64 (Int.ofNat (UInt8.toNat (List.getD s (Int.toNat (Int.ofNat i)) 0))))) = Int.ofNat (i + (1 + at8 s i)) := by
  have hb := at8_lt s i
  rw [tn, show List.getD s i 0 = s.getD i 0 from rfl, show (s.getD i 0).toNat = at8 s i from rfl, Int.ofNat_eq_natCast, Int.ofNat_eq_natCast, wrap64 (x := (at8 s i : Int)) (by omega) (by omega), wrap64 (x := 1 + (at8 s i : Int)) (by omega) (by omega), wrap64 (by omega) (by omega)]
  show (i : Int) + (1 + (at8 s i : Int)) = ((i + (1 + at8 s i) : Nat) : Int)
  omega
theorem inext {z : Bool} {s : List UInt8} {i : Nat} (hl : s.length < 100000) (h : i < s.length ∧ (z = true → 0 < at8 s i)) : TurnOk 0 ixI iinv (ires z) imu ⟨s, i⟩ (iR z s i) (.next [.s true s, .i true .i64 (IntKind.wrap IntKind.i64 (Int.ofNat i + IntKind.wrap IntKind.i64 (1 + IntKind.wrap IntKind.i64 (Int.ofNat (UInt8.toNat (List.getD s (Int.toNat (Int.ofNat i)) 0))))))] ⟨[], 0⟩ [] ⟨[], 0⟩) := by
  refine ⟨⟨s, i + (1 + at8 s i)⟩, iR z s (i + (1 + at8 s i)), ?_, rfl, ?_, if_pos hl, rfl, rfl, _, combI .., ?_⟩
  · rw [wrapI h.1 hl]; rfl
  · show s.length - (i + (1 + at8 s i)) < s.length - i; omega
  · rw [← skF_step h]; exact Opn.wk ⟨rfl, rfl⟩
theorem iends {z : Bool} {s : List UInt8} {i : Nat} (h : ¬ (i < s.length ∧ (z = true → 0 < at8 s i))) : TurnOk 0 ixI iinv (ires z) imu ⟨s, i⟩ (iR z s i) (.ends (.exit 0) (.tuple [.s true s, .i true .i64 (Int.ofNat i)]) ⟨[], 0⟩) := by
  refine ⟨.inl ⟨rfl, rfl⟩, rfl, ?_⟩
  unfold iR
  rw [skF_stop h]; exact Opn.wk ⟨rfl, rfl⟩
theorem turn243 (n : Nat) (x : XI) (R : LR) (hR : ires true x = some R) : ∃ t, (seL Tryz.prog cT (n + 1) 243 Tryz.f243.ntmps (blkL Tryz.f243 0) [0, 3] ixI (iinv x)).val = some t ∧ TurnOk 0 ixI iinv (ires true) imu x R t := by
  obtain ⟨s, i⟩ := x
  unfold ires at hR
  split at hR
  · rename_i hl
    have hl : s.length < 100000 := hl
    cases hR
    by_cases h1 : i < s.length
    · have d1 : decide (Int.ofNat i < Int.ofNat s.length) = true := decide_eq_true (by rw [Int.ofNat_eq_natCast, Int.ofNat_eq_natCast]; omega)
      have d2 : nn (Int.ofNat i) = true := nnN i
      have d3 : decide (i < s.length) = true := decide_eq_true h1
      by_cases h2 : 0 < at8 s i
      · have d4 : decide (0 < Int.ofNat (UInt8.toNat (List.getD s i 0))) = true := decide_eq_true (by rw [Int.ofNat_eq_natCast]; exact Int.natCast_pos.2 h2)
        exact ⟨_, follow_val (wWh_1 s i n) (by rw [tn, d1, d2, d3, d4]), inext hl ⟨h1, fun _ => h2⟩⟩
      · have d4 : decide (0 < Int.ofNat (UInt8.toNat (List.getD s i 0))) = false := decide_eq_false (by rw [Int.ofNat_eq_natCast]; exact fun h => h2 (Int.natCast_pos.1 h))
        exact ⟨_, follow_val (wWh_2 s i n) (by rw [tn, d1, d2, d3, d4]), iends fun h => h2 (h.2 rfl)⟩
    · exact ⟨_, follow_val (wWh_3 s i n) (by rw [decide_eq_false (by rw [Int.ofNat_eq_natCast, Int.ofNat_eq_natCast]; omega)]), iends fun h => h1 h.1⟩
  · cases hR
theorem turn244 (n : Nat) (x : XI) (R : LR) (hR : ires false x = some R) : ∃ t, (seL Tryz.prog cT (n + 1) 244 Tryz.f244.ntmps (blkL Tryz.f244 0) [0, 3] ixI (iinv x)).val = some t ∧ TurnOk 0 ixI iinv (ires false) imu x R t := by
  obtain ⟨s, i⟩ := x
  unfold ires at hR
  split at hR
  · rename_i hl
    have hl : s.length < 100000 := hl
    cases hR
    by_cases h1 : i < s.length
    · have d1 : decide (Int.ofNat i < Int.ofNat s.length) = true := decide_eq_true (by rw [Int.ofNat_eq_natCast, Int.ofNat_eq_natCast]; omega)
      have d2 : nn (Int.ofNat i) = true := nnN i
      have d3 : decide (i < s.length) = true := decide_eq_true h1
      exact ⟨_, follow_val (wSt_1 s i n) (by rw [tn, d1, d2, d3]), inext hl ⟨h1, fun e => by cases e⟩⟩
    · exact ⟨_, follow_val (wSt_2 s i n) (by rw [decide_eq_false (by rw [Int.ofNat_eq_natCast, Int.ofNat_eq_natCast]; omega)]), iends fun h => h1 h.1⟩
  · cases hR
def coreI (z : Bool) : LSpec
  | [.s _ s, .i _ .i64 (.ofNat 0)], ⟨[], 0⟩ => .need (decide (s.length < 100000)) (.leaf (iR z s 0))
  | _, _ => .fail
theorem coreI_ok (z : Bool) (vals : List SV) (sh : SH) (R : LR) (h : (coreI z vals sh).val = some R) : ∃ x R1, openL (iinv x).1 = openL vals ∧ (iinv x).2.opened = sh.opened ∧ ires z x = some R1 ∧ R1.e = R.e ∧ R1.ix = R.ix ∧ Opn (.tuple R1.v, R1.h) (.tuple R.v, R.h) ∧ imu x < 100000 := by
  unfold coreI at h
  split at h
  · rename_i o1 s o2
    obtain ⟨h1, h2⟩ := need_some h
    have h1 := of_decide_eq_true h1
    exact ⟨⟨s, 0⟩, R, rfl, rfl, by rw [← leaf_some h2]; exact if_pos h1, rfl, rfl, ⟨rfl, rfl⟩, by show s.length - 0 < 100000; omega⟩
  · cases h
theorem loop243_ok : LoopOk Tryz.prog 243 0 1 (liftL [0, 3] (coreI true)) := loop_at cT_ok Tryz.func243 (by kernel_rfl) (coreI_ok true) turn243
theorem loop244_ok : LoopOk Tryz.prog 244 0 1 (liftL [0, 3] (coreI false)) := loop_at cT_ok Tryz.func244 (by kernel_rfl) (coreI_ok false) turn244
noncomputable def cW0 : Cfg := (cT.addL 243 0 1 (liftL [0, 3] (coreI true))).addL 244 0 1 (liftL [0, 3] (coreI false))
theorem cW0_ok : CfgOk Tryz.prog cW0 := (cT_ok.addL loop243_ok).addL loop244_ok
theorem w243_1 (s : List UInt8) (n : Nat) : DT.follow [true, true] (seC Tryz.prog cW0 (n + 4) 243 [.s true s] .empty) = some ([decide (List.length s < 100000), decide (Int.ofNat (List.length s) ≤ Int.ofNat (skF true s 0))], some (SV.i false IntKind.i64 0, { objs := [], nm := 0 })) := by kernel_rfl
theorem w243_2 (s : List UInt8) (n : Nat) : DT.follow [true, false, true, true, true, true] (seC Tryz.prog cW0 (n + 4) 243 [.s true s] .empty) = some ([decide (List.length s < 100000), decide (Int.ofNat (List.length s) ≤ Int.ofNat (skF true s 0)), nn (IntKind.wrap IntKind.i64 (Int.ofNat (skF true s 0) + 1)), decide (Prod.snd (false, 0) ≤ Int.toNat (IntKind.wrap IntKind.i64 (Int.ofNat (skF true s 0) + 1)) ∧ Int.toNat (IntKind.wrap IntKind.i64 (Int.ofNat (skF true s 0) + 1)) ≤ List.length s), decide (List.length (List.take (Int.toNat (IntKind.wrap IntKind.i64 (Int.ofNat (skF true s 0) + 1)) - Prod.snd (false, 0)) (List.drop (Prod.snd (false, 0)) s)) < 100000), !mayN (List.take (Int.toNat (IntKind.wrap IntKind.i64 (Int.ofNat (skF true s 0) + 1)) - Prod.snd (false, 0)) (List.drop (Prod.snd (false, 0)) s))], some (SV.i false IntKind.i64 0, { objs := [], nm := 0 })) := by kernel_rfl
theorem w243_3 (s : List UInt8) (n : Nat) : DT.follow [true, false, true, true, true, false] (seC Tryz.prog cW0 (n + 4) 243 [.s true s] .empty) = some ([decide (List.length s < 100000), decide (Int.ofNat (List.length s) ≤ Int.ofNat (skF true s 0)), nn (IntKind.wrap IntKind.i64 (Int.ofNat (skF true s 0) + 1)), decide (Prod.snd (false, 0) ≤ Int.toNat (IntKind.wrap IntKind.i64 (Int.ofNat (skF true s 0) + 1)) ∧ Int.toNat (IntKind.wrap IntKind.i64 (Int.ofNat (skF true s 0) + 1)) ≤ List.length s), decide (List.length (List.take (Int.toNat (IntKind.wrap IntKind.i64 (Int.ofNat (skF true s 0) + 1)) - Prod.snd (false, 0)) (List.drop (Prod.snd (false, 0)) s)) < 100000), !mayN (List.take (Int.toNat (IntKind.wrap IntKind.i64 (Int.ofNat (skF true s 0) + 1)) - Prod.snd (false, 0)) (List.drop (Prod.snd (false, 0)) s))], some (SV.i true IntKind.i64 (IntKind.wrap IntKind.i64 (Int.ofNat (skF true s 0) + 1)), { objs := [], nm := 0 })) := by kernel_rfl
theorem w244_1 (s : List UInt8) (n : Nat) : DT.follow [true, true] (seC Tryz.prog cW0 (n + 4) 244 [.s true s] .empty) = some ([decide (List.length s < 100000), !TB.c { o := true || false, c := decide (s = Array.toList (ByteArray.data { data := #[] })) }], some (SV.b (TB.o { o := true || true, c := decide (Int.ofNat (skF false s 0) = Int.ofNat (List.length s)) }) (TB.c { o := true || true, c := decide (Int.ofNat (skF false s 0) = Int.ofNat (List.length s)) }), { objs := [], nm := 0 })) := by kernel_rfl
theorem w244_2 (s : List UInt8) (n : Nat) : DT.follow [true, false] (seC Tryz.prog cW0 (n + 4) 244 [.s true s] .empty) = some ([decide (List.length s < 100000), !TB.c { o := true || false, c := decide (s = Array.toList (ByteArray.data { data := #[] })) }], some (SV.b false false, { objs := [], nm := 0 })) := by kernel_rfl
/-- the size of the whole name with which a text begins -/
def whN (s : List UInt8) : Nat := match decide (s.length ≤ skF true s 0) with | true => 0 | false => (match mayN (s.take (skF true s 0 + 1)) with | true => skF true s 0 + 1 | false => 0)
def stB (s : List UInt8) : Bool := !decide (s = []) && decide (skF false s 0 = s.length)
def sp243 : Spec
  | [.s _ s], ⟨[], 0⟩ => .need (decide (s.length < 100000)) (.leaf (.i true .i64 (Int.ofNat (whN s)), .empty))
  | _, _ => .fail
def sp244 : Spec
  | [.s _ s], ⟨[], 0⟩ => .need (decide (s.length < 100000)) (.leaf (.b true (stB s), .empty))
  | _, _ => .fail
theorem sp243_ok : SpecOk Tryz.prog 243 5 sp243 := spec_ok cW0_ok fun n args sh r hr => by
  unfold sp243 at hr
  split at hr
  · rename_i o s
    obtain ⟨hs, hr⟩ := need_some hr
    have hl := of_decide_eq_true hs
    rw [seC_open]
    show ∃ r1, (seC Tryz.prog cW0 (n + 4) 243 [.s true s] .empty).val = _ ∧ _
    have e := leaf_some hr
    have hk := skF_lt true s
    have hw : IntKind.wrap IntKind.i64 (Int.ofNat (skF true s 0) + 1) = Int.ofNat (skF true s 0 + 1) := by
      rw [Int.ofNat_eq_natCast, wrap64 (by omega) (by omega)]
      show (skF true s 0 : Int) + 1 = ((skF true s 0 + 1 : Nat) : Int)
      omega
    cases h1 : decide (s.length ≤ skF true s 0) with
    | true =>
      refine ⟨_, follow_val (w243_1 s n) (by rw [hs, decide_eq_true (by rw [Int.ofNat_eq_natCast, Int.ofNat_eq_natCast]; have := of_decide_eq_true h1; omega)]), ?_⟩
      rw [← e]; unfold whN; rw [h1]; exact ⟨rfl, rfl⟩
    | false =>
      have h1' := of_decide_eq_false h1
      have d1 : decide (Int.ofNat s.length ≤ Int.ofNat (skF true s 0)) = false := decide_eq_false (by rw [Int.ofNat_eq_natCast, Int.ofNat_eq_natCast]; omega)
      have d2 : nn (Int.ofNat (skF true s 0 + 1)) = true := nnN _
      have d3 : decide (Prod.snd (false, 0) ≤ skF true s 0 + 1 ∧ skF true s 0 + 1 ≤ s.length) = true := decide_eq_true ⟨Nat.zero_le _, by omega⟩
      have d4 : List.take (skF true s 0 + 1 - Prod.snd (false, 0)) (List.drop (Prod.snd (false, 0)) s) = s.take (skF true s 0 + 1) := rfl
      have d5 : decide ((s.take (skF true s 0 + 1)).length < 100000) = true := decide_eq_true (by rw [List.length_take]; omega)
      cases h2 : mayN (s.take (skF true s 0 + 1)) with
      | true =>
        refine ⟨_, follow_val (w243_3 s n) (by rw [hw, tn, d4, hs, d1, d2, d3, d5, h2]; rfl), ?_⟩
        rw [← e, hw]; unfold whN; rw [h1, h2]; exact ⟨rfl, rfl⟩
      | false =>
        refine ⟨_, follow_val (w243_2 s n) (by rw [hw, tn, d4, hs, d1, d2, d3, d5, h2]; rfl), ?_⟩
        rw [← e]; unfold whN; rw [h1, h2]; exact ⟨rfl, rfl⟩
  · cases hr
theorem sp244_ok : SpecOk Tryz.prog 244 5 sp244 := spec_ok cW0_ok fun n args sh r hr => by
  unfold sp244 at hr
  split at hr
  · rename_i o s
    obtain ⟨hs, hr⟩ := need_some hr
    rw [seC_open]
    show ∃ r1, (seC Tryz.prog cW0 (n + 4) 244 [.s true s] .empty).val = _ ∧ _
    have e := leaf_some hr
    unfold stB at e
    cases h1 : decide (s = []) with
    | true =>
      rw [h1] at e
      exact ⟨_, follow_val (w244_2 s n) (by rw [hs, c0, h1]; rfl), by rw [← e]; exact ⟨rfl, rfl⟩⟩
    | false =>
      rw [h1] at e
      refine ⟨_, follow_val (w244_1 s n) (by rw [hs, c0, h1]; rfl), ?_⟩
      rw [← e]
      refine ⟨?_, rfl⟩
      show SV.b true (decide (Int.ofNat (skF false s 0) = Int.ofNat s.length)) = SV.b true (decide (skF false s 0 = s.length))
      congr 1
      exact decide_eq_decide.2 ⟨fun h => Int.ofNat.inj h, fun h => by rw [h]⟩
  · cases hr
noncomputable def cW : Cfg := (cT.addS 243 5 (lift sp243)).addS 244 5 (lift sp244)
theorem cW_ok : CfgOk Tryz.prog cW := (cT_ok.addS (lift_ok sp243_ok)).addS (lift_ok sp244_ok)
end Go.Proofs.YtgemonlknehegaaGreatDoor.AI
