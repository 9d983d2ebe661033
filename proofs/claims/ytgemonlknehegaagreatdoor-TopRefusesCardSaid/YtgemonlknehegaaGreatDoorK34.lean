/- The chain of TopRefuses, part 34. -/
import Derived.Test.YtgemonlknehegaaGreatDoorK33
namespace Go.Proofs.YtgemonlknehegaaGreatDoor.AI
open Go
set_option linter.unusedVariables false
set_option linter.unusedSimpArgs false
set_option maxRecDepth 100000
/-- the memory while letters are made small -/
def stF (L : Nat) (l : List UInt8) (i : Nat) : List SV × SH := ([.tsl 0 1 0 L, .tsl 0 1 0 L, .i true .i64 (Int.ofNat L), .i true .i64 (Int.ofNat i)], ⟨[(0, .bytes 5 l)], 1⟩)
def ixF : AExit → List Nat := fun _ => [3]
def fold1 (c : UInt8) : UInt8 := if 65 ≤ c.toNat ∧ c.toNat ≤ 90 then c + 32 else c
def fold (s : List UInt8) : List UInt8 := s.map fold1
theorem wF_1 (L : Nat) (l : List UInt8) (i : Nat) (n : Nat) : DT.follow [true, true, true, true, true, true, true, true, true] (seL Tryz.prog cL (n + 1) 157 29 (blkL Tryz.f157 0) [3, 8, 9, 10] ixF (stF L l i)) = some ([decide (Int.ofNat i < Int.ofNat L), nn (Int.ofNat i), decide (Int.toNat (Int.ofNat i) < L), decide (0 + Int.toNat (Int.ofNat i) < List.length l), decide (65 ≤ Int.ofNat (UInt8.toNat (List.getD l (0 + Int.toNat (Int.ofNat i)) 0))), decide (Int.ofNat (UInt8.toNat (List.getD l (0 + Int.toNat (Int.ofNat i)) 0)) ≤ 90), nn (Int.ofNat i), decide (Int.toNat (Int.ofNat i) < L), decide (0 + Int.toNat (Int.ofNat i) < List.length l) && inB IntKind.u8 (IntKind.wrap IntKind.u8 (Int.ofNat (UInt8.toNat (List.getD l (0 + Int.toNat (Int.ofNat i)) 0)) + 32))], Turn.next [SV.tsl 0 1 0 L, SV.tsl 0 1 0 L, SV.i true IntKind.i64 (Int.ofNat L), SV.i true IntKind.i64 (IntKind.wrap IntKind.i64 (Int.ofNat i + 1))] { objs := [(0, SO.bytes 5 (List.set l (0 + Int.toNat (Int.ofNat i)) (UInt8.ofNat (Int.toNat (IntKind.wrap IntKind.u8 (Int.ofNat (UInt8.toNat (List.getD l (0 + Int.toNat (Int.ofNat i)) 0)) + 32))))))], nm := 1 } [0] { objs := [(0, SO.bytes 5 (List.set l (0 + Int.toNat (Int.ofNat i)) (UInt8.ofNat (Int.toNat (IntKind.wrap IntKind.u8 (Int.ofNat (UInt8.toNat (List.getD l (0 + Int.toNat (Int.ofNat i)) 0)) + 32))))))], nm := 1 }) := by kernel_rfl
theorem wF_2 (L : Nat) (l : List UInt8) (i : Nat) (n : Nat) : DT.follow [true, true, true, true, true, false] (seL Tryz.prog cL (n + 1) 157 29 (blkL Tryz.f157 0) [3, 8, 9, 10] ixF (stF L l i)) = some ([decide (Int.ofNat i < Int.ofNat L), nn (Int.ofNat i), decide (Int.toNat (Int.ofNat i) < L), decide (0 + Int.toNat (Int.ofNat i) < List.length l), decide (65 ≤ Int.ofNat (UInt8.toNat (List.getD l (0 + Int.toNat (Int.ofNat i)) 0))), decide (Int.ofNat (UInt8.toNat (List.getD l (0 + Int.toNat (Int.ofNat i)) 0)) ≤ 90)], Turn.next [SV.tsl 0 1 0 L, SV.tsl 0 1 0 L, SV.i true IntKind.i64 (Int.ofNat L), SV.i true IntKind.i64 (IntKind.wrap IntKind.i64 (Int.ofNat i + 1))] { objs := [(0, SO.bytes 5 l)], nm := 1 } [0] { objs := [(0, SO.bytes 5 l)], nm := 1 }) := by kernel_rfl
theorem wF_3 (L : Nat) (l : List UInt8) (i : Nat) (n : Nat) : DT.follow [true, true, true, true, false] (seL Tryz.prog cL (n + 1) 157 29 (blkL Tryz.f157 0) [3, 8, 9, 10] ixF (stF L l i)) = some ([decide (Int.ofNat i < Int.ofNat L), nn (Int.ofNat i), decide (Int.toNat (Int.ofNat i) < L), decide (0 + Int.toNat (Int.ofNat i) < List.length l), decide (65 ≤ Int.ofNat (UInt8.toNat (List.getD l (0 + Int.toNat (Int.ofNat i)) 0)))], Turn.next [SV.tsl 0 1 0 L, SV.tsl 0 1 0 L, SV.i true IntKind.i64 (Int.ofNat L), SV.i true IntKind.i64 (IntKind.wrap IntKind.i64 (Int.ofNat i + 1))] { objs := [(0, SO.bytes 5 l)], nm := 1 } [0] { objs := [(0, SO.bytes 5 l)], nm := 1 }) := by kernel_rfl
theorem wF_4 (L : Nat) (l : List UInt8) (i : Nat) (n : Nat) : DT.follow [false] (seL Tryz.prog cL (n + 1) 157 29 (blkL Tryz.f157 0) [3, 8, 9, 10] ixF (stF L l i)) = some ([decide (Int.ofNat i < Int.ofNat L)], Turn.ends (AExit.exit 0) (SV.tuple [SV.tsl 0 1 0 L]) { objs := [(0, SO.bytes 5 l)], nm := 1 }) := by kernel_rfl
def foldFrom (l : List UInt8) (i : Nat) : List UInt8 := l.take i ++ (l.drop i).map fold1
theorem foldFrom_step {l : List UInt8} {i : Nat} (h : i < l.length) : foldFrom l i = foldFrom (l.set i (fold1 (l.getD i 0))) (i + 1) := by
  unfold foldFrom
  have hg : l.getD i 0 = l[i] := by rw [List.getD_eq_getElem?_getD, List.getElem?_eq_getElem h]; rfl
  rw [hg]
  apply List.ext_getElem?
  intro j
  rw [List.getElem?_append, List.getElem?_append]
  simp only [List.length_take, List.length_set, List.getElem?_take, List.getElem?_map, List.getElem?_drop, List.getElem?_set]
  by_cases h1 : j < i
  · rw [if_pos (by omega), if_pos h1, if_pos (by omega), if_pos (by omega), if_neg (by omega)]
  · by_cases h2 : j = i
    · subst h2
      rw [if_neg (by omega), if_pos (by omega), if_pos (by omega), if_pos rfl, if_pos h]
      rw [show j + (j - min j l.length) = j by omega, List.getElem?_eq_getElem h]; rfl
    · rw [if_neg (by omega), if_neg (by omega), if_neg (by omega)]
      rw [show i + (j - min i l.length) = j by omega, show i + 1 + (j - min (i + 1) l.length) = j by omega]
theorem foldFrom_id {l : List UInt8} {i : Nat} (h : l.length ≤ i) : foldFrom l i = l := by
  unfold foldFrom
  rw [List.drop_eq_nil_of_le h, List.take_of_length_le h, List.map_nil, List.append_nil]
theorem fold1_id {c : UInt8} (h : ¬ (65 ≤ c.toNat ∧ c.toNat ≤ 90)) : fold1 c = c := if_neg h
theorem set_same {l : List UInt8} {i : Nat} (h : i < l.length) : l.set i (l.getD i 0) = l := by
  rw [List.getD_eq_getElem?_getD, List.getElem?_eq_getElem h]
  exact List.set_getElem_self h
structure XF where
  L : Nat
  l : List UInt8
  i : Nat
def finv (x : XF) : List SV × SH := stF x.L x.l x.i
def fR (L : Nat) (l : List UInt8) : LR := ⟨.normal, [3], [.tsl 0 1 0 L], ⟨[(0, .bytes 5 l)], 1⟩⟩
noncomputable def fres (x : XF) : Option LR := if x.L < 1000000 ∧ x.l.length = x.L ∧ x.i ≤ x.L then some (fR x.L (foldFrom x.l x.i)) else none
def fmu (x : XF) : Nat := x.L - x.i
theorem combF (L : Nat) (l : List UInt8) (A : SO) : comb 1 [0] ⟨[(0, A)], 1⟩ (fR L l) = some (.tuple [.tsl 0 1 0 L], ⟨[(0, .bytes 5 l)], 1⟩) := by kernel_rfl
theorem tn (i : Nat) : Int.toNat (Int.ofNat i) = i := rfl
theorem turn157 (n : Nat) (x : XF) (R : LR) (hR : fres x = some R) : ∃ t, (seL Tryz.prog cL (n + 1) 157 Tryz.f157.ntmps (blkL Tryz.f157 0) [3, 8, 9, 10] ixF (finv x)).val = some t ∧ TurnOk 0 ixF finv fres fmu x R t := by
  obtain ⟨L, l, i⟩ := x
  unfold fres at hR
  split at hR
  · rename_i hc
    obtain ⟨h1, h2, h3⟩ := hc
    simp only at h1 h2 h3
    cases hR
    by_cases hi : i < L
    · have hil : i < l.length := by omega
      have hw : IntKind.wrap .i64 (Int.ofNat i + 1) = Int.ofNat (i + 1) := by rw [Int.ofNat_eq_natCast, wrap64 (by omega) (by omega)]; show (i : Int) + 1 = ((i + 1 : Nat) : Int); omega
      have go : ∀ l' : List UInt8, l' = l.set i (fold1 (l.getD i 0)) → TurnOk 0 ixF finv fres fmu ⟨L, l, i⟩ (fR L (foldFrom l i)) (.next [.tsl 0 1 0 l.length, .tsl 0 1 0 l.length, .i true .i64 (Int.ofNat l.length), .i true .i64 (IntKind.wrap .i64 (Int.ofNat i + 1))] ⟨[(0, .bytes 5 l')], 1⟩ [0] ⟨[(0, .bytes 5 l')], 1⟩) := fun l' e => by
        subst e
        refine ⟨⟨L, l.set i (fold1 (l.getD i 0)), i + 1⟩, fR L (foldFrom l i), ?_, rfl, ?_, ?_, rfl, rfl, _, combF L _ _, Opn.wk ⟨rfl, rfl⟩⟩
        · rw [hw, h2]; rfl
        · show L - (i + 1) < L - i; omega
        · show (if _ then _ else _) = _
          rw [if_pos ⟨h1, by rw [List.length_set]; exact h2, (show i + 1 ≤ L by omega)⟩, foldFrom_step hil]
      have d1 : decide (Int.ofNat i < Int.ofNat L) = true := decide_eq_true (by rw [Int.ofNat_eq_natCast, Int.ofNat_eq_natCast]; omega)
      have d2 : nn (Int.ofNat i) = true := nnN i
      have d3 : decide (i < l.length) = true := decide_eq_true hil
      have d3' : decide (i < L) = true := decide_eq_true hi
      have d4 : decide (0 + i < l.length) = true := decide_eq_true (by omega)
      have hb := (l.getD i 0).toNat_lt
      by_cases c1 : 65 ≤ (l.getD i 0).toNat
      · have e1 : decide (65 ≤ Int.ofNat (UInt8.toNat (List.getD l (0 + i) 0))) = true := decide_eq_true (by rw [Int.ofNat_eq_natCast, Nat.zero_add]; omega)
        by_cases c2 : (l.getD i 0).toNat ≤ 90
        · have e2 : decide (Int.ofNat (UInt8.toNat (List.getD l (0 + i) 0)) ≤ 90) = true := decide_eq_true (by rw [Int.ofNat_eq_natCast, Nat.zero_add]; omega)
          have w8 : IntKind.wrap .u8 (Int.ofNat (UInt8.toNat (List.getD l (0 + i) 0)) + 32) = (((l.getD i 0).toNat + 32 : Nat) : Int) := by
            rw [Int.ofNat_eq_natCast, Nat.zero_add, wrap8 (by omega) (by omega)]; omega
          refine ⟨_, follow_val (wF_1 L l i n) ?_, ?_⟩
          · rw [tn, d1, d2, d3', d4, e1, e2, w8]
            rw [show inB IntKind.u8 ((((l.getD i 0).toNat + 32 : Nat)) : Int) = true from decide_eq_true ⟨by omega, by show _ < (256 : Int); omega⟩]
            rfl
          · rw [tn, w8, Nat.zero_add, ← h2]
            refine h2 ▸ go _ ?_
            rw [Int.toNat_natCast]
            congr 1
            unfold fold1
            rw [if_pos ⟨c1, c2⟩]
            apply UInt8.toNat_inj.1
            rw [UInt8.toNat_add, UInt8.toNat_ofNat']
            rfl
        · have e2 : decide (Int.ofNat (UInt8.toNat (List.getD l (0 + i) 0)) ≤ 90) = false := decide_eq_false (by rw [Int.ofNat_eq_natCast, Nat.zero_add]; omega)
          refine ⟨_, follow_val (wF_2 L l i n) ?_, ?_⟩
          · rw [tn, d1, d2, d3', d4, e1, e2]
          · rw [← h2]
            exact h2 ▸ go l (by rw [fold1_id (fun h => c2 h.2), set_same hil])
      · have e1 : decide (65 ≤ Int.ofNat (UInt8.toNat (List.getD l (0 + i) 0))) = false := decide_eq_false (by rw [Int.ofNat_eq_natCast, Nat.zero_add]; omega)
        refine ⟨_, follow_val (wF_3 L l i n) ?_, ?_⟩
        · rw [tn, d1, d2, d3', d4, e1]
        · rw [← h2]
          exact h2 ▸ go l (by rw [fold1_id (fun h => c1 h.1), set_same hil])
    · refine ⟨_, follow_val (wF_4 L l i n) ?_, ?_⟩
      · rw [decide_eq_false (by rw [Int.ofNat_eq_natCast, Int.ofNat_eq_natCast]; omega)]
      · refine ⟨.inl ⟨rfl, rfl⟩, rfl, ?_⟩
        rw [foldFrom_id (show l.length ≤ i by omega)]
        exact Opn.wk ⟨rfl, rfl⟩
  · cases hR
noncomputable def core157 : LSpec
  | [.tsl 0 1 0 L, .tsl 0 1 0 L1, .i _ .i64 L2, .i _ .i64 (.ofNat 0)], ⟨[(0, .bytes 5 l)], 1⟩ => .need (decide (L < 100000 ∧ l.length = L ∧ L1 = L ∧ L2 = Int.ofNat L)) (.leaf (fR L (fold l)))
  | _, _ => .fail
theorem core157_ok (vals : List SV) (sh : SH) (R : LR) (h : (core157 vals sh).val = some R) : ∃ x R1, openL (finv x).1 = openL vals ∧ (finv x).2.opened = sh.opened ∧ fres x = some R1 ∧ R1.e = R.e ∧ R1.ix = R.ix ∧ Opn (.tuple R1.v, R1.h) (.tuple R.v, R.h) ∧ fmu x < 100000 := by
  unfold core157 at h
  split at h
  · obtain ⟨h1, h2⟩ := need_some h
    obtain ⟨h1, h3, rfl, rfl⟩ := of_decide_eq_true h1
    rename_i L o1 o2 l hL
    refine ⟨⟨L, l, 0⟩, R, rfl, rfl, ?_, rfl, rfl, ⟨rfl, rfl⟩, Nat.lt_of_le_of_lt (Nat.sub_le ..) (show L < 100000 from hL)⟩
    show (if _ then _ else _) = _
    rw [if_pos ⟨Nat.lt_trans hL (by omega), h3, Nat.zero_le _⟩, ← leaf_some h2]
    rfl
  · cases h
theorem loop157_ok : LoopOk Tryz.prog 157 0 1 (liftL [3, 8, 9, 10] core157) := loop_at cL_ok Tryz.func157 (by kernel_rfl) core157_ok turn157
noncomputable def cF0 : Cfg := cL.addL 157 0 1 (liftL [3, 8, 9, 10] core157)
theorem cF0_ok : CfgOk Tryz.prog cF0 := cL_ok.addL loop157_ok
theorem w157_1 (s : List UInt8) (n : Nat) : DT.follow [true, true, true] (seC Tryz.prog cF0 (n + 1) 157 [.s true s] .empty) = some ([decide (List.length s < 9223372036854775808), decide (List.length s < 100000 ∧ List.length s = List.length s ∧ List.length s = List.length s ∧ Int.ofNat (List.length s) = Int.ofNat (List.length s)), decide (0 + List.length s ≤ List.length (fold s))], some (SV.s true (List.take (List.length s) (List.drop 0 (fold s))), { objs := [], nm := 0 })) := by kernel_rfl
def sp157 : Spec
  | [.s _ s], ⟨[], 0⟩ => .need (decide (s.length < 100000)) (.leaf (.s true (fold s), .empty))
  | _, _ => .fail
theorem fold_length (s : List UInt8) : (fold s).length = s.length := List.length_map ..
theorem sp157_ok : SpecOk Tryz.prog 157 2 sp157 := spec_ok cF0_ok fun n args sh r hr => by
  unfold sp157 at hr
  split at hr
  · rename_i o s
    obtain ⟨hs, hr⟩ := need_some hr
    have hs := of_decide_eq_true hs
    rw [seC_open]
    show ∃ r1, (seC Tryz.prog cF0 (n + 1) 157 [.s true s] .empty).val = _ ∧ _
    refine ⟨_, follow_val (w157_1 s n) ?_, ?_⟩
    · rw [decide_eq_true (show List.length s < 9223372036854775808 by omega), decide_eq_true (show List.length s < 100000 ∧ List.length s = List.length s ∧ List.length s = List.length s ∧ Int.ofNat (List.length s) = Int.ofNat (List.length s) from ⟨hs, rfl, rfl, rfl⟩), decide_eq_true (by rw [fold_length]; omega)]
    · rw [← leaf_some hr, List.drop_zero, List.take_of_length_le (by rw [fold_length]; omega)]
      exact ⟨rfl, rfl⟩
  · cases hr
noncomputable def cM0 : Cfg := (Cfg.none.addS 156 3 (lift sp156)).addS 157 2 (lift sp157)
theorem cM0_ok : CfgOk Tryz.prog cM0 := (cfg_none.addS (lift_ok sp156_ok)).addS (lift_ok sp157_ok)
theorem w108_1 (s : List UInt8) (n : Nat) : DT.follow [true, true, true, true, true] (seC Tryz.prog cM0 (n + 3) 108 [.s true s] .empty) = some ([decide (List.length s < 100000), decide (LW.left (wk s s []) = [0]), decide (List.length s ≤ 255), lstep s, decide (List.length s < 100000)], some (SV.b (TB.o { o := true || true, c := decide (fold s = s) }) (TB.c { o := true || true, c := decide (fold s = s) }), { objs := [], nm := 0 })) := by kernel_rfl
theorem w108_2 (s : List UInt8) (n : Nat) : DT.follow [true, true, true, false, true] (seC Tryz.prog cM0 (n + 3) 108 [.s true s] .empty) = some ([decide (List.length s < 100000), decide (LW.left (wk s s []) = [0]), decide (List.length s ≤ 255), lstep s, decide (List.length s < 100000)], some (SV.b (TB.o { o := true || true, c := decide (fold s = s) }) (TB.c { o := true || true, c := decide (fold s = s) }), { objs := [], nm := 0 })) := by kernel_rfl
theorem w108_3 (s : List UInt8) (n : Nat) : DT.follow [true, true, false] (seC Tryz.prog cM0 (n + 3) 108 [.s true s] .empty) = some ([decide (List.length s < 100000), decide (LW.left (wk s s []) = [0]), decide (List.length s ≤ 255)], some (SV.b false false, { objs := [], nm := 0 })) := by kernel_rfl
theorem w108_4 (s : List UInt8) (n : Nat) : DT.follow [true, false] (seC Tryz.prog cM0 (n + 3) 108 [.s true s] .empty) = some ([decide (List.length s < 100000), decide (LW.left (wk s s []) = [0])], some (SV.b false false, { objs := [], nm := 0 })) := by kernel_rfl
/-- what may be a name -/
def mayN (s : List UInt8) : Bool := decide ((wk s s []).left = [0]) && (decide (s.length ≤ 255) && decide (fold s = s))
def sp108 : Spec
  | [.s _ s], ⟨[], 0⟩ => .need (decide (s.length < 100000)) (.leaf (.b true (mayN s), .empty))
  | _, _ => .fail
theorem sp108_ok : SpecOk Tryz.prog 108 4 sp108 := spec_ok cM0_ok fun n args sh r hr => by
  unfold sp108 at hr
  split at hr
  · rename_i o s
    obtain ⟨hs, hr⟩ := need_some hr
    rw [seC_open]
    show ∃ r1, (seC Tryz.prog cM0 (n + 3) 108 [.s true s] .empty).val = _ ∧ _
    have e := leaf_some hr
    unfold mayN at e
    cases h1 : decide ((wk s s []).left = [0]) with
    | false => rw [h1] at e; exact ⟨_, follow_val (w108_4 s n) (by rw [hs, h1]), by rw [← e]; exact ⟨rfl, rfl⟩⟩
    | true => cases h2 : decide (s.length ≤ 255) with
      | false => rw [h1, h2] at e; exact ⟨_, follow_val (w108_3 s n) (by rw [hs, h1, h2]), by rw [← e]; exact ⟨rfl, rfl⟩⟩
      | true =>
        rw [h1, h2] at e
        cases h3 : lstep s with
        | true => exact ⟨_, follow_val (w108_1 s n) (by rw [hs, h1, h2, h3]), by rw [← e]; exact ⟨rfl, rfl⟩⟩
        | false => exact ⟨_, follow_val (w108_2 s n) (by rw [hs, h1, h2, h3]), by rw [← e]; exact ⟨rfl, rfl⟩⟩
  · cases hr
/-- octet and name -/
noncomputable def cM : Cfg := (cB.addS 157 2 (lift sp157)).addS 108 4 (lift sp108)
theorem cM_ok : CfgOk Tryz.prog cM := (cB_ok.addS (lift_ok sp157_ok)).addS (lift_ok sp108_ok)
end Go.Proofs.YtgemonlknehegaaGreatDoor.AI
