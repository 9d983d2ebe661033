/- The chain of TopRefuses, part 32. -/
import Derived.Test.YtgemonlknehegaaGreatDoorK31
namespace Go.Proofs.YtgemonlknehegaaGreatDoor.AI
open Go
set_option linter.unusedVariables false
set_option linter.unusedSimpArgs false
set_option maxRecDepth 100000
noncomputable section
theorem wrap64 {x : Int} (h1 : -9223372036854775808 ≤ x) (h2 : x < 9223372036854775808) : IntKind.wrap .i64 x = x := by
  have e : IntKind.wrap .i64 x = if (true && decide (x % 18446744073709551616 ≥ 9223372036854775808)) = true then x % 18446744073709551616 - 18446744073709551616 else x % 18446744073709551616 := rfl
  rw [e]
  simp only [Bool.true_and, decide_eq_true_eq]
  split <;> omega
theorem wrapU {k : IntKind} {b : Nat} (hs : k.signed = false) (hb : (2 ^ k.bits : Int) = b) {x : Int} (h1 : 0 ≤ x) (h2 : x < b) : IntKind.wrap k x = x := by
  unfold IntKind.wrap
  simp only [hs, hb, Bool.false_and]
  exact Int.emod_eq_of_lt h1 h2
theorem wrap8 {x : Int} (h1 : 0 ≤ x) (h2 : x < 256) : IntKind.wrap .u8 x = x := wrapU (b := 256) rfl rfl h1 h2
theorem wrap16 {x : Int} (h1 : 0 ≤ x) (h2 : x < 65536) : IntKind.wrap .u16 x = x := wrapU (b := 65536) rfl rfl h1 h2
theorem wrap32 {x : Int} (h1 : 0 ≤ x) (h2 : x < 4294967296) : IntKind.wrap .u32 x = x := wrapU (b := 4294967296) rfl rfl h1 h2
theorem Opn.rfl' {a b : SV × SH} (h : a = b) : Opn a b := by subst h; exact ⟨rfl, rfl⟩
/-- an outcome without memory -/
def flat (v : SV) : SV × SH := (v, ⟨[], 0⟩)
def okSome (s : List UInt8) (a m : Int) : Bool := decide (0 ≤ a ∧ 0 ≤ m ∧ a + m ≤ s.length)
def short (s : List UInt8) : Bool := decide (s.length < 1048576)
def sub8 (s : List UInt8) (a m : Int) : List UInt8 := (s.drop a.toNat).take m.toNat
def sp208 : Spec := fun args sh => match args, sh with
  | [.s _ s, .i _ .i64 a, .i _ .i64 m], ⟨[], 0⟩ => .need (short s) (.node (okSome s a m)
      (.leaf (flat (.tuple [.s true (sub8 s a m), .i true .i64 (a + m), .i false .i64 0])))
      (.leaf (flat (.tuple [.s false [], .i false .i64 0, .i false .i64 2]))))
  | _, _ => .fail
theorem w208_1 (s : List UInt8) (n : Nat) (a m : Int) : DT.follow [true] (seC Tryz.prog Cfg.none n 208 [.s true s, .i true .i64 a, .i true .i64 m] .empty) = some ([decide (a < 0)], some (SV.tuple [SV.s false [], SV.i false IntKind.i64 0, SV.i false IntKind.i64 2], { objs := [], nm := 0 })) := by kernel_rfl
theorem w208_2 (s : List UInt8) (n : Nat) (a m : Int) : DT.follow [false, true] (seC Tryz.prog Cfg.none n 208 [.s true s, .i true .i64 a, .i true .i64 m] .empty) = some ([decide (a < 0), decide (m < 0)], some (SV.tuple [SV.s false [], SV.i false IntKind.i64 0, SV.i false IntKind.i64 2], { objs := [], nm := 0 })) := by kernel_rfl
theorem w208_3 (s : List UInt8) (n : Nat) (a m : Int) : DT.follow [false, false, true] (seC Tryz.prog Cfg.none n 208 [.s true s, .i true .i64 a, .i true .i64 m] .empty) = some ([decide (a < 0), decide (m < 0), decide (Int.ofNat (List.length s) < a)], some (SV.tuple [SV.s false [], SV.i false IntKind.i64 0, SV.i false IntKind.i64 2], { objs := [], nm := 0 })) := by kernel_rfl
theorem w208_4 (s : List UInt8) (n : Nat) (a m : Int) : DT.follow [false, false, false, true] (seC Tryz.prog Cfg.none n 208 [.s true s, .i true .i64 a, .i true .i64 m] .empty) = some ([decide (a < 0), decide (m < 0), decide (Int.ofNat (List.length s) < a), decide (IntKind.wrap IntKind.i64 (Int.ofNat (List.length s) - a) < m)], some (SV.tuple [SV.s false [], SV.i false IntKind.i64 0, SV.i false IntKind.i64 2], { objs := [], nm := 0 })) := by kernel_rfl
theorem w208_5 (s : List UInt8) (n : Nat) (a m : Int) : DT.follow [false, false, false, false, true, true, true] (seC Tryz.prog Cfg.none n 208 [.s true s, .i true .i64 a, .i true .i64 m] .empty) = some ([decide (a < 0), decide (m < 0), decide (Int.ofNat (List.length s) < a), decide (IntKind.wrap IntKind.i64 (Int.ofNat (List.length s) - a) < m), nn (IntKind.wrap IntKind.i64 (a + m)), nn a, decide (Int.toNat a ≤ Int.toNat (IntKind.wrap IntKind.i64 (a + m)) ∧ Int.toNat (IntKind.wrap IntKind.i64 (a + m)) ≤ List.length s)], some (SV.tuple [SV.s true (List.take (Int.toNat (IntKind.wrap IntKind.i64 (a + m)) - Int.toNat a) (List.drop (Int.toNat a) s)), SV.i true IntKind.i64 (IntKind.wrap IntKind.i64 (a + m)), SV.i false IntKind.i64 0], { objs := [], nm := 0 })) := by kernel_rfl
theorem sp208_ok : SpecOk Tryz.prog 208 1 sp208 := spec_ok cfg_none fun n args sh r hr => by
  unfold sp208 at hr
  split at hr
  · rename_i o s o1 a o2 m
    obtain ⟨hs, hr⟩ := need_some hr
    have hs := of_decide_eq_true hs
    rw [seC_open]
    show ∃ r1, (seC Tryz.prog Cfg.none n 208 [.s true s, .i true .i64 a, .i true .i64 m] .empty).val = _ ∧ _
    rcases node_some hr with ⟨hc, hr⟩ | ⟨hc, hr⟩
    · have hc := of_decide_eq_true hc
      have e1 := wrap64 (x := (s.length : Int) - a) (by omega) (by omega)
      have e2 := wrap64 (x := a + m) (by omega) (by omega)
      refine ⟨_, follow_val (w208_5 s n a m) ?_, ?_⟩
      · simp only [List.cons.injEq, decide_eq_true_eq, decide_eq_false_iff_not, nn, and_true, Int.ofNat_eq_natCast]; omega
      · rw [← leaf_some hr, e2]
        refine ⟨?_, rfl⟩
        have : (a + m).toNat - a.toNat = m.toNat := by omega
        rw [this]; rfl
    · have hc := of_decide_eq_false hc
      by_cases h1 : a < 0
      · refine ⟨_, follow_val (w208_1 s n a m) ?_, Opn.rfl' (leaf_some hr)⟩
        simp only [List.cons.injEq, decide_eq_true_eq, decide_eq_false_iff_not, nn, and_true, Int.ofNat_eq_natCast]; omega
      by_cases h2 : m < 0
      · refine ⟨_, follow_val (w208_2 s n a m) ?_, Opn.rfl' (leaf_some hr)⟩
        simp only [List.cons.injEq, decide_eq_true_eq, decide_eq_false_iff_not, nn, and_true, Int.ofNat_eq_natCast]; omega
      by_cases h3 : (s.length : Int) < a
      · refine ⟨_, follow_val (w208_3 s n a m) ?_, Opn.rfl' (leaf_some hr)⟩
        simp only [List.cons.injEq, decide_eq_true_eq, decide_eq_false_iff_not, nn, and_true, Int.ofNat_eq_natCast]; omega
      have e1 := wrap64 (x := (s.length : Int) - a) (by omega) (by omega)
      refine ⟨_, follow_val (w208_4 s n a m) ?_, Opn.rfl' (leaf_some hr)⟩
      simp only [List.cons.injEq, decide_eq_true_eq, decide_eq_false_iff_not, nn, and_true, Int.ofNat_eq_natCast]; omega
  · cases hr
end
end Go.Proofs.YtgemonlknehegaaGreatDoor.AI
namespace Go.Proofs.YtgemonlknehegaaGreatDoor.AI
open Go
set_option linter.unusedVariables false
set_option linter.unusedSimpArgs false
set_option maxRecDepth 100000
noncomputable section
def cA : Cfg := Cfg.none.addS 208 1 (lift sp208)
theorem cA_ok : CfgOk Tryz.prog cA := cfg_none.addS (lift_ok sp208_ok)
/-- the byte at a place -/
def at8 (s : List UInt8) (i : Nat) : Nat := (s.getD i 0).toNat
theorem at8_lt (s : List UInt8) (i : Nat) : at8 s i < 256 := UInt8.toNat_lt _
def u16 (s : List UInt8) (i : Nat) : Nat := at8 s i * 256 + at8 s (i + 1)
def u32 (s : List UInt8) (i : Nat) : Nat := ((at8 s i * 256 + at8 s (i + 1)) * 256 + at8 s (i + 2)) * 256 + at8 s (i + 3)
def numSpec (m : Int) (k : IntKind) (f : List UInt8 → Nat → Nat) : Spec := fun args sh => match args, sh with
  | [.s _ s, .i _ .i64 a], ⟨[], 0⟩ => .need (short s) (.node (okSome s a m)
      (.leaf (flat (.tuple [.i true k (f s a.toNat : Nat), .i true .i64 (a + m), .i false .i64 0])))
      (.leaf (flat (.tuple [.i false k 0, .i false .i64 0, .i false .i64 2]))))
  | _, _ => .fail
theorem sub8_length {s : List UInt8} {a m : Int} (h : okSome s a m = true) : (sub8 s a m).length = m.toNat := by
  have h := of_decide_eq_true h
  unfold sub8
  rw [List.length_take, List.length_drop]; omega
theorem sub8_get {s : List UInt8} {a m : Int} {i : Nat} (hi : i < m.toNat) : (List.getD (sub8 s a m) i 0).toNat = at8 s (a.toNat + i) := by
  unfold sub8 at8
  simp only [List.getD_eq_getElem?_getD, List.getElem?_take, List.getElem?_drop]
  rw [if_pos hi]
theorem w32 {x : Nat} (h : x < 4294967296) : IntKind.wrap .u32 (x : Int) = (x : Int) := wrap32 (by omega) (by omega)
theorem lor0 (x : Nat) : nat2S Nat.lor ((0 : Nat) : Int) (x : Int) = (x : Int) := by
  show (((0 ||| x) : Nat) : Int) = _; rw [Nat.zero_or]
theorem inB32 {x : Nat} (h : x < 4294967296) : inB .u32 (x : Int) = true := by
  unfold inB; exact decide_eq_true ⟨by omega, by show (x : Int) < (4294967296 : Int); omega⟩
theorem nnN (x : Nat) : nn (x : Int) = true := by unfold nn; exact decide_eq_true (by omega)
theorem lor_add {x y : Nat} (h : y < 256) : nat2S Nat.lor ((x * 2 ^ 8 : Nat) : Int) (y : Int) = ((x * 256 + y : Nat) : Int) := by
  have := Nat.two_pow_add_eq_or_of_lt (b := y) (i := 8) h x
  show (((x * 2 ^ 8 ||| y) : Nat) : Int) = _
  rw [Nat.mul_comm, ← this]
theorem w246_1 (s : List UInt8) (n : Nat) (a : Int) : DT.follow [true, true, true, true, true, false] (seC Tryz.prog cA (n + 2) 246 [.s true s, .i true .i64 a] .empty) = some ([short s, okSome s a 1, decide (0 < Int.ofNat (List.length (sub8 s a 1))), decide (0 < List.length (sub8 s a 1)), inB IntKind.u32 (Int.ofNat 0) && inB IntKind.u32 (IntKind.wrap IntKind.u32 (Int.ofNat (UInt8.toNat (List.getD (sub8 s a 1) 0 0)))), decide (Int.ofNat (Nat.succ 0) < Int.ofNat (List.length (sub8 s a 1)))], some (SV.tuple [SV.i true IntKind.u8 (IntKind.wrap IntKind.u8 (nat2S Nat.lor (Int.ofNat 0) (IntKind.wrap IntKind.u32 (Int.ofNat (UInt8.toNat (List.getD (sub8 s a 1) 0 0)))))), SV.i true IntKind.i64 (a + 1), SV.i false IntKind.i64 0], { objs := [], nm := 0 })) := by kernel_rfl
theorem w246_3 (s : List UInt8) (n : Nat) (a : Int) : DT.follow [true, false] (seC Tryz.prog cA (n + 2) 246 [.s true s, .i true .i64 a] .empty) = some ([short s, okSome s a 1], some (SV.tuple [SV.i false IntKind.u8 (Int.ofNat 0), SV.i false IntKind.i64 0, SV.i false IntKind.i64 2], { objs := [], nm := 0 })) := by kernel_rfl
theorem w143_1 (s : List UInt8) (n : Nat) (a : Int) : DT.follow [true, true, true, true, true, true, true, true, true, false] (seC Tryz.prog cA (n + 2) 143 [.s true s, .i true .i64 a] .empty) = some ([short s, okSome s a 2, decide (0 < Int.ofNat (List.length (sub8 s a 2))), decide (0 < List.length (sub8 s a 2)), inB IntKind.u32 (Int.ofNat 0) && inB IntKind.u32 (IntKind.wrap IntKind.u32 (Int.ofNat (UInt8.toNat (List.getD (sub8 s a 2) 0 0)))), decide (Int.ofNat (Nat.succ 0) < Int.ofNat (List.length (sub8 s a 2))), nn (nat2S Nat.lor (Int.ofNat 0) (IntKind.wrap IntKind.u32 (Int.ofNat (UInt8.toNat (List.getD (sub8 s a 2) 0 0))))) && nn 8, decide (Nat.succ 0 < List.length (sub8 s a 2)), inB IntKind.u32 (IntKind.wrap IntKind.u32 (Int.ofNat (Int.toNat (nat2S Nat.lor (Int.ofNat 0) (IntKind.wrap IntKind.u32 (Int.ofNat (UInt8.toNat (List.getD (sub8 s a 2) 0 0))))) * 2 ^ min (Int.toNat 8) (bitsOf IntKind.u32)))) && inB IntKind.u32 (IntKind.wrap IntKind.u32 (Int.ofNat (UInt8.toNat (List.getD (sub8 s a 2) (Nat.succ 0) 0)))), decide (Int.ofNat (Nat.succ 1) < Int.ofNat (List.length (sub8 s a 2)))], some (SV.tuple [SV.i true IntKind.u16 (IntKind.wrap IntKind.u16 (nat2S Nat.lor (IntKind.wrap IntKind.u32 (Int.ofNat (Int.toNat (nat2S Nat.lor (Int.ofNat 0) (IntKind.wrap IntKind.u32 (Int.ofNat (UInt8.toNat (List.getD (sub8 s a 2) 0 0))))) * 2 ^ min (Int.toNat 8) (bitsOf IntKind.u32)))) (IntKind.wrap IntKind.u32 (Int.ofNat (UInt8.toNat (List.getD (sub8 s a 2) (Nat.succ 0) 0)))))), SV.i true IntKind.i64 (a + 2), SV.i false IntKind.i64 0], { objs := [], nm := 0 })) := by kernel_rfl
theorem w143_4 (s : List UInt8) (n : Nat) (a : Int) : DT.follow [true, false] (seC Tryz.prog cA (n + 2) 143 [.s true s, .i true .i64 a] .empty) = some ([short s, okSome s a 2], some (SV.tuple [SV.i false IntKind.u16 (Int.ofNat 0), SV.i false IntKind.i64 0, SV.i false IntKind.i64 2], { objs := [], nm := 0 })) := by kernel_rfl
theorem w146_1 (s : List UInt8) (n : Nat) (a : Int) : DT.follow [true, true, true, true, true, true, true, true, true, true, true, true, true, true, true, true, true, false] (seC Tryz.prog cA (n + 2) 146 [.s true s, .i true .i64 a] .empty) = some ([short s, okSome s a 4, decide (0 < Int.ofNat (List.length (sub8 s a 4))), decide (0 < List.length (sub8 s a 4)), inB IntKind.u32 (Int.ofNat 0) && inB IntKind.u32 (IntKind.wrap IntKind.u32 (Int.ofNat (UInt8.toNat (List.getD (sub8 s a 4) 0 0)))), decide (Int.ofNat (Nat.succ 0) < Int.ofNat (List.length (sub8 s a 4))), nn (nat2S Nat.lor (Int.ofNat 0) (IntKind.wrap IntKind.u32 (Int.ofNat (UInt8.toNat (List.getD (sub8 s a 4) 0 0))))) && nn 8, decide (Nat.succ 0 < List.length (sub8 s a 4)), inB IntKind.u32 (IntKind.wrap IntKind.u32 (Int.ofNat (Int.toNat (nat2S Nat.lor (Int.ofNat 0) (IntKind.wrap IntKind.u32 (Int.ofNat (UInt8.toNat (List.getD (sub8 s a 4) 0 0))))) * 2 ^ min (Int.toNat 8) (bitsOf IntKind.u32)))) && inB IntKind.u32 (IntKind.wrap IntKind.u32 (Int.ofNat (UInt8.toNat (List.getD (sub8 s a 4) (Nat.succ 0) 0)))), decide (Int.ofNat (Nat.succ 1) < Int.ofNat (List.length (sub8 s a 4))), nn (nat2S Nat.lor (IntKind.wrap IntKind.u32 (Int.ofNat (Int.toNat (nat2S Nat.lor (Int.ofNat 0) (IntKind.wrap IntKind.u32 (Int.ofNat (UInt8.toNat (List.getD (sub8 s a 4) 0 0))))) * 2 ^ min (Int.toNat 8) (bitsOf IntKind.u32)))) (IntKind.wrap IntKind.u32 (Int.ofNat (UInt8.toNat (List.getD (sub8 s a 4) (Nat.succ 0) 0))))) && nn 8, decide (Nat.succ 1 < List.length (sub8 s a 4)), inB IntKind.u32 (IntKind.wrap IntKind.u32 (Int.ofNat (Int.toNat (nat2S Nat.lor (IntKind.wrap IntKind.u32 (Int.ofNat (Int.toNat (nat2S Nat.lor (Int.ofNat 0) (IntKind.wrap IntKind.u32 (Int.ofNat (UInt8.toNat (List.getD (sub8 s a 4) 0 0))))) * 2 ^ min (Int.toNat 8) (bitsOf IntKind.u32)))) (IntKind.wrap IntKind.u32 (Int.ofNat (UInt8.toNat (List.getD (sub8 s a 4) (Nat.succ 0) 0))))) * 2 ^ min (Int.toNat 8) (bitsOf IntKind.u32)))) && inB IntKind.u32 (IntKind.wrap IntKind.u32 (Int.ofNat (UInt8.toNat (List.getD (sub8 s a 4) (Nat.succ 1) 0)))), decide (Int.ofNat (Nat.succ 2) < Int.ofNat (List.length (sub8 s a 4))), nn (nat2S Nat.lor (IntKind.wrap IntKind.u32 (Int.ofNat (Int.toNat (nat2S Nat.lor (IntKind.wrap IntKind.u32 (Int.ofNat (Int.toNat (nat2S Nat.lor (Int.ofNat 0) (IntKind.wrap IntKind.u32 (Int.ofNat (UInt8.toNat (List.getD (sub8 s a 4) 0 0))))) * 2 ^ min (Int.toNat 8) (bitsOf IntKind.u32)))) (IntKind.wrap IntKind.u32 (Int.ofNat (UInt8.toNat (List.getD (sub8 s a 4) (Nat.succ 0) 0))))) * 2 ^ min (Int.toNat 8) (bitsOf IntKind.u32)))) (IntKind.wrap IntKind.u32 (Int.ofNat (UInt8.toNat (List.getD (sub8 s a 4) (Nat.succ 1) 0))))) && nn 8, decide (Nat.succ 2 < List.length (sub8 s a 4)), inB IntKind.u32 (IntKind.wrap IntKind.u32 (Int.ofNat (Int.toNat (nat2S Nat.lor (IntKind.wrap IntKind.u32 (Int.ofNat (Int.toNat (nat2S Nat.lor (IntKind.wrap IntKind.u32 (Int.ofNat (Int.toNat (nat2S Nat.lor (Int.ofNat 0) (IntKind.wrap IntKind.u32 (Int.ofNat (UInt8.toNat (List.getD (sub8 s a 4) 0 0))))) * 2 ^ min (Int.toNat 8) (bitsOf IntKind.u32)))) (IntKind.wrap IntKind.u32 (Int.ofNat (UInt8.toNat (List.getD (sub8 s a 4) (Nat.succ 0) 0))))) * 2 ^ min (Int.toNat 8) (bitsOf IntKind.u32)))) (IntKind.wrap IntKind.u32 (Int.ofNat (UInt8.toNat (List.getD (sub8 s a 4) (Nat.succ 1) 0))))) * 2 ^ min (Int.toNat 8) (bitsOf IntKind.u32)))) && inB IntKind.u32 (IntKind.wrap IntKind.u32 (Int.ofNat (UInt8.toNat (List.getD (sub8 s a 4) (Nat.succ 2) 0)))), decide (Int.ofNat (Nat.succ 3) < Int.ofNat (List.length (sub8 s a 4)))], some (SV.tuple [SV.i true IntKind.u32 (nat2S Nat.lor (IntKind.wrap IntKind.u32 (Int.ofNat (Int.toNat (nat2S Nat.lor (IntKind.wrap IntKind.u32 (Int.ofNat (Int.toNat (nat2S Nat.lor (IntKind.wrap IntKind.u32 (Int.ofNat (Int.toNat (nat2S Nat.lor (Int.ofNat 0) (IntKind.wrap IntKind.u32 (Int.ofNat (UInt8.toNat (List.getD (sub8 s a 4) 0 0))))) * 2 ^ min (Int.toNat 8) (bitsOf IntKind.u32)))) (IntKind.wrap IntKind.u32 (Int.ofNat (UInt8.toNat (List.getD (sub8 s a 4) (Nat.succ 0) 0))))) * 2 ^ min (Int.toNat 8) (bitsOf IntKind.u32)))) (IntKind.wrap IntKind.u32 (Int.ofNat (UInt8.toNat (List.getD (sub8 s a 4) (Nat.succ 1) 0))))) * 2 ^ min (Int.toNat 8) (bitsOf IntKind.u32)))) (IntKind.wrap IntKind.u32 (Int.ofNat (UInt8.toNat (List.getD (sub8 s a 4) (Nat.succ 2) 0))))), SV.i true IntKind.i64 (a + 4), SV.i false IntKind.i64 0], { objs := [], nm := 0 })) := by kernel_rfl
theorem w146_6 (s : List UInt8) (n : Nat) (a : Int) : DT.follow [true, false] (seC Tryz.prog cA (n + 2) 146 [.s true s, .i true .i64 a] .empty) = some ([short s, okSome s a 4], some (SV.tuple [SV.i false IntKind.u32 0, SV.i false IntKind.i64 0, SV.i false IntKind.i64 2], { objs := [], nm := 0 })) := by kernel_rfl
def sp246 : Spec := numSpec 1 .u8 fun s i => at8 s i
def sp143 : Spec := numSpec 2 .u16 u16
def sp146 : Spec := numSpec 4 .u32 u32
theorem nat2S_nat (f : Nat → Nat → Nat) (a b : Nat) : nat2S f (a : Int) (b : Int) = (f a b : Nat) := rfl
theorem shl8 (x : Nat) (h : x < 16777216) : IntKind.wrap .u32 (Int.ofNat (Int.toNat (x : Int) * 2 ^ min (Int.toNat 8) (bitsOf .u32))) = ((x * 2 ^ 8 : Nat) : Int) := by
  have e : min (Int.toNat 8) (bitsOf .u32) = 8 := rfl
  rw [e, Int.toNat_natCast, Int.ofNat_eq_natCast, wrap32 (by omega) (by omega)]
theorem sp246_ok : SpecOk Tryz.prog 246 3 sp246 := spec_ok cA_ok fun n args sh r hr => by
  unfold sp246 numSpec at hr
  split at hr
  · rename_i o s o1 a
    obtain ⟨hs, hr⟩ := need_some hr
    rw [seC_open]
    show ∃ r1, (seC Tryz.prog cA (n + 2) 246 [.s true s, .i true .i64 a] .empty).val = _ ∧ _
    rcases node_some hr with ⟨hc, hr⟩ | ⟨hc, hr⟩
    · have hl : (sub8 s a 1).length = 1 := sub8_length hc
      have g0 : (List.getD (sub8 s a 1) 0 0).toNat = _ := sub8_get (i := 0) (by decide)
      have b0 := at8_lt s (a.toNat + 0)
      refine ⟨_, follow_val (w246_1 s n a) ?_, ?_⟩
      · rw [g0, hl, hs, hc, Int.ofNat_eq_natCast (at8 s (a.toNat + 0)), w32 (by omega), inB32 (by omega)]
        rfl
      · rw [← leaf_some hr, g0, Int.ofNat_eq_natCast (at8 s (a.toNat + 0)), w32 (by omega)]
        refine ⟨?_, rfl⟩
        have : IntKind.wrap .u8 (nat2S Nat.lor (Int.ofNat 0) ((at8 s (a.toNat + 0) : Nat) : Int)) = (at8 s a.toNat : Nat) := by
          rw [show Int.ofNat 0 = ((0 : Nat) : Int) from rfl, lor0, wrap8 (by omega) (by omega), Nat.add_zero]
        rw [this]; rfl
    · refine ⟨_, follow_val (w246_3 s n a) (by rw [hs, hc]), ?_⟩
      rw [← leaf_some hr]; exact ⟨rfl, rfl⟩
  · cases hr
theorem sp143_ok : SpecOk Tryz.prog 143 3 sp143 := spec_ok cA_ok fun n args sh r hr => by
  unfold sp143 numSpec at hr
  split at hr
  · rename_i o s o1 a
    obtain ⟨hs, hr⟩ := need_some hr
    rw [seC_open]
    show ∃ r1, (seC Tryz.prog cA (n + 2) 143 [.s true s, .i true .i64 a] .empty).val = _ ∧ _
    rcases node_some hr with ⟨hc, hr⟩ | ⟨hc, hr⟩
    · have hl : (sub8 s a 2).length = 2 := sub8_length hc
      have g0 : (List.getD (sub8 s a 2) 0 0).toNat = _ := sub8_get (i := 0) (by decide)
      have g1 : (List.getD (sub8 s a 2) (Nat.succ 0) 0).toNat = _ := sub8_get (i := 1) (by decide)
      have b0 := at8_lt s (a.toNat + 0)
      have b1 := at8_lt s (a.toNat + 1)
      have z : Int.ofNat 0 = ((0 : Nat) : Int) := rfl
      refine ⟨_, follow_val (w143_1 s n a) ?_, ?_⟩
      · rw [g0, g1, hl, hs, hc, Int.ofNat_eq_natCast (at8 s (a.toNat + 0)), Int.ofNat_eq_natCast (at8 s (a.toNat + 1)), w32 (x := at8 s (a.toNat + 0)) (by omega), w32 (x := at8 s (a.toNat + 1)) (by omega), z, lor0, shl8 _ (by omega), inB32 (x := at8 s (a.toNat + 0)) (by omega), inB32 (x := at8 s (a.toNat + 1)) (by omega), inB32 (x := at8 s (a.toNat + 0) * 2 ^ 8) (by omega), nnN]
        rfl
      · rw [← leaf_some hr, g0, g1, Int.ofNat_eq_natCast (at8 s (a.toNat + 0)), Int.ofNat_eq_natCast (at8 s (a.toNat + 1)), w32 (x := at8 s (a.toNat + 0)) (by omega), w32 (x := at8 s (a.toNat + 1)) (by omega), z, lor0, shl8 _ (by omega), lor_add (by omega), wrap16 (by omega) (by omega)]
        exact ⟨rfl, rfl⟩
    · refine ⟨_, follow_val (w143_4 s n a) (by rw [hs, hc]), ?_⟩
      rw [← leaf_some hr]; exact ⟨rfl, rfl⟩
  · cases hr
theorem sp146_ok : SpecOk Tryz.prog 146 3 sp146 := spec_ok cA_ok fun n args sh r hr => by
  unfold sp146 numSpec at hr
  split at hr
  · rename_i o s o1 a
    obtain ⟨hs, hr⟩ := need_some hr
    rw [seC_open]
    show ∃ r1, (seC Tryz.prog cA (n + 2) 146 [.s true s, .i true .i64 a] .empty).val = _ ∧ _
    rcases node_some hr with ⟨hc, hr⟩ | ⟨hc, hr⟩
    · have hl : (sub8 s a 4).length = 4 := sub8_length hc
      have g0 : (List.getD (sub8 s a 4) 0 0).toNat = _ := sub8_get (i := 0) (by decide)
      have g1 : (List.getD (sub8 s a 4) (Nat.succ 0) 0).toNat = _ := sub8_get (i := 1) (by decide)
      have g2 : (List.getD (sub8 s a 4) (Nat.succ 1) 0).toNat = _ := sub8_get (i := 2) (by decide)
      have g3 : (List.getD (sub8 s a 4) (Nat.succ 2) 0).toNat = _ := sub8_get (i := 3) (by decide)
      have b0 := at8_lt s (a.toNat + 0)
      have b1 := at8_lt s (a.toNat + 1)
      have b2 := at8_lt s (a.toNat + 2)
      have b3 := at8_lt s (a.toNat + 3)
      have z : Int.ofNat 0 = ((0 : Nat) : Int) := rfl
      refine ⟨_, follow_val (w146_1 s n a) ?_, ?_⟩
      · simp only [g0, g1, g2, g3, hl, hs, hc, Int.ofNat_eq_natCast (at8 s _), w32 (x := at8 s (a.toNat + 0)) (by omega), w32 (x := at8 s (a.toNat + 1)) (by omega), w32 (x := at8 s (a.toNat + 2)) (by omega), w32 (x := at8 s (a.toNat + 3)) (by omega), z, lor0, shl8 (at8 s (a.toNat + 0)) (by omega), lor_add b1, shl8 (at8 s (a.toNat + 0) * 256 + at8 s (a.toNat + 1)) (by omega), lor_add b2, shl8 ((at8 s (a.toNat + 0) * 256 + at8 s (a.toNat + 1)) * 256 + at8 s (a.toNat + 2)) (by omega), nnN,
          inB32 (x := at8 s (a.toNat + 0)) (by omega), inB32 (x := at8 s (a.toNat + 1)) (by omega), inB32 (x := at8 s (a.toNat + 2)) (by omega), inB32 (x := at8 s (a.toNat + 3)) (by omega), inB32 (x := at8 s (a.toNat + 0) * 2 ^ 8) (by omega), inB32 (x := (at8 s (a.toNat + 0) * 256 + at8 s (a.toNat + 1)) * 2 ^ 8) (by omega), inB32 (x := ((at8 s (a.toNat + 0) * 256 + at8 s (a.toNat + 1)) * 256 + at8 s (a.toNat + 2)) * 2 ^ 8) (by omega)]
        rfl
      · rw [← leaf_some hr]
        simp only [g0, g1, g2, g3, Int.ofNat_eq_natCast (at8 s _), w32 (x := at8 s (a.toNat + 0)) (by omega), w32 (x := at8 s (a.toNat + 1)) (by omega), w32 (x := at8 s (a.toNat + 2)) (by omega), w32 (x := at8 s (a.toNat + 3)) (by omega), z, lor0, shl8 (at8 s (a.toNat + 0)) (by omega), lor_add b1, shl8 (at8 s (a.toNat + 0) * 256 + at8 s (a.toNat + 1)) (by omega), lor_add b2, shl8 ((at8 s (a.toNat + 0) * 256 + at8 s (a.toNat + 1)) * 256 + at8 s (a.toNat + 2)) (by omega), lor_add b3, w32 (x := ((at8 s (a.toNat + 0) * 256 + at8 s (a.toNat + 1)) * 256 + at8 s (a.toNat + 2)) * 256 + at8 s (a.toNat + 3)) (by omega)]
        exact ⟨rfl, rfl⟩
    · refine ⟨_, follow_val (w146_6 s n a) (by rw [hs, hc]), ?_⟩
      rw [← leaf_some hr]; exact ⟨rfl, rfl⟩
  · cases hr
def cB : Cfg := ((cA.addS 246 3 (lift sp246)).addS 143 3 (lift sp143)).addS 146 3 (lift sp146)
theorem cB_ok : CfgOk Tryz.prog cB := ((cA_ok.addS (lift_ok sp246_ok)).addS (lift_ok sp143_ok)).addS (lift_ok sp146_ok)
end
end Go.Proofs.YtgemonlknehegaaGreatDoor.AI
