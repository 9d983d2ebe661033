/- How an array of two numbers lies as a value: opened out of what the form says of an argument. -/
import Derived.Test.YtbonaoopkfcabaaOwnDeeds
namespace Go.Proofs.Ytbonaoopkfcabaa.OwnDeeds
open Go.ChangeShapes Go.WideShapes Go.RowKit
theorem array2_ {α : Type} {cs : Array α} (h : cs.size = 2) : ∃ c0 c1, cs = #[c0, c1] := by
  obtain ⟨l⟩ := cs
  match l, h with
  | [c0, c1], _ => exact ⟨c0, c1, rfl⟩
theorem cell_int {P : Program} {w : World} {r : Reach} {base : Nat} {t : TypeId} {k : IntKind} {v : Value} (ht : P.underlying t = some (.int k)) (h : Cell.okWide P w r base t v) : ∃ n, v = .int k n ∧ (Lit.int k n).wf = true := by
  unfold Cell.okWide at h
  rw [ht] at h
  cases v <;> simp only [Cell.ok, ht] at h
  obtain ⟨rfl, h⟩ := h
  exact ⟨_, rfl, by simpa [Lit.wf, IntKind.has] using h⟩
theorem cells50 : Try.prog.cellsOf 50 = 2 := by kernel_rfl
theorem types50 : Try.prog.cellTypes Try.prog.depth 50 = some [5, 5] := by kernel_rfl
theorem open_bytes2 {w : World} {r : Reach} {base : Nat} {v : Value} (h : Value.okWide Try.prog w r base 50 v) :
    ∃ a b, v = .agg #[.int .u8 a, .int .u8 b] ∧ (Lit.int .u8 a).wf = true ∧ (Lit.int .u8 b).wf = true := by
  simp only [Value.okWide, Try.underlying50] at h
  obtain ⟨cs, rfl, hs, ts, hts, _, hc⟩ := h
  rw [cells50] at hs
  rw [types50] at hts
  obtain rfl := Option.some.inj hts
  obtain ⟨c0, c1, rfl⟩ := array2_ hs
  obtain ⟨u0, e0, k0⟩ := hc 0 c0 rfl
  obtain ⟨u1, e1, k1⟩ := hc 1 c1 rfl
  obtain rfl : 5 = u0 := Option.some.inj e0
  obtain rfl : 5 = u1 := Option.some.inj e1
  obtain ⟨a, rfl, w1⟩ := cell_int Try.underlying5 k0
  obtain ⟨b, rfl, w2⟩ := cell_int Try.underlying5 k1
  exact ⟨a, b, rfl, w1, w2⟩
theorem cells39 : Try.prog.cellsOf 39 = 2 := by kernel_rfl
theorem types39 : Try.prog.cellTypes Try.prog.depth 39 = some [3, 3] := by kernel_rfl
theorem open_ints2 {w : World} {r : Reach} {base : Nat} {v : Value} (h : Value.okWide Try.prog w r base 39 v) :
    ∃ a b, v = .agg #[.int .i64 a, .int .i64 b] ∧ (Lit.int .i64 a).wf = true ∧ (Lit.int .i64 b).wf = true := by
  simp only [Value.okWide, Try.underlying39] at h
  obtain ⟨cs, rfl, hs, ts, hts, _, hc⟩ := h
  rw [cells39] at hs
  rw [types39] at hts
  obtain rfl := Option.some.inj hts
  obtain ⟨c0, c1, rfl⟩ := array2_ hs
  obtain ⟨u0, e0, k0⟩ := hc 0 c0 rfl
  obtain ⟨u1, e1, k1⟩ := hc 1 c1 rfl
  obtain rfl : 3 = u0 := Option.some.inj e0
  obtain rfl : 3 = u1 := Option.some.inj e1
  obtain ⟨a, rfl, w1⟩ := cell_int Try.underlying3 k0
  obtain ⟨b, rfl, w2⟩ := cell_int Try.underlying3 k1
  exact ⟨a, b, rfl, w1, w2⟩
theorem u8_of {c : Int} (h : (Lit.int .u8 c).wf = true) : 0 ≤ c ∧ c ≤ 255 := by
  have b : IntKind.u8.max = 255 := by decide
  have a : IntKind.u8.min = 0 := by decide
  have := h
  simp only [Lit.wf, a, b, Bool.and_eq_true, decide_eq_true_eq] at this
  exact this
theorem i64_of {c : Int} (h : (Lit.int .i64 c).wf = true) : -9223372036854775808 ≤ c ∧ c ≤ 9223372036854775807 := by
  have b : IntKind.i64.max = 9223372036854775807 := by decide
  have a : IntKind.i64.min = -9223372036854775808 := by decide
  have := h
  simp only [Lit.wf, a, b, Bool.and_eq_true, decide_eq_true_eq] at this
  exact this
end Go.Proofs.Ytbonaoopkfcabaa.OwnDeeds
