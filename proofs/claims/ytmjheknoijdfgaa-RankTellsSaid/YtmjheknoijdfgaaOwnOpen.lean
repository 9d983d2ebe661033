/- How an entry (a struct of a question, records, a code, a rank and a time) and a pair of numbers lie as values: opened cell by cell out of what the form says of an argument. -/
import Derived.Test.YtmjheknoijdfgaaProg
import Derived.ProofKit
import Derived.OpenShut
namespace Go.Proofs.Ytmjheknoijdfgaa.Own
open Go.RowKit

theorem array7 {α : Type} {cs : Array α} (h : cs.size = 7) : ∃ c0 c1 c2 c3 c4 c5 c6, cs = #[c0, c1, c2, c3, c4, c5, c6] := by
  obtain ⟨l⟩ := cs
  match l, h with
  | [c0, c1, c2, c3, c4, c5, c6], _ => exact ⟨c0, c1, c2, c3, c4, c5, c6, rfl⟩
theorem array2_ {α : Type} {cs : Array α} (h : cs.size = 2) : ∃ c0 c1, cs = #[c0, c1] := by
  obtain ⟨l⟩ := cs
  match l, h with
  | [c0, c1], _ => exact ⟨c0, c1, rfl⟩
theorem cell_int {P : Program} {w : World} {r : Reach} {base : Nat} {t : TypeId} {k : IntKind} {v : Value} (ht : P.underlying t = some (.int k)) (h : Cell.okWide P w r base t v) : ∃ n, v = .int k n ∧ (Lit.int k n).wf = true := by
  unfold Cell.okWide at h
  rw [ht] at h
  cases v <;> simp only [Cell.ok, ht] at h
  obtain ⟨rfl, h⟩ := h
  exact ⟨_, rfl, by simpa [Lit.wf, IntKind.has] using h⟩
theorem cells28 : Try.prog.cellsOf 28 = 7 := by kernel_rfl
theorem types28 : Try.prog.cellTypes Try.prog.depth 28 = some [9, 22, 22, 25, 3, 3, 26] := by kernel_rfl
theorem open_entry {w : World} {r : Reach} {base : Nat} {v : Value} (h : Value.okWide Try.prog w r base 28 v) :
    ∃ c0 c1 c2 c3 c4 ra xa, v = .agg #[c0, c1, c2, c3, c4, .int .i64 ra, .int .u64 xa] ∧ (Lit.int .i64 ra).wf = true ∧ (Lit.int .u64 xa).wf = true := by
  simp only [Value.okWide, Try.underlying28] at h
  obtain ⟨cs, rfl, hs, ts, hts, _, hc⟩ := h
  rw [cells28] at hs
  rw [types28] at hts
  obtain rfl := Option.some.inj hts
  obtain ⟨c0, c1, c2, c3, c4, c5, c6, rfl⟩ := array7 hs
  obtain ⟨u5, e5, k5⟩ := hc 5 c5 rfl
  obtain ⟨u6, e6, k6⟩ := hc 6 c6 rfl
  obtain rfl : 3 = u5 := Option.some.inj e5
  obtain rfl : 26 = u6 := Option.some.inj e6
  obtain ⟨ra, rfl, w1⟩ := cell_int Try.underlying3 k5
  obtain ⟨xa, rfl, w2⟩ := cell_int Try.underlying26 k6
  exact ⟨c0, c1, c2, c3, c4, ra, xa, rfl, w1, w2⟩
theorem cells33 : Try.prog.cellsOf 33 = 2 := by kernel_rfl
theorem types33 : Try.prog.cellTypes Try.prog.depth 33 = some [26, 26] := by kernel_rfl
theorem open_pair {w : World} {r : Reach} {base : Nat} {v : Value} (h : Value.okWide Try.prog w r base 33 v) :
    ∃ x y, v = .agg #[.int .u64 x, .int .u64 y] ∧ (Lit.int .u64 x).wf = true ∧ (Lit.int .u64 y).wf = true := by
  simp only [Value.okWide, Try.underlying33] at h
  obtain ⟨cs, rfl, hs, ts, hts, _, hc⟩ := h
  rw [cells33] at hs
  rw [types33] at hts
  obtain rfl := Option.some.inj hts
  obtain ⟨c0, c1, rfl⟩ := array2_ hs
  obtain ⟨u0, e0, k0⟩ := hc 0 c0 rfl
  obtain ⟨u1, e1, k1⟩ := hc 1 c1 rfl
  obtain rfl : 26 = u0 := Option.some.inj e0
  obtain rfl : 26 = u1 := Option.some.inj e1
  obtain ⟨x, rfl, w1⟩ := cell_int Try.underlying26 k0
  obtain ⟨y, rfl, w2⟩ := cell_int Try.underlying26 k1
  exact ⟨x, y, rfl, w1, w2⟩
theorem u8_of {c : Int} (h : (Lit.int .u8 c).wf = true) : 0 ≤ c ∧ c ≤ 255 := by
  have a : IntKind.u8.min = 0 := by decide
  have b : IntKind.u8.max = 255 := by decide
  simpa [Lit.wf, a, b] using h
theorem u32_of {c : Int} (h : (Lit.int .u32 c).wf = true) : 0 ≤ c ∧ c ≤ 4294967295 := by
  have a : IntKind.u32.min = 0 := by decide
  have b : IntKind.u32.max = 4294967295 := by decide
  simpa [Lit.wf, a, b] using h
theorem u64_of {c : Int} (h : (Lit.int .u64 c).wf = true) : 0 ≤ c ∧ c ≤ 18446744073709551615 := by
  have a : IntKind.u64.min = 0 := by decide
  have b : IntKind.u64.max = 18446744073709551615 := by decide
  simpa [Lit.wf, a, b] using h
end Go.Proofs.Ytmjheknoijdfgaa.Own
