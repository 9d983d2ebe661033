/- How a question (a struct of a name and two numbers) and a slice of questions lie as values: opened out of what the form says of an argument. -/
import Derived.Test.YtefijphihplblaaOwnHash
import Derived.ProofKit
import Derived.OpenShut
import Derived.Deep.Slices
import Derived.Deep.Strs
namespace Go.Proofs.Ytefijphihplblaa.OwnHashOpen
open Go.ChangeShapes Go.WideShapes Go.RowKit Go.Proofs.Ytefijphihplblaa.PHashTells Go.Proofs.Ytefijphihplblaa.OwnHash Go.Proofs.YtefijphihplblaaW.PrintWords Go.Proofs.YtefijphihplblaaW.PrintLast Go.Proofs.YtefijphihplblaaW.PrintMore

theorem array3_ {α : Type} {cs : Array α} (h : cs.size = 3) : ∃ c0 c1 c2, cs = #[c0, c1, c2] := by
  obtain ⟨l⟩ := cs
  match l, h with
  | [c0, c1, c2], _ => exact ⟨c0, c1, c2, rfl⟩
theorem cell_int {P : Program} {w : World} {r : Reach} {base : Nat} {t : TypeId} {k : IntKind} {v : Value} (ht : P.underlying t = some (.int k)) (h : Cell.okWide P w r base t v) : ∃ n, v = .int k n ∧ (Lit.int k n).wf = true := by
  unfold Cell.okWide at h
  rw [ht] at h
  cases v <;> simp only [Cell.ok, ht] at h
  obtain ⟨rfl, h⟩ := h
  exact ⟨_, rfl, by simpa [Lit.wf, IntKind.has] using h⟩
theorem cell_string {P : Program} {w : World} {r : Reach} {base : Nat} {t : TypeId} {v : Value} (ht : P.underlying t = some .string) (h : Cell.okWide P w r base t v) : ∃ s, v = .string s := by
  unfold Cell.okWide at h
  rw [ht] at h
  cases v <;> simp only [Cell.ok, ht] at h
  exact ⟨_, rfl⟩
theorem cells29 : Try.prog.cellsOf 29 = 3 := by kernel_rfl
theorem types29 : Try.prog.cellTypes Try.prog.depth 29 = some [9, 27, 27] := by kernel_rfl
theorem open_question {w : World} {r : Reach} {base : Nat} {v : Value} (h : Value.okWide Try.prog w r base 29 v) :
    ∃ n t c, v = .agg #[.string n, .int .u16 t, .int .u16 c] ∧ (Lit.int .u16 t).wf = true ∧ (Lit.int .u16 c).wf = true := by
  simp only [Value.okWide, Try.underlying29] at h
  obtain ⟨cs, rfl, hs, ts, hts, _, hc⟩ := h
  rw [cells29] at hs
  rw [types29] at hts
  obtain rfl := Option.some.inj hts
  obtain ⟨c0, c1, c2, rfl⟩ := array3_ hs
  obtain ⟨u0, e0, k0⟩ := hc 0 c0 rfl
  obtain ⟨u1, e1, k1⟩ := hc 1 c1 rfl
  obtain ⟨u2, e2, k2⟩ := hc 2 c2 rfl
  obtain rfl : 9 = u0 := Option.some.inj e0
  obtain rfl : 27 = u1 := Option.some.inj e1
  obtain rfl : 27 = u2 := Option.some.inj e2
  obtain ⟨n, rfl⟩ := cell_string Try.underlying9 k0
  obtain ⟨t, rfl, w1⟩ := cell_int Try.underlying27 k1
  obtain ⟨c, rfl, w2⟩ := cell_int Try.underlying27 k2
  exact ⟨n, t, c, rfl, w1, w2⟩

/-- A slice whose elements are of a kind that reads so, opened. -/
theorem open_kd {H : Type} {enc : TypeId × Value → H} {P : Program} {W : World} {base : Nat} {t e : TypeId} {v : Value} {d : DataW H} {p : List MemPlace} {α : Type} [Inhabited α] (k : Kd α) (G : α → Prop)
    (ht : P.underlying t = some (.slice e)) (hk : k.sz = P.cellsOf e)
    (hel : ∀ n cs y, cs.length = P.cellsOf e → DataW.trod enc P W 0 (fun _ => true) true n e cs = some y → ∃ x, k.K W x cs ∧ G x)
    (hv : Value.okWide P W .any base t v) (h : DataW.Trod enc P W 0 (fun _ => true) true t v d p) :
    ∃ A cap xs, v = .slice A xs.length cap ∧ xs.length ≤ cap ∧ k.C W A xs.length xs ∧ (∀ x ∈ xs, G x) ∧ (xs = [] ∨ ∃ es sp, d = .slice es sp ∧ es.length = xs.length) := by
  obtain ⟨a0, len, cap, rfl⟩ := okWide_slice ht hv
  obtain ⟨fuel, hf⟩ := h
  have hf' : DataW.trod enc P W 0 (fun _ => true) true fuel t [.slice a0 len cap] = some (d, p) := by simpa [Value.cells] using hf
  rcases Go.Deep.open_slice ht hf' with ⟨hcs, _⟩ | ⟨a, len', cap', m, n, D, Pl, hcs, hb, hl, hm, hmm, hdd, hx⟩
  · obtain ⟨rfl, rfl, rfl⟩ : a0 = none ∧ len = 0 ∧ cap = 0 := by simpa using hcs
    exact ⟨none, 0, [], rfl, Nat.le_refl _, ⟨rfl, by simp, fun h => absurd h (by simp)⟩, by simp, .inl rfl⟩
  · obtain ⟨rfl, rfl, rfl⟩ : a0 = some a ∧ len = len' ∧ cap = cap' := by simpa using hcs
    have hmc : m = cap := by simpa using hmm
    obtain ⟨X, hX⟩ := Go.Deep.choose_lt (α := α) (n := len) (p := fun i x => ∃ cs', W.cells? 0 (a.add (i * P.cellsOf e)) (P.cellsOf e) = some cs' ∧ k.K W x cs' ∧ G x) (fun i hi => by
      obtain ⟨cs', h1, h2⟩ := hx i (by omega)
      obtain ⟨_, hlen, _⟩ := World.cells?_some h1
      obtain ⟨x, hx1, hx2⟩ := hel n cs' _ hlen h2
      exact ⟨x, cs', h1, hx1, hx2⟩)
    have hlen : ((List.range len).map X).length = len := by simp
    refine ⟨some a, cap, (List.range len).map X, by rw [hlen], by rw [hlen]; exact hl, ⟨by rw [hlen], by rw [hlen]; unfold maxLen at hm; omega, fun _ => ⟨a, rfl, fun j q hq => ?_⟩⟩, ?_, .inr ⟨_, _, (Prod.mk.inj hdd).1, by simp⟩⟩
    · have hj : j < len := by
        rw [← hlen]
        exact (List.getElem?_eq_some_iff.1 hq).1
      obtain rfl : X j = q := by simpa [hj] using hq
      obtain ⟨cs', h1, h2, _⟩ := hX j hj
      obtain ⟨_, hcl, hcc⟩ := World.cells?_some h1
      refine ⟨cs', hcl.trans hk.symm, h2, fun i u hu => ?_⟩
      have hi : i < P.cellsOf e := by rw [← hcl]; exact (List.getElem?_eq_some_iff.1 hu).1
      have := hcc i hi
      rw [hk, ← Go.Deep.add_add, this, hu]
    · intro x hx'
      obtain ⟨i, hi, rfl⟩ := List.mem_map.1 hx'
      obtain ⟨_, _, _, hg⟩ := hX i (List.mem_range.1 hi)
      exact hg
instance : Inhabited S29 := ⟨z29⟩
/-- the numbers of a question are of their kind -/
structure Nums (x : S29) : Prop where
  t0 : 0 ≤ x.f1 ∧ x.f1 ≤ 65535
  c0 : 0 ≤ x.f2 ∧ x.f2 ≤ 65535
theorem el29 {H : Type} {enc : TypeId × Value → H} {W : World} : ∀ n cs y, cs.length = Try.prog.cellsOf 29 → DataW.trod enc Try.prog W 0 (fun _ => true) true n 29 cs = some y → ∃ x : S29, k29.K W x cs ∧ Nums x := by
  intro n cs y hl h
  rw [cells29] at hl
  match cs, hl with
  | [c0, c1, c2], _ =>
    obtain ⟨y0, y1, y2, m, _, _, h0, h1, h2⟩ := Go.Deep.trod_struct3 Try.underlying29 h
    have c9 : Try.prog.cellsOf 9 = 1 := by kernel_rfl
    have c27 : Try.prog.cellsOf 27 = 1 := by kernel_rfl
    simp only [c9, c27, List.drop_zero, List.drop_succ_cons, List.take_succ_cons, List.take_zero] at h0 h1 h2
    obtain ⟨s, e0, _, _⟩ := DataW.trod_string Try.underlying9 h0
    obtain ⟨t, e1, _, w1⟩ := DataW.trod_int Try.underlying27 h1
    obtain ⟨c, e2, _, w2⟩ := DataW.trod_int Try.underlying27 h2
    obtain rfl : c0 = .string s := by simpa using e0
    obtain rfl : c1 = .int .u16 t := by simpa using e1
    obtain rfl : c2 = .int .u16 c := by simpa using e2
    exact ⟨⟨s, t, c⟩, k29_mk W ⟨s, t, c⟩, u16_of w1, u16_of w2⟩
theorem open_questions {H : Type} {enc : TypeId × Value → H} {W : World} {base : Nat} {v : Value} {d : DataW H} {p : List MemPlace} (hv : Value.okWide Try.prog W .any base 32 v) (h : DataW.Trod enc Try.prog W 0 (fun _ => true) true 32 v d p) :
    ∃ A cap xs, v = .slice A xs.length cap ∧ xs.length ≤ cap ∧ k29.C W A xs.length xs ∧ (∀ x ∈ xs, Nums x) ∧ (xs = [] ∨ ∃ es sp, d = .slice es sp ∧ es.length = xs.length) :=
  open_kd k29 Nums Try.underlying32 (by rw [cells29]; rfl) el29 hv h
end Go.Proofs.Ytefijphihplblaa.OwnHashOpen
