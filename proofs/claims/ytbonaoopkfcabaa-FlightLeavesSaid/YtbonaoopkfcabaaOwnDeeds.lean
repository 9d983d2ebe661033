/- How a deed (a struct of three numbers) and a slice of deeds lie as values: opened out of what the form says of an argument. -/
import Derived.Test.YtbonaoopkfcabaaOwnFlightH
import Derived.ProofKit
import Derived.OpenShut
import Derived.Deep.Slices
import Derived.Deep.Strs
namespace Go.Proofs.Ytbonaoopkfcabaa.OwnDeeds
open Go.ChangeShapes Go.WideShapes Go.RowKit Go.Proofs.YtbonaoopkfcabaaW.PrintWords Go.Proofs.YtbonaoopkfcabaaW.PrintLast Go.Proofs.YtbonaoopkfcabaaW.PrintMore
set_option linter.unusedVariables false

structure Dd where
  kind : Int
  k : Int
  who : Int
def zD : Dd := ⟨0, 0, 0⟩
def kD : Kd Dd := Kd.iso (Kd.pair (Kd.int .i64) (Kd.pair (Kd.int .i64) (Kd.int .i64))) (fun x : Dd => (x.kind, x.k, x.who))
theorem kD_open {w : World} {x : Dd} {cs : List Value} (h : kD.K w x cs) : cs = [.int .i64 x.kind, .int .i64 x.k, .int .i64 x.who] := by
  obtain ⟨_, _, rfl, rfl, ⟨_, _, rfl, rfl, rfl⟩⟩ := h
  rfl
theorem kD_mk (w : World) (x : Dd) : kD.K w x [.int .i64 x.kind, .int .i64 x.k, .int .i64 x.who] := ⟨[.int .i64 x.kind], [.int .i64 x.k, .int .i64 x.who], rfl, rfl, ⟨[.int .i64 x.k], [.int .i64 x.who], rfl, rfl, rfl⟩⟩
def rdD (xs : List Dd) (i : Int) : Dd := xs.getD i.toNat zD
theorem at_D {w : World} {A : Option Addr} {n : Nat} {xs : List Dd} (h : Kd.C kD w A n xs) (i : Int) (h0 : 0 ≤ i) (h1 : i < n) : ∃ ad, A = some ad ∧ w.cell? (ad.add (i.toNat * 3)) = some (.int .i64 (rdD xs i).kind) ∧ w.cell? ⟨(ad.add (i.toNat * 3)).block, (ad.add (i.toNat * 3)).off + 1, none⟩ = some (.int .i64 (rdD xs i).k) ∧ w.cell? ⟨(ad.add (i.toNat * 3)).block, (ad.add (i.toNat * 3)).off + 2, none⟩ = some (.int .i64 (rdD xs i).who) := by
  obtain ⟨ad, c, e, _, hK, hc0⟩ := Kd.C_get h zD i h0 h1
  have hc : ∀ j u, c[j]? = some u → w.cell? (ad.add (i.toNat * 3 + j)) = some u := hc0
  obtain rfl := kD_open hK
  exact ⟨ad, e, hc 0 _ rfl, by rw [← add_field _ _ 1 (by omega)]; exact hc 1 _ rfl, by rw [← add_field _ _ 2 (by omega)]; exact hc 2 _ rfl⟩
theorem rdD_at {l : List Dd} {i : Int} (h0 : 0 ≤ i) (h : i < (l.length : Int)) : rdD l i ∈ l := by
  unfold rdD
  have hn : i.toNat < l.length := by omega
  rw [List.getD_eq_getElem?_getD, List.getElem?_eq_getElem hn]
  exact List.getElem_mem hn
/-- A slice whose elements are of a kind that reads so, opened. -/
theorem open_kd {H : Type} {enc : TypeId × Value → H} {P : Program} {W : World} {base : Nat} {t e : TypeId} {v : Value} {d : DataW H} {p : List MemPlace} {α : Type} [Inhabited α] (k : Kd α) (G : α → Prop)
    (ht : P.underlying t = some (.slice e)) (hk : k.sz = P.cellsOf e)
    (hel : ∀ n cs y, cs.length = P.cellsOf e → DataW.trod enc P W 0 (fun _ => true) true n e cs = some y → ∃ x, k.K W x cs ∧ G x)
    (hv : Value.okWide P W .any base t v) (h : DataW.Trod enc P W 0 (fun _ => true) true t v d p) :
    ∃ A cap xs, v = .slice A xs.length cap ∧ xs.length ≤ cap ∧ k.C W A xs.length xs ∧ (∀ x ∈ xs, G x) ∧ (xs = [] ∨ ∃ es sp, d = .slice es sp ∧ es.length = xs.length) := by
  obtain ⟨a0, len, cap, rfl⟩ := okWide_slice ht hv
  obtain ⟨fuel, hf⟩ := h
  have hf' : DataW.trod enc P W 0 (fun _ => true) true fuel t [.slice a0 len cap] = some (d, p) := by simpa [Value.cells] using hf
  rcases Go.Deep.open_slice ht hf' with ⟨hcs, _⟩ | ⟨a, len', cap', m, n, D, Pl, hcs, hb, hl, hm, hmm, hdd, hx⟩
  · obtain ⟨rfl, rfl, rfl⟩ : a0 = none ∧ len = 0 ∧ cap = 0 := by simpa using hcs
    exact ⟨none, 0, [], rfl, Nat.le_refl _, ⟨rfl, by simp, fun h => absurd h (by simp)⟩, by simp, .inl rfl⟩
  · obtain ⟨rfl, rfl, rfl⟩ : a0 = some a ∧ len = len' ∧ cap = cap' := by simpa using hcs
    have hmc : m = cap := by simpa using hmm
    obtain ⟨X, hX⟩ := Go.Deep.choose_lt (α := α) (n := len) (p := fun i x => ∃ cs', W.cells? 0 (a.add (i * P.cellsOf e)) (P.cellsOf e) = some cs' ∧ k.K W x cs' ∧ G x) (fun i hi => by
      obtain ⟨cs', h1, h2⟩ := hx i (by omega)
      obtain ⟨_, hlen, _⟩ := World.cells?_some h1
      obtain ⟨x, hx1, hx2⟩ := hel n cs' _ hlen h2
      exact ⟨x, cs', h1, hx1, hx2⟩)
    have hlen : ((List.range len).map X).length = len := by simp
    refine ⟨some a, cap, (List.range len).map X, by rw [hlen], by rw [hlen]; exact hl, ⟨by rw [hlen], by rw [hlen]; unfold maxLen at hm; omega, fun _ => ⟨a, rfl, fun j q hq => ?_⟩⟩, ?_, .inr ⟨_, _, (Prod.mk.inj hdd).1, by simp⟩⟩
    · have hj : j < len := by
        rw [← hlen]
        exact (List.getElem?_eq_some_iff.1 hq).1
      obtain rfl : X j = q := by simpa [hj] using hq
      obtain ⟨cs', h1, h2, _⟩ := hX j hj
      obtain ⟨_, hcl, hcc⟩ := World.cells?_some h1
      refine ⟨cs', hcl.trans hk.symm, h2, fun i u hu => ?_⟩
      have hi : i < P.cellsOf e := by rw [← hcl]; exact (List.getElem?_eq_some_iff.1 hu).1
      have := hcc i hi
      rw [hk, ← Go.Deep.add_add, this, hu]
    · intro x hx'
      obtain ⟨i, hi, rfl⟩ := List.mem_map.1 hx'
      obtain ⟨_, _, _, hg⟩ := hX i (List.mem_range.1 hi)
      exact hg
instance : Inhabited Dd := ⟨zD⟩
/-- the numbers of a deed are of their kind -/
structure Nums (x : Dd) : Prop where
  kind : (Lit.int .i64 x.kind).wf = true
  k : (Lit.int .i64 x.k).wf = true
  who : (Lit.int .i64 x.who).wf = true
theorem cells28 : Try.prog.cellsOf 28 = 3 := by kernel_rfl
theorem el28 {H : Type} {enc : TypeId × Value → H} {W : World} : ∀ n cs y, cs.length = Try.prog.cellsOf 28 → DataW.trod enc Try.prog W 0 (fun _ => true) true n 28 cs = some y → ∃ x : Dd, kD.K W x cs ∧ Nums x := by
  intro n cs y hl h
  rw [cells28] at hl
  match cs, hl with
  | [c0, c1, c2], _ =>
    obtain ⟨y0, y1, y2, m, _, _, h0, h1, h2⟩ := Go.Deep.trod_struct3 Try.underlying28 h
    have c3 : Try.prog.cellsOf 3 = 1 := by kernel_rfl
    simp only [c3, List.drop_zero, List.drop_succ_cons, List.take_succ_cons, List.take_zero] at h0 h1 h2
    obtain ⟨s, e0, _, w0⟩ := DataW.trod_int Try.underlying3 h0
    obtain ⟨t, e1, _, w1⟩ := DataW.trod_int Try.underlying3 h1
    obtain ⟨c, e2, _, w2⟩ := DataW.trod_int Try.underlying3 h2
    obtain rfl : c0 = .int .i64 s := by simpa using e0
    obtain rfl : c1 = .int .i64 t := by simpa using e1
    obtain rfl : c2 = .int .i64 c := by simpa using e2
    exact ⟨⟨s, t, c⟩, kD_mk W ⟨s, t, c⟩, w0, w1, w2⟩
theorem open_deeds {H : Type} {enc : TypeId × Value → H} {W : World} {base : Nat} {v : Value} {d : DataW H} {p : List MemPlace} (hv : Value.okWide Try.prog W .any base 22 v) (h : DataW.Trod enc Try.prog W 0 (fun _ => true) true 22 v d p) :
    ∃ A cap xs, v = .slice A xs.length cap ∧ xs.length ≤ cap ∧ kD.C W A xs.length xs ∧ (∀ x ∈ xs, Nums x) ∧ (xs = [] ∨ ∃ es sp, d = .slice es sp ∧ es.length = xs.length) :=
  open_kd kD Nums Try.underlying22 (by rw [cells28]; rfl) el28 hv h
end Go.Proofs.Ytbonaoopkfcabaa.OwnDeeds
