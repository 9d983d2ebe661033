/- HashTells: the row: sums, keys, shards and spreads are the reference's; for every input. -/
import Derived.Test.YtefijphihplblaaRows
import Derived.Test.YtefijphihplblaaOwnTells
import Derived.Test.YtefijphihplblaaOwnHashOpen
import Derived.WalkKit
import Derived.ProofKit
import Derived.OpenShut
import Derived.ShutString
import Derived.ChangeOld
import Derived.Below
import Derived.Carry
import Derived.SizedLaws
namespace Go.Proofs.Ytefijphihplblaa.hashTells
open Go.ChangeShapes Go.WideShapes Go.ChangeAt Go.RowKit
open Go.ChangeMaps (open_string shut_string)
open Go.Proofs.Ytefijphihplblaa.OwnHash Go.Proofs.Ytefijphihplblaa.OwnHashOpen
set_option linter.unusedVariables false
theorem own : ownKnob Try.prog.godebug = none := by kernel_rfl
theorem laidOut : laidOutB Try.prog = true := by kernel_rfl
theorem lt_of {H : Type} {enc : TypeId × Value → H} {W : World} {t : TypeId} {v : Value} {d : DataW H} {ps : List MemPlace} (h : DataW.Trod enc Try.prog W 0 (fun _ => true) true t v d ps) : ∀ x ∈ ps, x.block < W.heap.size := by
  obtain ⟨n, hn⟩ := h
  exact DataW.trod_lt n _ _ _ hn
theorem i64_le {c : Int} (h : (Lit.int .i64 c).wf = true) : c ≤ 9223372036854775807 := by
  have b : IntKind.i64.max = 9223372036854775807 := by decide
  have a : IntKind.i64.min = -9223372036854775808 := by decide
  have := h
  simp only [Lit.wf, a, b, Bool.and_eq_true, decide_eq_true_eq] at this
  exact this.2
set_option maxRecDepth 100000 in
theorem lifted (os : Os) (started : os.Started) (H : Type) (enc : TypeId × Value → H) :
    ReturnsInHanded {} Try.checked os 5 .any (Rows.hashTellsSpec.pre6 enc Try.prog Try.f5 Rows.hashTellsRow.domain false) (Rows.hashTellsSpec.post enc Try.prog Try.f5 false true false false) := by
  refine returnsInHanded_of_change_sized (C := Try.checked) own started (by kernel_rfl) Try.func5
    (ChangeSpec.witness6 (enc := enc) (C := Try.checked) false ⟨#[], #[.string ByteArray.empty, .agg #[.string ByteArray.empty, .int .u16 0, .int .u16 0], .slice none 0 0, .int .i64 0], []⟩ 8 (by kernel_rfl) (by kernel_rfl) (by kernel_rfl) (by kernel_rfl)) ?_
  intro W base args ds gs before hval0 hW hcnd hsz0 _
  have hsz : (DataW.weightsEach Try.prog (Try.f5.params.toList ++ Rows.hashTellsSpec.plain.varTypes Try.prog) (ds ++ gs)).all (· ≤ reachBytes) = true := hsz0
  have hval : ∀ (j : Nat) t v, Try.f5.params[j]? = some t → args[j]? = some v → Value.okWide Try.prog W .any base t v := hval0
  have hW' := hW
  obtain ⟨p, q, hA0, hV, rfl, hfz, hnd⟩ := hW
  have hA : DataW.TrodAll enc Try.prog W 0 (fun _ => true) true Try.f5.params.toList args.toList ds p := hA0
  rw [Try.params5] at hA hval hsz
  obtain ⟨v0, vs0, d0, ds0, p0, q0, hargs, rfl, rfl, h0, r0⟩ := trodAll_cons hA
  obtain ⟨v1, vs1, d1, ds1, p1, q1, rfl, rfl, rfl, h1, r1⟩ := trodAll_cons r0
  obtain ⟨v2, vs2, d2, ds2, p2, q2, rfl, rfl, rfl, h2, r2⟩ := trodAll_cons r1
  obtain ⟨v3, vs3, d3, ds3, p3, q3, rfl, rfl, rfl, h3, r3⟩ := trodAll_cons r2
  obtain ⟨rfl, rfl, rfl⟩ := trodAll_nil r3
  obtain rfl : args = #[v0, v1, v2, v3] := by cases args; simp_all
  obtain ⟨rfl, rfl⟩ := trodVars_none hV
  obtain ⟨a0, rfl, rfl, rfl, y0⟩ := open_string Try.underlying9 (hval 0 9 v0 rfl rfl) h0
  have w0 : a0.size ≤ 140737488351232 := by
    have z := sized_string hsz (j := 0) (t := 9) rfl rfl
    rw [Array.length_toList] at z
    exact z
  have lt1 := lt_of h1
  obtain ⟨n1, t1, c1, rfl, wt1, wc1⟩ := open_question (hval 1 29 v1 rfl rfl)
  have lt2 := lt_of h2
  obtain ⟨A2, k2, xs2, rfl, lc2, cr2, ng2, ds2⟩ := open_questions (hval 2 32 v2 rfl rfl) h2
  have ln2 : xs2.length ≤ 1000000000000000 := by
    rcases ds2 with e | ⟨es, sp, e, el⟩
    · rw [e]; simp
    · have z := sized_slice hsz (j := 2) (t := 32) rfl (by rw [e]; rfl) Try.underlying32
      have b : Try.prog.bytesOf 29 = 24 := by kernel_rfl
      rw [b] at z
      have r : reachBytes ≤ 140737488351232 := by decide
      omega
  obtain ⟨a3, rfl, rfl, rfl, w3⟩ := open_int Try.underlying3 (hval 3 3 v3 rfl rfl) h3
  clear hA0 hval0 hsz0 hsz
  refine (OwnTells.walk a0 n1 t1 c1 A2 k2 xs2 a3 W cr2 lc2 (by omega) (u16_of wt1) (u16_of wc1) (fun x hx => ⟨(ng2 x hx).t0, (ng2 x hx).c0⟩) (i64_le w3)).mono fun e W' ⟨he, bel⟩ => ?_
  subst he
  exact ⟨_, rfl, _, _, _, [], _, [], hW', trodAll_mk1 (shut_bool Try.underlying4 _), (trodAll_cons_mk (shut_string Try.underlying9 y0) (trodAll_cons_mk (Below.trod laidOut (by kernel_rfl) (of_decide_eq_true (by kernel_rfl)) h1 bel lt1) (trodAll_cons_mk (Below.trod laidOut (by kernel_rfl) (of_decide_eq_true (by kernel_rfl)) h2 bel lt2) (trodAll_cons_mk (shut_int Try.underlying3 w3) trodAll_mk0)))), rfl, bel.frame _, fun h => by cases h⟩
theorem over : Rows.hashTellsRow.holds Try.pinned (OpenSpec.ofChange Rows.hashTellsSpec) :=
  OpenClaim.holds_of_wide 5 Try.f5 rfl rfl rfl rfl rfl rfl rfl ⟨rfl, rfl, rfl, rfl, rfl⟩ rfl rfl rfl rfl rfl (by kernel_rfl) Try.func5 (by kernel_rfl)
    (of_decide_eq_true (by kernel_rfl)) (by unfold Func.isWrapper; first | (rw [if_pos (by decide +kernel)]; kernel_rfl) | (rw [if_neg (by decide +kernel)]; exact ⟨rfl, rfl⟩))
    (fun os started H enc _ => lifted os started H enc)
theorem proved : Rows.HashTellsSaid := over
#print axioms proved
end Go.Proofs.Ytefijphihplblaa.hashTells
namespace Go.Proofs.Ytefijphihplblaa
/-- The row, under a short name, for the claim. -/
theorem hashTells_holds : Rows.HashTellsSaid := hashTells.proved
end Go.Proofs.Ytefijphihplblaa
