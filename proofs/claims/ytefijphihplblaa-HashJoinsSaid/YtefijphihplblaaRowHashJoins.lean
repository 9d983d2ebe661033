/- HashJoins: the row: questions of two lists are spread as both together, one by one; over one shard all stand there; for every two lists and number. -/
import Derived.Test.YtefijphihplblaaRows
import Derived.Test.YtefijphihplblaaOwnJoins
import Derived.Test.YtefijphihplblaaOwnHashOpen
import Derived.WalkKit
import Derived.ProofKit
import Derived.OpenShut
import Derived.ShutString
import Derived.ChangeOld
import Derived.Below
import Derived.Carry
import Derived.SizedLaws
namespace Go.Proofs.Ytefijphihplblaa.hashJoins
open Go.ChangeShapes Go.WideShapes Go.ChangeAt Go.RowKit
open Go.ChangeMaps (open_string shut_string)
open Go.Proofs.Ytefijphihplblaa.OwnHash Go.Proofs.Ytefijphihplblaa.OwnHashOpen
set_option linter.unusedVariables false
theorem own : ownKnob Try.prog.godebug = none := by kernel_rfl
theorem laidOut : laidOutB Try.prog = true := by kernel_rfl
theorem lt_of {H : Type} {enc : TypeId × Value → H} {W : World} {t : TypeId} {v : Value} {d : DataW H} {ps : List MemPlace} (h : DataW.Trod enc Try.prog W 0 (fun _ => true) true t v d ps) : ∀ x ∈ ps, x.block < W.heap.size := by
  obtain ⟨n, hn⟩ := h
  exact DataW.trod_lt n _ _ _ hn
set_option maxRecDepth 100000 in
theorem lifted (os : Os) (started : os.Started) (H : Type) (enc : TypeId × Value → H) :
    ReturnsInHanded {} Try.checked os 7 .any (Rows.hashJoinsSpec.pre6 enc Try.prog Try.f7 Rows.hashJoinsRow.domain false) (Rows.hashJoinsSpec.post enc Try.prog Try.f7 false true false false) := by
  refine returnsInHanded_of_change_sized (C := Try.checked) own started (by kernel_rfl) Try.func7
    (ChangeSpec.witness6 (enc := enc) (C := Try.checked) false ⟨#[], #[.slice none 0 0, .slice none 0 0, .int .u8 0], []⟩ 8 (by kernel_rfl) (by kernel_rfl) (by kernel_rfl) (by kernel_rfl)) ?_
  intro W base args ds gs before hval0 hW hcnd hsz0 _
  have hsz : (DataW.weightsEach Try.prog (Try.f7.params.toList ++ Rows.hashJoinsSpec.plain.varTypes Try.prog) (ds ++ gs)).all (· ≤ reachBytes) = true := hsz0
  have hval : ∀ (j : Nat) t v, Try.f7.params[j]? = some t → args[j]? = some v → Value.okWide Try.prog W .any base t v := hval0
  have hW' := hW
  obtain ⟨p, q, hA0, hV, rfl, hfz, hnd⟩ := hW
  have hA : DataW.TrodAll enc Try.prog W 0 (fun _ => true) true Try.f7.params.toList args.toList ds p := hA0
  rw [Try.params7] at hA hval hsz
  obtain ⟨v0, vs0, d0, ds0, p0, q0, hargs, rfl, rfl, h0, r0⟩ := trodAll_cons hA
  obtain ⟨v1, vs1, d1, ds1, p1, q1, rfl, rfl, rfl, h1, r1⟩ := trodAll_cons r0
  obtain ⟨v2, vs2, d2, ds2, p2, q2, rfl, rfl, rfl, h2, r2⟩ := trodAll_cons r1
  obtain ⟨rfl, rfl, rfl⟩ := trodAll_nil r2
  obtain rfl : args = #[v0, v1, v2] := by cases args; simp_all
  obtain ⟨rfl, rfl⟩ := trodVars_none hV
  have lt0 := lt_of h0
  obtain ⟨A0, k0, xs0, rfl, lc0, cr0, ng0, ds0⟩ := open_questions (hval 0 32 v0 rfl rfl) h0
  have ln0 : xs0.length ≤ 1000000000000000 := by
    rcases ds0 with e | ⟨es, sp, e, el⟩
    · rw [e]; simp
    · have z := sized_slice hsz (j := 0) (t := 32) rfl (by rw [e]; rfl) Try.underlying32
      have b : Try.prog.bytesOf 29 = 24 := by kernel_rfl
      rw [b] at z
      have r : reachBytes ≤ 140737488351232 := by decide
      omega
  have lt1 := lt_of h1
  obtain ⟨A1, k1, xs1, rfl, lc1, cr1, ng1, ds1⟩ := open_questions (hval 1 32 v1 rfl rfl) h1
  have ln1 : xs1.length ≤ 1000000000000000 := by
    rcases ds1 with e | ⟨es, sp, e, el⟩
    · rw [e]; simp
    · have z := sized_slice hsz (j := 1) (t := 32) rfl (by rw [e]; rfl) Try.underlying32
      have b : Try.prog.bytesOf 29 = 24 := by kernel_rfl
      rw [b] at z
      have r : reachBytes ≤ 140737488351232 := by decide
      omega
  obtain ⟨a2, rfl, rfl, rfl, w2⟩ := open_int Try.underlying5 (hval 2 5 v2 rfl rfl) h2
  clear hA0 hval0 hsz0 hsz
  refine (OwnJoins.walk A0 A1 k0 k1 xs0 xs1 a2 W (u8_of w2) cr0 lc0 (by omega) (fun x hx => ⟨(ng0 x hx).t0, (ng0 x hx).c0⟩) cr1 lc1 (by omega) (fun x hx => ⟨(ng1 x hx).t0, (ng1 x hx).c0⟩)).mono fun e W' ⟨he, bel⟩ => ?_
  subst he
  exact ⟨_, rfl, _, _, _, [], _, [], hW', trodAll_mk1 (shut_bool Try.underlying4 _), (trodAll_cons_mk (Below.trod laidOut (by kernel_rfl) (of_decide_eq_true (by kernel_rfl)) h0 bel lt0) (trodAll_cons_mk (Below.trod laidOut (by kernel_rfl) (of_decide_eq_true (by kernel_rfl)) h1 bel lt1) (trodAll_cons_mk (shut_int Try.underlying5 w2) trodAll_mk0))), rfl, bel.frame _, fun h => by cases h⟩
theorem over : Rows.hashJoinsRow.holds Try.pinned (OpenSpec.ofChange Rows.hashJoinsSpec) :=
  OpenClaim.holds_of_wide 7 Try.f7 rfl rfl rfl rfl rfl rfl rfl ⟨rfl, rfl, rfl, rfl, rfl⟩ rfl rfl rfl rfl rfl (by kernel_rfl) Try.func7 (by kernel_rfl)
    (of_decide_eq_true (by kernel_rfl)) (by unfold Func.isWrapper; first | (rw [if_pos (by decide +kernel)]; kernel_rfl) | (rw [if_neg (by decide +kernel)]; exact ⟨rfl, rfl⟩))
    (fun os started H enc _ => lifted os started H enc)
theorem proved : Rows.HashJoinsSaid := over
#print axioms proved
end Go.Proofs.Ytefijphihplblaa.hashJoins
namespace Go.Proofs.Ytefijphihplblaa
/-- The row, under a short name, for the claim. -/
theorem hashJoins_holds : Rows.HashJoinsSaid := hashJoins.proved
end Go.Proofs.Ytefijphihplblaa
