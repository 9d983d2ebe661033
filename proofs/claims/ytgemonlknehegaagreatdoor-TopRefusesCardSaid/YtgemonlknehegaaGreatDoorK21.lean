/- The chain of TopRefuses, part 21. -/
import Derived.Test.YtgemonlknehegaaGreatDoorK15
import Derived.Test.YtgemonlknehegaaGreatDoorK16
import Derived.Test.YtgemonlknehegaaGreatDoorK17
import Derived.Test.YtgemonlknehegaaGreatDoorK18
import Derived.Test.YtgemonlknehegaaGreatDoorK19
import Derived.Test.YtgemonlknehegaaGreatDoorK20
namespace Go.Proofs.YtgemonlknehegaaGreatDoor.AI
open Go
set_option maxRecDepth 1000000
noncomputable section
def endF : EO := ⟨.exit 4, stE.t, [], stE.h⟩
theorem turns100 : Turns rL [endF] 1 st100.t [] st100.h := turns_last pieceE
theorem turns86 : Turns rL [endF] (1 + 14) st86.t [] st86.h := turns_piece turns100 14 _ _ _ piece100
theorem turns66 : Turns rL [endF] (1 + 14 + 20) st66.t [] st66.h := turns_piece turns86 20 _ _ _ piece86
theorem turns46 : Turns rL [endF] (1 + 14 + 20 + 20) st46.t [] st46.h := turns_piece turns66 20 _ _ _ piece66
theorem turns26 : Turns rL [endF] (1 + 14 + 20 + 20 + 20) st26.t [] st26.h := turns_piece turns46 20 _ _ _ piece46
theorem turns6 : Turns rL [endF] (1 + 14 + 20 + 20 + 20 + 20) st6.t [] st6.h := turns_piece turns26 20 _ _ _ piece26
theorem turns5 : Turns rL [endF] (1 + 14 + 20 + 20 + 20 + 20 + 1) st5.t [] st5.h := turns_piece turns6 1 _ _ _ piece6
theorem turns4 : Turns rL [endF] (1 + 14 + 20 + 20 + 20 + 20 + 1 + 1) st4.t [] st4.h := turns_piece turns5 1 _ _ _ piece5
theorem turns3 : Turns rL [endF] (1 + 14 + 20 + 20 + 20 + 20 + 1 + 1 + 1) st3.t [] st3.h := turns_piece turns4 1 _ _ _ piece4
theorem turns2 : Turns rL [endF] (1 + 14 + 20 + 20 + 20 + 20 + 1 + 1 + 1 + 1) st2.t [] st2.h := turns_piece turns3 1 _ _ _ piece3
theorem turns0 : Turns rL [endF] (1 + 14 + 20 + 20 + 20 + 20 + 1 + 1 + 1 + 1 + 2) st0.t [] st0.h := turns_piece turns2 2 _ _ _ piece2
def code22 : ACode := (ctxOf 4 (bodyOf Tryz.prog 22)).run Tryz.prog 22 104 (jumpRun st0 endF)
def run22 (args : List AV) (h : H) : List VR := whenL (Nat.ble (llen args) Tryz.f22.ntmps) (bindO (code22.run R40 (initTm args 0 .leaf) [] h) fun o => finish Tryz.prog Tryz.f22.results.toList o)
def R22 : Rec := withFn 22 run22 R40
theorem R40_ok : SoundRec Tryz.prog R40 := run_sound extOk mixed mg 40
theorem nt22 : Nat.beq Tryz.f22.ntmps 104 = true := by kernel_rfl
theorem find22 : (match findLoop 4 (bodyOf Tryz.prog 22) with | some _ => true | none => false) = true := by kernel_rfl
theorem fill22 : (ctxOf 4 (bodyOf Tryz.prog 22)).fill (.loop (loopOf 4 (bodyOf Tryz.prog 22))) = bodyOf Tryz.prog 22 := by
  have h := find22
  unfold ctxOf loopOf
  cases hf : findLoop 4 (bodyOf Tryz.prog 22) with
  | none => rw [hf] at h; cases h
  | some r => exact findLoop_ok 4 _ r hf
theorem body22 : ∃ c, Tryz.f22.body = some c ∧ bodyOf Tryz.prog 22 = c := by
  unfold bodyOf
  rw [Tryz.func22]
  exact ⟨_, rfl, rfl⟩
theorem code22_ok (N : Nat) : CodeOk Tryz.prog N 104 R40 none (bodyOf Tryz.prog 22) code22.run := by
  have hnt : 104 = ntOf Tryz.prog 22 := by
    unfold ntOf
    rw [Tryz.func22]
    exact (beq_iff.1 nt22).symm
  have h := ctx_ok (N := N) extOk mixed R40_ok (f := 22) hnt (jump_ok (code_ok (N := N) extOk mixed R40_ok hnt (inR := false) (fun _ => rfl) (loopOf 4 (bodyOf Tryz.prog 22))) turns0) (ctxOf 4 (bodyOf Tryz.prog 22))
  rw [fill22] at h
  exact h
theorem R22_ok : SoundRec Tryz.prog R22 := by
  obtain ⟨c, hb, hc⟩ := body22
  refine withFn_ok R40_ok ⟨_, c, Tryz.func22, hb⟩ fun args h hne => ?_
  refine fnBody_ok Tryz.func22 hb (fun N => ?_) hne
  rw [show Tryz.f22.ntmps = 104 from beq_iff.1 nt22, ← hc]
  exact code22_ok N
def trues (l : List VR) : Bool := pick (isNil l) false (lall (fun r => r.v.onBool false fun b => b) l)
theorem livesRun : trues ((compileFn Tryz.prog 9).run R22 [] ⟨.leaf, .h⟩) = true := by kernel_rfl
/-- WHATEVER THERE IS IN MEMORY: lives() is true, and what was there stays. -/
theorem lives_calls (w : World) : CallsIn Fence.wide 0 Tryz.prog 9 #[] w fun e w' => e = .returned (.bool true) ∧ (∀ k, k < w.heap.size → w'.heap[k]? = w.heap[k]?) ∧ w.heap.size ≤ w'.heap.size ∧ w'.os = w.os ∧ w'.tape = w.tape ∧ w'.output = w.output := by
  have hr := livesRun
  have hne : (compileFn Tryz.prog 9).run R22 [] ⟨.leaf, .h⟩ ≠ [] := fun h0 => by rw [h0] at hr; cases hr
  have hh : Holds Tryz.prog w.heap.size (fun _ => none) ⟨.leaf, .h⟩ w := ⟨fun b o hb => (by cases hb), fun b b' o o' l l' hb => (by cases hb), fun b _ => rfl, fun b o l hb => (by cases hb), Nat.le_refl _⟩
  refine ((fn_ok extOk mixed R22_ok hne).2 w.heap.size _ w [] hh denL_nil).mono fun e w' hret => ?_
  cases e with
  | panicked _ => exact hret.elim
  | outgrown => exact hret.elim
  | returned v =>
    obtain ⟨r, hm, σ', d, E⟩ := hret
    have : r.v.onBool false (fun b => b) = true := by
      cases hn : isNil ((compileFn Tryz.prog 9).run R22 [] ⟨.leaf, .h⟩) with
      | true => exact absurd (isNil_eq.1 hn) hne
      | false =>
        have hr' : pick (isNil ((compileFn Tryz.prog 9).run R22 [] ⟨.leaf, .h⟩)) false (lall (fun r => r.v.onBool false fun b => b) ((compileFn Tryz.prog 9).run R22 [] ⟨.leaf, .h⟩)) = true := hr
        rw [hn] at hr'
        have hr2 : lall (fun (r : VR) => r.v.onBool false fun b => b) ((compileFn Tryz.prog 9).run R22 [] ⟨.leaf, .h⟩) = true := hr'
        exact lall_mem hr2 r hm
    have hv : r.v = .bool true := by
      cases hx : r.v with
      | bool b => rw [hx] at this; have : b = true := this; rw [this]
      | _ => rw [hx] at this; cases this
    rw [hv] at d
    refine ⟨by simpa [den, eq_comm] using d, fun k hk => E.kept k hk (fun b o l hb => by cases hb), E.size, E.os, E.tape, E.output⟩
end
end Go.Proofs.YtgemonlknehegaaGreatDoor.AI
