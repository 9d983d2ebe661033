/- The chain of TopRefuses, part 50. -/
import Derived.Test.YtgemonlknehegaaGreatDoorK47
import Derived.Test.YtgemonlknehegaaGreatDoorK48
import Derived.Test.YtgemonlknehegaaGreatDoorK49
import Derived.Test.YtgemonlknehegaaGreatDoorK21
namespace Go.Proofs.YtgemonlknehegaaGreatDoor.AI
open Go
set_option linter.unusedVariables false
set_option linter.unusedSimpArgs false
set_option maxRecDepth 100000
attribute [local irreducible] rcA rsT qsT oQ oA oS oR okM erM rspB T5
/-! ### Questions take room -/
theorem tk_gt {s : List UInt8} {a0 : Int} (h0 : 0 ≤ a0) : ∀ (f : Nat) (x : TS) (r : List UInt8 × Int), (x.be < 0 → a0 ≤ x.a) → (0 ≤ x.be → a0 < x.be) → tk f s x = some r → a0 < r.2
  | 0, _, _, _, _, h => by cases h
  | f + 1, x, r, h1, h2, h => by
    have h' : (match tstep s x with | .err => none | .more y => tk f s y | .done n b => some (n, b)) = some r := h
    have hw := w8_eq s x.a
    have hz := z8_lt s x.a
    cases hs : tstep s x with
    | err => rw [hs] at h'; cases h'
    | more y =>
      rw [hs] at h'
      unfold tstep at hs
      split at hs
      · cases hs
      · rename_i hok
        have hok := of_decide_eq_true hok
        split at hs
        · cases hs
        · split at hs
          · split at hs
            · cases hs
              by_cases hb : x.be < 0
              · have := h1 hb
                refine tk_gt h0 f _ r ?_ ?_ h' <;> simp only [decide_eq_true hb] <;> omega
              · have := h2 (by omega)
                refine tk_gt h0 f _ r ?_ ?_ h' <;> simp only [decide_eq_false hb] <;> omega
            · cases hs
          · cases hs
        · split at hs
          · cases hs
          · split at hs
            · cases hs
            · split at hs
              · cases hs
                have h3 : tk f s ⟨x.a + 1 + w8 s x.a, x.fr, x.be, x.out ++ one s x.a ++ fold (lbl s x.a)⟩ = some r := h'
                refine tk_gt h0 f ⟨x.a + 1 + w8 s x.a, x.fr, x.be, x.out ++ one s x.a ++ fold (lbl s x.a)⟩ r (fun hb => ?_) h2 h3
                have := h1 hb
                show a0 ≤ x.a + 1 + w8 s x.a
                omega
              · cases hs
    | done n b =>
      rw [hs] at h'
      cases h'
      unfold tstep at hs
      split at hs
      · cases hs
      · split at hs
        · cases hs
        · split at hs
          · split at hs <;> cases hs
          · cases hs
        · split at hs
          · cases hs
          · split at hs
            · cases hs
            · split at hs
              · cases hs
              · cases hs
                show a0 < _
                by_cases hb : x.be < 0
                · have := h1 hb
                  simp only [decide_eq_true hb]; omega
                · have := h2 (by omega)
                  simp only [decide_eq_false hb]; omega
theorem nxA_gt {s : List UInt8} {a : Int} (h : okA s a = true) (h0 : 0 ≤ a) : a < nxA s a := by
  unfold okA at h
  unfold nxA nxOf
  cases h1 : nameAt s a a (-1) with
  | none => rw [h1] at h; cases h
  | some r => exact tk_gt h0 _ _ r (fun _ => Int.le_refl _) (fun hb => by simp only at hb; omega) h1
theorem qsT_cnt {s : List UInt8} : ∀ (k : Nat) (a : Int) (acc : List Rc) (r : List Rc × Int), 0 ≤ a → a ≤ s.length → qsT s k a acc = some r → a + 5 * k ≤ s.length
  | 0, a, acc, r, _, h, _ => by omega
  | k + 1, a, acc, r, h0, h, e => by
    unfold qsT at e
    split at e
    · rename_i hk
      have hk' := hk
      unfold okQ at hk'
      rw [Bool.and_eq_true, Bool.and_eq_true] at hk'
      have h1 := nxA_gt hk'.1 h0
      have h2 := of_decide_eq_true hk'.2.2
      have := qsT_cnt k _ _ r (by omega) (by omega) e
      omega
    · cases e
theorem oQ_some {s : List UInt8} (hs : 12 ≤ s.length) (h : (oQ s).isSome = true) : goodL (qL s) = true ∧ (qL s).length < 2000 ∨ 10000 ≤ s.length := by
  by_cases hb : 10000 ≤ s.length
  · exact .inr hb
  · left
    cases ho : oQ s with
    | none => rw [ho] at h; cases h
    | some r =>
      have hq : qsT s (cN s 4).toNat 12 [] = some r := by rw [← ho]; unfold oQ qsO; rfl
      have h1 := qsT_cnt _ _ _ r (by decide) (by omega) hq
      obtain ⟨h2, h3⟩ := qsT_good _ _ _ r (fun x hx => by cases hx) hq
      have hl : qL s = r.1 := by unfold qL oL; rw [ho]
      rw [hl]
      have h3 : r.1.length = 0 + (cN s 4).toNat := h3
      refine ⟨?_, by omega⟩
      unfold goodL
      rw [Bool.and_eq_true]
      exact ⟨decide_eq_true (by omega), List.all_eq_true.2 fun x hx => good_mayQr (h2 x hx)⟩
/-! ### The ways, one by one -/
theorem opH_b (s : List UInt8) : 0 ≤ opH s ∧ opH s < 16 := by
  unfold opH
  have e : nat2S Nat.land (Int.ofNat (Int.toNat (fl s) / 2 ^ min (Int.toNat 11) (bitsOf .u16))) 15 = (((Int.toNat (fl s) / 2 ^ min (Int.toNat 11) (bitsOf .u16)) &&& 15 : Nat) : Int) := rfl
  have h2 : (Int.toNat (fl s) / 2 ^ min (Int.toNat 11) (bitsOf .u16)) &&& 15 ≤ 15 := Nat.and_le_right
  rw [e, wrap64 (by omega) (by omega)]
  omega
theorem okH_rh (s : List UInt8) {k : Int} (h0 : 0 ≤ k) (h1 : k < 16) : okH (rh (hdS s) k false) = true := by
  have := u16_lt s 0
  have h2 := opH_b s
  refine decide_eq_true ⟨?_, ?_, h2.1, h2.2, h0, h1⟩
  · show 0 ≤ ((u16 s 0 : Nat) : Int); omega
  · show ((u16 s 0 : Nat) : Int) < 65536; omega
theorem wayB_app : ∀ (p q : List WB), wayB (p ++ q) = wayB p ++ wayB q
  | [], q => rfl
  | b :: p, q => by
    cases b
    · show true :: wayB (p ++ q) = true :: (wayB p ++ wayB q); rw [wayB_app p q]
    · show false :: wayB (p ++ q) = false :: (wayB p ++ wayB q); rw [wayB_app p q]
    · exact wayB_app p q
theorem wayB_shp (b1 b2 b3 b4 : Bool) : wayB (shp b1 b2 b3 b4) = [b1, b2, b3, b4] := by cases b1 <;> cases b2 <;> cases b3 <;> cases b4 <;> rfl
theorem wayB_bw (b : Bool) (l : List WB) : wayB (bw b :: l) = b :: wayB l := by cases b <;> rfl
theorem rkL_true (b : Bool) (k : Nat) : rkL b k = true := by cases b <;> simp [rkL]
theorem rkM_true (b1 b2 b3 b4 : Bool) (s : List UInt8) : rkM b1 b2 b3 b4 s = true := by
  unfold rkM
  simp only [rkL_true, decide_true, Bool.true_and, beq_self_eq_true]
theorem frm_true (c : Int) : frm c = true := by
  unfold frm
  have : decide (hst c = hst c) = true := decide_eq_true rfl
  rw [this]; rfl
theorem hst_ne {c : Int} (h0 : 0 ≤ c) (h1 : c < 256) : decide (hst c = 1000) = false := by
  unfold hst
  rw [wrap32 h0 (by omega), wrap32 (by omega) (by omega)]
  exact decide_eq_false (by omega)
structure Rq (s : List UInt8) (c : Int) : Prop where
  l0 : 12 ≤ s.length
  l1 : s.length ≤ 600
  c0 : 0 ≤ c
  c1 : c < 256
  qr : (hdS s).qr = false
  ok : okM s = true
theorem rspC_way {s : List UInt8} {k : Int} {l : List Rc} (h0 : 0 ≤ k) (h1 : k < 16) (hg : goodL l = true) (hl : l.length < 2000) :
    rspC (rspB (hdS s) k l) = [true, true, nE (oL (oQ (rspB (hdS s) k l))), false, false, false] ∧ (hdS (rspB (hdS s) k l)).rc = k := by
  have r := rsp_ok (okH_rh s h0 h1) hg hl
  unfold rspC
  rw [r.ok, r.an, r.ns, r.ar, decide_eq_true r.len]
  exact ⟨rfl, r.rc⟩
theorem hd9_way {s : List UInt8} {c : Int} (r : Rq s c) : hd9 s = [true, false, false, true, true, nE (qL s), nE (oA s).2.1, nE (oS s).2.1, nE (oR s).2.1] := by
  have h0 := r.l0
  have h1 := r.l1
  unfold hd9
  rw [show short s = true from decide_eq_true (by omega), decide_eq_false (show ¬ s.length < 12 by omega), r.qr, decide_eq_true (show s.length < 40000 by omega), r.ok]
theorem cErr_way {s : List UInt8} {c : Int} (r : Rq s c) {b1 b2 b3 b4 : Bool} {W : List Bool} {wb : List WB} {k : Int} {l : List Rc} (h1 : nE (qL s) = b1) (h2 : nE (oA s).2.1 = b2) (h3 : nE (oS s).2.1 = b3) (h4 : nE (oR s).2.1 = b4)
    (hW : W = wayB wb) (k0 : 0 ≤ k) (k1 : k < 16) (hg : goodL l = true) (hl : l.length < 2000) (hb : b1 = nE l) :
    cErr b1 b2 b3 b4 s c W k l = wayB (pE b1 b2 b3 b4 wb (nE (oL (oQ (rspB (hdS s) k l))))) := by
  obtain ⟨e1, e2⟩ := rspC_way (s := s) k0 k1 hg hl
  have e3 : okc b1 (hdS s) k l = true := by
    unfold okc
    rw [okH_rh s k0 k1, hg, decide_eq_true (show l.length = l.length ∧ l.length < 2000 from ⟨rfl, hl⟩), hb]
    simp
  have l1 := r.l1
  unfold cErr pE
  rw [hd9_way r, e1, e2, e3, rkM_true, frm_true, hst_ne r.c0 r.c1, decide_eq_false (show ¬ 600 < Int.ofNat s.length by simp only [Int.ofNat_eq_natCast]; omega), h1, h2, h3, h4, decide_eq_true (rfl : k = k)]
  simp only [wayB_app, wayB_shp, ← hW]
  generalize nE (oL (oQ (rspB (hdS s) k l))) = b
  cases b <;> rfl
theorem T5_F {s : List UInt8} {c : Int} (m : Nat) (l0 : 12 ≤ s.length) (l1 : s.length ≤ 600) (c0 : 0 ≤ c) (c1 : c < 256) (hq : (hdS s).qr = false) (ho : okM s = false) : (T5 s c m).val = some (.b false true) := by
  obtain ⟨e1, e2⟩ := rspC_way (s := s) (k := 1) (l := []) (by decide) (by decide) rfl (by decide)
  refine fol_val (w5_F (nE (oL (oQ (rspB (hdS s) 1 [])))) s c m) ?_
  have e3 : okc false (hdS s) 1 [] = true := by
    unfold okc
    rw [okH_rh s (by decide) (by decide)]; rfl
  rw [e1, e2, e3, frm_true, hst_ne c0 c1, decide_eq_false (show ¬ 600 < Int.ofNat s.length by simp only [Int.ofNat_eq_natCast]; omega), show short s = true from decide_eq_true (by omega), decide_eq_false (show ¬ s.length < 12 by omega), hq, decide_eq_true (show s.length < 40000 by omega), ho, decide_eq_false (erM_ne s)]
  generalize nE (oL (oQ (rspB (hdS s) 1 []))) = b
  cases b <;> rfl
end Go.Proofs.YtgemonlknehegaaGreatDoor.AI
namespace Go.Proofs.YtgemonlknehegaaGreatDoor.AI
open Go
set_option linter.unusedVariables false
set_option linter.unusedSimpArgs false
set_option maxRecDepth 100000
attribute [local irreducible] rcA rsT qsT oQ oA oS oR okM erM rspB T5
theorem okM_q {s : List UInt8} (h : okM s = true) : (oQ s).isSome = true := by
  unfold okM at h
  rw [Bool.and_eq_true, Bool.and_eq_true] at h
  exact h.2.1
theorem W7_way {s : List UInt8} {a b c d : Bool} (h0 : cOp s = false) (h1 : cQone s = false) (h2 : (!(hdS s).rd) = a) (hd : d0 s = [true, true]) (h3 : (!decide (qC1 s = 1)) = b) (h4 : decide (qT1 s = 0) = c) (h5 : decide (128 ≤ qT1 s) = d) : W7 s = [false, false, a, true, true, b, true, true, c, true, true, d] := by
  unfold W7
  rw [h0, h1, h2, hd, h3, h4, h5]; rfl
theorem T5_ok {s : List UInt8} {c : Int} (m : Nat) (r : Rq s c) : (T5 s c m).val = some (.b false true) := by
  have l1 := r.l1
  have hQ : goodL (qL s) = true ∧ (qL s).length < 2000 := by
    rcases oQ_some r.l0 (okM_q r.ok) with h | h
    · exact h
    · omega
  obtain ⟨hg, hl⟩ := hQ
  have go : ∀ {b1 b2 b3 b4 : Bool} {W : List Bool} {wb : List WB} {k : Int} {l : List Rc}, nE (qL s) = b1 → nE (oA s).2.1 = b2 → nE (oS s).2.1 = b3 → nE (oR s).2.1 = b4 → W = wayB wb → 0 ≤ k → k < 16 → goodL l = true → l.length < 2000 → b1 = nE l →
      DT.fol (pE b1 b2 b3 b4 wb (nE (oL (oQ (rspB (hdS s) k l))))) (T5 s c m) = some (cErr b1 b2 b3 b4 s c W k l, .b false true) → (T5 s c m).val = some (.b false true) := fun h1 h2 h3 h4 hW k0 k1 g gl hb h => fol_val h (cErr_way r h1 h2 h3 h4 hW k0 k1 g gl hb)
  cases hop : cOp s with
  | true =>
    cases h1 : nE (qL s) with
    | true => exact go h1 rfl rfl rfl (by rw [hop]; rfl) (by decide) (by decide) hg hl h1.symm (w5_op1 _ _ _ _ s c m)
    | false => exact go h1 rfl rfl rfl (by rw [hop]; rfl) (by decide) (by decide) rfl (by decide) rfl (w5_op0 _ _ _ _ s c m)
  | false =>
    cases h1 : nE (qL s) with
    | false => exact go h1 rfl rfl rfl (by rw [hop]; rfl) (by decide) (by decide) rfl (by decide) rfl (w5_q0 _ _ _ _ s c m)
    | true =>
      cases hqn : cQone s with
      | true => exact go h1 rfl rfl rfl (by rw [hop, hqn]; rfl) (by decide) (by decide) hg hl h1.symm (w5_q _ _ _ _ s c m)
      | false =>
        have hlen : (qL s).length = 1 := by
          unfold cQone at hqn
          have h2 : decide (Int.ofNat (qL s).length = 1) = true := by
            cases hx : decide (Int.ofNat (qL s).length = 1) with
            | true => rfl
            | false => rw [hx] at hqn; cases hqn
          have := of_decide_eq_true h2
          simp only [Int.ofNat_eq_natCast] at this; omega
        have hd : d0 s = [true, true] := by
          unfold d0
          rw [decide_eq_true (show 0 < (qL s).length by omega)]
        cases h2 : nE (oA s).2.1 with
        | true =>
          have hpos : decide (0 < Int.ofNat (oA s).2.1.length) = true := by
            cases hl2 : (oA s).2.1 with
            | nil => rw [hl2] at h2; cases h2
            | cons x l => exact decide_eq_true (by simp only [Int.ofNat_eq_natCast, List.length_cons]; omega)
          exact go h1 h2 rfl rfl (by rw [hop, hqn, hpos]; rfl) (by decide) (by decide) hg hl h1.symm (w5_an _ _ _ s c m)
        | false =>
          cases hrd : (!(hdS s).rd) with
          | true => exact go h1 h2 rfl rfl (by rw [hop, hqn, hrd]; rfl) (by decide) (by decide) hg hl h1.symm (w5_rd _ _ _ s c m)
          | false =>
            cases hcl : (!decide (qC1 s = 1)) with
            | true => exact go h1 h2 rfl rfl (by rw [hop, hqn, hrd, hd, hcl]; rfl) (by decide) (by decide) hg hl h1.symm (w5_cl _ _ _ s c m)
            | false =>
              cases ht0 : decide (qT1 s = 0) with
              | true => exact go h1 h2 rfl rfl (by rw [hop, hqn, hrd, hd, hcl, ht0]; rfl) (by decide) (by decide) hg hl h1.symm (w5_t0 _ _ _ s c m)
              | false =>
                cases ht8 : decide (128 ≤ qT1 s) with
                | true => exact go h1 h2 rfl rfl (by rw [W7_way hop hqn hrd hd hcl ht0 ht8]; rfl) (by decide) (by decide) hg hl h1.symm (w5_t8 _ _ _ s c m)
                | false =>
                  refine fol_val (w5_ok (nE (oS s).2.1) (nE (oR s).2.1) s c m) ?_
                  rw [hd9_way r, rkM_true, hst_ne r.c0 r.c1, decide_eq_false (show ¬ 600 < Int.ofNat s.length by simp only [Int.ofNat_eq_natCast]; omega), h1, h2, W7_way hop hqn hrd hd hcl ht0 ht8, hd]
                  simp only [wayB_app, wayB_shp]
                  rfl
theorem T5_val (s : List UInt8) (c : Int) (m : Nat) (c0 : 0 ≤ c) (c1 : c < 256) : (T5 s c m).val = some (.b false true) := by
  by_cases h6 : 600 < s.length
  · exact fol_val (w5_0 s c m) (by rw [decide_eq_true (show 600 < Int.ofNat s.length by simp only [Int.ofNat_eq_natCast]; omega)]; rfl)
  · have d6 : decide (600 < Int.ofNat s.length) = false := decide_eq_false (by simp only [Int.ofNat_eq_natCast]; omega)
    have hs : short s = true := decide_eq_true (by omega)
    by_cases h12 : s.length < 12
    · exact fol_val (w5_12 s c m) (by rw [d6, hs, decide_eq_true h12]; rfl)
    · cases hq : (hdS s).qr with
      | true => exact fol_val (w5_qr s c m) (by rw [d6, hs, decide_eq_false h12, hq]; rfl)
      | false =>
        cases ho : okM s with
        | false => exact T5_F m (by omega) (by omega) c0 c1 hq ho
        | true => exact T5_ok m ⟨by omega, by omega, c0, c1, hq, ho⟩
end Go.Proofs.YtgemonlknehegaaGreatDoor.AI
namespace Go.Proofs.YtgemonlknehegaaGreatDoor.AI
open Go
set_option linter.unusedVariables false
set_option linter.unusedSimpArgs false
set_option maxRecDepth 100000
noncomputable section
def k9 (args : List AV) (h : H) : List VR := match args with | [] => [⟨.bool true, h⟩] | _ => []
def R9 (n : Nat) : Rec := withFn 9 k9 (run Tryz.prog mg0 n)
theorem R9_ok (n : Nat) : SoundRec Tryz.prog (R9 n) := by
  have hb : ∃ c, Tryz.f9.body = some c := ⟨_, bodyC_ok (show hasBody Tryz.f9 = true by kernel_rfl)⟩
  obtain ⟨c, hb⟩ := hb
  refine withFn_ok (run_sound extOk mixed mg0 n) ⟨_, c, Tryz.func9, hb⟩ fun args h hne N σ w vs hh hd => ?_
  cases args with
  | cons a l => exact absurd rfl hne
  | nil =>
    obtain rfl : vs = [] := by simpa [denL, eq_comm] using hd
    refine (lives_calls w).mono fun e w' ⟨he, hk, hs, ho, ht, hp⟩ => ?_
    subst he
    refine ⟨⟨.bool true, h⟩, List.mem_singleton.2 rfl, σ, rfl, ⟨⟨fun b o hb => ?_, hh.inj, hh.fresh, hh.low, Nat.le_trans hh.bound hs⟩, Sig.le_refl _, fun b o l hb hl => .inl ⟨b, o, l, hb, hl, rfl⟩, fun k hk' _ => hk k hk', hs, ho, ht, hp, fun _ _ => rfl, Nat.le_refl _⟩⟩
    obtain ⟨l, ob, h1, h2, h3⟩ := hh.rep b o hb
    exact ⟨l, ob, h1, by rw [hk _ (Array.getElem?_eq_some_iff.1 h2).1]; exact h2, h3⟩
theorem rec5_rel (n : Nat) : RecRel (rec5 n) (R9 n) := fun g args sh v sh' hv κ h vs st ha => by
  unfold rec5 at hv
  split at hv
  · rename_i hg
    have hg := beq_iff.1 hg
    subst hg
    split at hv
    · have hl := leaf_some hv
      cases hl
      obtain rfl : vs = [] := by simpa [sdenL, eq_comm] using ha
      rw [taskOf_call (by kernel_rfl)]
      exact Good.same st rfl
    · cases hv
  · rename_i hg
    have hgood := se_ok cP5_ok n g args sh v sh' hv κ h vs st ha
    have he : R9 n (taskOf g vs) h = run Tryz.prog mg0 n (taskOf g vs) h := by
      unfold taskOf
      split
      · split
        · rfl
        · show pick (Nat.beq g 9) _ _ = _
          rw [hg]; rfl
      · show pick (Nat.beq g 9) _ _ = _
        rw [hg]; rfl
    rw [he]
    exact hgood
theorem noLoop5 (m id : Nat) : cP5.lp m 5 id = none := rfl
theorem good5 (s : List UInt8) (c : Int) (c0 : 0 ≤ c) (c1 : c < 256) : ∃ sh', Good (fun _ => none) .empty ⟨.leaf, .h⟩ (.b false true) sh' ((compileFn Tryz.prog 5).run (R9 60) [.str s, .int .u8 c] ⟨.leaf, .h⟩) := by
  have h1 := T5_val s c 0 c0 c1
  unfold T5 at h1
  obtain ⟨r, h2, h3⟩ := map_some h1
  obtain ⟨v, sh'⟩ := r
  have h3 : v = .b false true := h3
  subst h3
  exact ⟨sh', seFn_ok (rec5_rel 60) (fun fn c hf hb id f3 c' h => by rw [noLoop5] at h; cases h) h2
    ⟨fun x o ho => (by cases ho), fun x y p hx => (by cases hx), fun _ _ => rfl, fun x p hx => (by cases hx), fun x o ho => (by cases ho)⟩ rfl⟩
/-- WHATEVER BYTES COME, WHATEVER THERE IS IN MEMORY: TopRefuses is true, and what was there stays. -/
theorem refuses_calls (a : ByteArray) (c : Int) (c0 : 0 ≤ c) (c1 : c < 256) (w : World) : CallsIn Fence.wide 0 Tryz.prog 5 #[.string a, .int .u8 c] w fun e w' => e = .returned (.bool true) ∧ (∀ k, k < w.heap.size → w'.heap[k]? = w.heap[k]?) ∧ w.heap.size ≤ w'.heap.size ∧ w'.os = w.os ∧ w'.tape = w.tape ∧ w'.output = w.output := by
  obtain ⟨sh', hne, hgood⟩ := good5 a.data.toList c c0 c1
  have hh : Holds Tryz.prog w.heap.size (fun _ => none) ⟨.leaf, .h⟩ w := ⟨fun b o hb => (by cases hb), fun b b' o o' l l' hb => (by cases hb), fun b _ => rfl, fun b o l hb => (by cases hb), Nat.le_refl _⟩
  refine ((fn_ok extOk mixed (R9_ok 60) hne).2 w.heap.size _ w [.string a, .int .u8 c] hh (by simp [denL, den])).mono fun e w' hret => ?_
  cases e with
  | panicked _ => exact hret.elim
  | outgrown => exact hret.elim
  | returned v =>
    obtain ⟨r, hm, σ', d, E⟩ := hret
    obtain ⟨κ', hv, _, _⟩ := hgood r hm
    have hv : r.v = .bool true := (Option.some.inj hv).symm
    rw [hv] at d
    exact ⟨by simpa [den, eq_comm] using d, fun k hk => E.kept k hk (fun b o l hb => by cases hb), E.size, E.os, E.tape, E.output⟩
end
end Go.Proofs.YtgemonlknehegaaGreatDoor.AI
