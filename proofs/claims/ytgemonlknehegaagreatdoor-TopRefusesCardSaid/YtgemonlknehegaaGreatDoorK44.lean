/- The chain of TopRefuses, part 44. -/
import Derived.Test.YtgemonlknehegaaGreatDoorK43
namespace Go.Proofs.YtgemonlknehegaaGreatDoor.AI
open Go WB
set_option linter.unusedVariables false
set_option linter.unusedSimpArgs false
set_option maxRecDepth 100000
noncomputable def hB (h : HD) (L : List Rc) : List UInt8 := p16 (Int.toNat h.id) ++ p16 (Int.toNat (flV h)) ++ p16 (Int.toNat (IntKind.wrap .u16 (Int.ofNat L.length))) ++ p16 (Int.toNat (Int.ofNat 0)) ++ p16 (Int.toNat (Int.ofNat 0)) ++ p16 (Int.toNat (Int.ofNat 0))
noncomputable def putB (h : HD) (L : List Rc) : List UInt8 := (L.foldl qPut ⟨hB h L, []⟩).B
def rkB (z : Bool) (h : HD) (k : Nat) : Bool := decide (h.id = h.id) && (h.qr == h.qr && (h.aa == h.aa && (h.tc == h.tc && (h.rd == h.rd && (h.ra == h.ra && (decide (h.op = h.op) && (decide (h.rc = h.rc) && ((match z with | true => true | false => decide (0 = 0) && decide (k = k)) && (true && (true && (true && true)))))))))))
theorem rkB_true (z : Bool) (h : HD) (k : Nat) : rkB z h k = true := by
  obtain ⟨id, b1, b2, b3, b4, b5, op, rc⟩ := h
  unfold rkB
  simp only [decide_true, Bool.true_and, beq_self_eq_true]
  cases z <;> rfl
theorem w41t (c : Bool) (h : HD) (L : List Rc) (m : Nat) : DT.fol [y, y, y, y, a, a, a, y, a, a, a, a, a, a, a, a, a, a, a, a, a, a, a, a, a, a, a, y, bw c, y] (seC Tryz.prog cPu (m + 28) 41 [mQ false h L.length] (st137 L)) = some ([inB .u16 h.id, rkB false h L.length, okH h, inB .u16 (flV h), inB .u16 (IntKind.wrap .u16 (Int.ofNat L.length)), okPt L (hB h L) [] L.length (hB h L).length (Int.ofNat L.length) 0 && decide (L.length = L.length), decide (0 < L.length), decide (0 + (putB h L).length ≤ (putB h L).length)], some (.s true (List.take (putB h L).length (List.drop 0 (putB h L))), st137 L)) := by cases c <;> kernel_rfl
theorem w41z (h : HD) (m : Nat) : DT.fol [y, y, y, y, a, a, a, a, a, a, a, a, a, a, a, a, a, a, a, a, a, a, a, a, a, a, a, y, a] (seC Tryz.prog cPu (m + 28) 41 [mQ true h 0] .empty) = some ([inB .u16 h.id, rkB true h 0, okH h, inB .u16 (flV h), okPt [] (hB h []) [] 0 (hB h []).length 0 0], some (.s true (List.take (putB h []).length (List.drop 0 (putB h []))), .empty)) := by kernel_rfl
theorem okPt_of {h : HD} {L : List Rc} (hg : goodL L = true) (hl : L.length < 2000) : okPt L (hB h L) [] L.length (hB h L).length (Int.ofNat L.length) 0 = true := by
  unfold okPt
  refine @decide_eq_true _ (Classical.propDecidable _) ⟨⟨hg, Nat.zero_le _, ?_, fun m v hm => (by cases hm), nofun⟩, rfl, rfl, rfl, rfl⟩
  show (hB h L).length + 300 * (L.length - 0) < 900000
  have : (hB h L).length = 12 := rfl
  omega
noncomputable def sp41 : Spec
  | [.agg [.i _ .u16 x0, .b _ x1, .b _ x2, .b _ x3, .b _ x4, .b _ x5, .i _ .i64 x6, .i _ .i64 x7, .nil .s, .nil .s, .nil .s, .nil .s]], ⟨[], 0⟩ => .need (okH ⟨x0, x1, x2, x3, x4, x5, x6, x7⟩) (.leaf (.s true (putB ⟨x0, x1, x2, x3, x4, x5, x6, x7⟩ []), .empty))
  | [.agg [.i _ .u16 x0, .b _ x1, .b _ x2, .b _ x3, .b _ x4, .b _ x5, .i _ .i64 x6, .i _ .i64 x7, .tsl 0 3 0 k, .nil .s, .nil .s, .nil .s]], ⟨[(0, .lrow 25 [.str, .int .u16, .int .u16] L)], 1⟩ => .need (okH ⟨x0, x1, x2, x3, x4, x5, x6, x7⟩ && (goodL L && decide (k = L.length ∧ L.length < 2000))) (.leaf (.s true (putB ⟨x0, x1, x2, x3, x4, x5, x6, x7⟩ L), st137 L))
  | _, _ => .fail
theorem put_take (l : List UInt8) : List.take l.length (List.drop 0 l) = l := by rw [List.drop_zero, List.take_length]
theorem go41t (h : HD) (L : List Rc) (m : Nat) (hk : okH h = true) (hg : goodL L = true) (hl : L.length < 2000) : (seC Tryz.prog cPu (m + 28) 41 [mQ false h L.length] (st137 L)).val = some (some (.s true (putB h L), st137 L)) := by
  obtain ⟨h8, h9, _, _, _, _⟩ := of_decide_eq_true hk
  obtain ⟨x, hx, hx1, _, _⟩ := flV_nat hk
  have hw : IntKind.wrap .u16 (Int.ofNat L.length) = ((L.length : Nat) : Int) := by rw [wrap16 (by simp only [Int.ofNat_eq_natCast]; omega) (by simp only [Int.ofNat_eq_natCast]; omega)]; rfl
  have := fol_val (w41t (decide (0 < L.length)) h L m) (by
    rw [rkB_true, hk, inB16 h8 h9, show inB .u16 (flV h) = true from inB16 (by rw [hx]; omega) (by rw [hx]; omega), show inB .u16 (IntKind.wrap .u16 (Int.ofNat L.length)) = true from inB16 (by rw [hw]; omega) (by rw [hw]; omega), okPt_of hg hl, show decide (L.length = L.length) = true from decide_eq_true rfl, show decide (0 + (putB h L).length ≤ (putB h L).length) = true from decide_eq_true (by omega)]
    cases decide (0 < L.length) <;> rfl)
  rw [put_take] at this
  exact this
theorem go41z (h : HD) (m : Nat) (hk : okH h = true) : (seC Tryz.prog cPu (m + 28) 41 [mQ true h 0] .empty).val = some (some (.s true (putB h []), .empty)) := by
  obtain ⟨h8, h9, _, _, _, _⟩ := of_decide_eq_true hk
  obtain ⟨x, hx, hx1, _, _⟩ := flV_nat hk
  have h0 : okPt [] (hB h []) [] 0 (hB h []).length 0 0 = true := okPt_of (L := []) rfl (by decide)
  have := fol_val (w41z h m) (by
    rw [rkB_true, hk, inB16 h8 h9, show inB .u16 (flV h) = true from inB16 (by rw [hx]; omega) (by rw [hx]; omega), h0]
    rfl)
  rw [put_take] at this
  exact this
set_option maxHeartbeats 1000000 in
theorem sp41_ok : SpecOk Tryz.prog 41 29 sp41 := spec_ok cPu_ok fun m args sh r hr => by
  unfold sp41 at hr
  split at hr
  · rename_i g0 x0 g1 x1 g2 x2 g3 x3 g4 x4 g5 x5 g6 x6 g7 x7
    obtain ⟨h1, hr⟩ := need_some hr
    rw [seC_open]
    exact ⟨_, go41z ⟨x0, x1, x2, x3, x4, x5, x6, x7⟩ m h1, by rw [← leaf_some hr]; exact ⟨rfl, rfl⟩⟩
  · rename_i g0 x0 g1 x1 g2 x2 g3 x3 g4 x4 g5 x5 g6 x6 g7 x7 k L
    obtain ⟨h1, hr2⟩ := need_some hr
    rw [Bool.and_eq_true, Bool.and_eq_true] at h1
    obtain ⟨h1, h2, h3⟩ := h1
    obtain ⟨h4, h5⟩ := of_decide_eq_true h3
    subst h4
    rw [seC_open]
    exact ⟨_, go41t ⟨x0, x1, x2, x3, x4, x5, x6, x7⟩ L m h1 h2 h5, by rw [← leaf_some hr2]; exact ⟨rfl, rfl⟩⟩
  · cases hr
noncomputable def cPv : Cfg := cPu.addS 41 29 (lift sp41)
theorem cPv_ok : CfgOk Tryz.prog cPv := cPu_ok.addS (lift_ok sp41_ok)
end Go.Proofs.YtgemonlknehegaaGreatDoor.AI
namespace Go.Proofs.YtgemonlknehegaaGreatDoor.AI
open Go WB
set_option linter.unusedVariables false
set_option linter.unusedSimpArgs false
set_option maxRecDepth 100000
def mL2 (q a n r : Bool) (nq na nn nr : Nat) : List SV := [lcell q 0 3 nq, lcell a (tn1 q) 5 na, lcell n (tn1 q + tn1 a) 5 nn, lcell r (tn1 q + tn1 a + tn1 n) 5 nr]
/-- the answer's header; tc: it was cut -/
def rh (h : HD) (rc : Int) (tc : Bool) : HD := ⟨h.id, true, false, tc, h.rd, true, h.op, rc⟩
def tq (l : List Rc) : List Rc := List.take l.length (List.drop 0 l)
noncomputable def T125 (q a n r : Bool) (h : HD) (rc : Int) (na nn nr : Nat) (lq la ln lr : List Rc) (m : Nat) : DT (Option (SV × SH)) := seC Tryz.prog cPv (m + 40) 125 [.agg (hdV h ++ mL2 q a n r lq.length na nn nr), .i true .i64 rc, .nil .s] (mHeap q a n r lq la ln lr)
def cI (h : HD) (rc : Int) : List Bool := [decide (rc < 0), decide (15 < rc), decide (h.op < 0), decide (15 < h.op)]
def cM1 (h : HD) (rc : Int) : List Bool := [decide (0 ≤ h.op), decide (h.op ≤ 15), decide (0 ≤ rc), decide (rc ≤ 15)]
noncomputable def cQ1 (h : HD) (rc : Int) (l : List Rc) : List Bool := cM1 h rc ++ [decide (Int.ofNat l.length ≤ 65535), goodL l && decide (l.length = l.length), okH (rh h rc false) && (goodL l && decide (l.length = l.length ∧ l.length < 2000))]
theorem w125A (b1 b2 b3 : Bool) (h : HD) (rc : Int) (na nn nr : Nat) (lq la ln lr : List Rc) (m : Nat) : DT.fol [n, n, n, n, y, y, n, y, y, y, y, y, y, y, y, y, y, y, y, y, y, y, y, n] (T125 true b1 b2 b3 h rc na nn nr lq la ln lr m) = some (cI h rc ++ [decide (0 + lq.length ≤ lq.length), decide ((tq lq).length < 1048576), decide (tq lq = []), goodL (tq lq) && decide ((tq lq).length = (tq lq).length)] ++ cQ1 h rc (tq lq) ++ [decide (Int.ofNat (putB (rh h rc false) (tq lq)).length ≤ 512)] ++ cQ1 h rc (tq lq) ++ [decide (65535 < Int.ofNat (putB (rh h rc false) (tq lq)).length)], some (.s true (putB (rh h rc false) (tq lq)), mHeap true b1 b2 b3 lq la ln lr)) := by cases b1 <;> cases b2 <;> cases b3 <;> kernel_rfl
theorem w125B (b1 b2 b3 : Bool) (h : HD) (rc : Int) (na nn nr : Nat) (lq la ln lr : List Rc) (m : Nat) : DT.fol [n, n, n, n, y, y, n, y, y, y, y, y, y, y, y, n, y, y, y, y, y, n] (T125 true b1 b2 b3 h rc na nn nr lq la ln lr m) = some (cI h rc ++ [decide (0 + lq.length ≤ lq.length), decide ((tq lq).length < 1048576), decide (tq lq = []), goodL (tq lq) && decide ((tq lq).length = (tq lq).length)] ++ cQ1 h rc (tq lq) ++ [decide (Int.ofNat (putB (rh h rc false) (tq lq)).length ≤ 512)] ++ cM1 h rc ++ [okH (rh h rc true), decide (65535 < Int.ofNat (putB (rh h rc true) []).length)], some (.s true (putB (rh h rc true) []), mHeap true b1 b2 b3 lq la ln lr)) := by cases b1 <;> cases b2 <;> cases b3 <;> kernel_rfl
theorem w125Z (b1 b2 b3 : Bool) (h : HD) (rc : Int) (na nn nr : Nat) (la ln lr : List Rc) (m : Nat) : DT.fol [n, n, n, n, y, y, y, y, y, y, y, y, y, y, y, n] (T125 false b1 b2 b3 h rc na nn nr [] la ln lr m) = some (cI h rc ++ cM1 h rc ++ [okH (rh h rc false), decide (Int.ofNat (putB (rh h rc false) []).length ≤ 512)] ++ cM1 h rc ++ [okH (rh h rc false), decide (65535 < Int.ofNat (putB (rh h rc false) []).length)], some (.s true (putB (rh h rc false) []), mHeap false b1 b2 b3 [] la ln lr)) := by cases b1 <;> cases b2 <;> cases b3 <;> kernel_rfl
end Go.Proofs.YtgemonlknehegaaGreatDoor.AI
namespace Go.Proofs.YtgemonlknehegaaGreatDoor.AI
open Go
set_option linter.unusedVariables false
set_option linter.unusedSimpArgs false
set_option maxRecDepth 100000
theorem tq_eq (l : List Rc) : tq l = l := by unfold tq; rw [List.drop_zero, List.take_length]
theorem rh_ok {h : HD} {rc : Int} (b c : Bool) (hk : okH (rh h rc b) = true) : okH (rh h rc c) = true := hk
theorem cI_ok {h : HD} {rc : Int} (hk : okH (rh h rc false) = true) : cI h rc = [false, false, false, false] ∧ cM1 h rc = [true, true, true, true] := by
  obtain ⟨_, _, h1, h2, h3, h4⟩ := of_decide_eq_true hk
  have h1 : 0 ≤ h.op := h1
  have h2 : h.op < 16 := h2
  have h3 : 0 ≤ rc := h3
  have h4 : rc < 16 := h4
  unfold cI cM1
  rw [decide_eq_false (show ¬ rc < 0 by omega), decide_eq_false (show ¬ 15 < rc by omega), decide_eq_false (show ¬ h.op < 0 by omega), decide_eq_false (show ¬ 15 < h.op by omega), decide_eq_true h1, decide_eq_true (show h.op ≤ 15 by omega), decide_eq_true h3, decide_eq_true (show rc ≤ 15 by omega)]
  exact ⟨rfl, rfl⟩
theorem cQ1_ok {h : HD} {rc : Int} {l : List Rc} (hk : okH (rh h rc false) = true) (hg : goodL l = true) (hl : l.length < 2000) : cQ1 h rc l = [true, true, true, true, true, true, true] := by
  unfold cQ1
  rw [(cI_ok hk).2, hk, hg, decide_eq_true (show Int.ofNat l.length ≤ 65535 by simp only [Int.ofNat_eq_natCast]; omega), show decide (l.length = l.length) = true from decide_eq_true rfl, show decide (l.length = l.length ∧ l.length < 2000) = true from decide_eq_true ⟨rfl, hl⟩]
  rfl
/-- an answer's bytes -/
noncomputable def rspB (h : HD) (rc : Int) (l : List Rc) : List UInt8 := match decide ((putB (rh h rc false) l).length ≤ 512) with | true => putB (rh h rc false) l | false => putB (rh h rc true) []
theorem putB_nil (h : HD) : (putB h []).length = 12 := rfl
theorem go125 (q a n r : Bool) (h : HD) (rc : Int) (na nn nr : Nat) (lq la ln lr : List Rc) (m : Nat) (hk : okH (rh h rc false) = true) (hg : goodL lq = true) (hl : lq.length < 2000) (hq : q = nE lq) :
    (T125 q a n r h rc na nn nr lq la ln lr m).val = some (some (.s true (rspB h rc lq), mHeap q a n r lq la ln lr)) := by
  obtain ⟨e1, e2⟩ := cI_ok hk
  have e3 := cQ1_ok hk hg hl
  unfold rspB
  cases lq with
  | nil =>
    subst hq
    rw [decide_eq_true (show (putB (rh h rc false) []).length ≤ 512 by rw [putB_nil]; decide)]
    refine fol_val (w125Z a n r h rc na nn nr la ln lr m) ?_
    rw [e1, e2, hk, putB_nil]
    rfl
  | cons x l =>
    subst hq
    have h0 : decide (tq (x :: l) = []) = false := decide_eq_false (by rw [tq_eq]; simp)
    have h1 : decide (0 + (x :: l).length ≤ (x :: l).length) = true := decide_eq_true (by omega)
    have h2 : decide ((x :: l).length < 1048576) = true := decide_eq_true (by omega)
    have h3 : decide ((x :: l).length = (x :: l).length) = true := decide_eq_true rfl
    cases hp : decide ((putB (rh h rc false) (x :: l)).length ≤ 512) with
    | true =>
      have hp' := of_decide_eq_true hp
      have := fol_val (w125A a n r h rc na nn nr (x :: l) la ln lr m) (by
        rw [h0, tq_eq, e1, h1, h2, hg, h3, e3, decide_eq_true (show Int.ofNat (putB (rh h rc false) (x :: l)).length ≤ 512 by simp only [Int.ofNat_eq_natCast]; omega), decide_eq_false (show ¬ 65535 < Int.ofNat (putB (rh h rc false) (x :: l)).length by simp only [Int.ofNat_eq_natCast]; omega)]
        rfl)
      rw [tq_eq] at this
      exact this
    | false =>
      have hp' := of_decide_eq_false hp
      exact fol_val (w125B a n r h rc na nn nr (x :: l) la ln lr m) (by
        rw [h0, tq_eq, e1, h1, h2, hg, h3, e3, e2, rh_ok false true hk, putB_nil, decide_eq_false (show ¬ Int.ofNat (putB (rh h rc false) (x :: l)).length ≤ 512 by simp only [Int.ofNat_eq_natCast]; omega)]
        rfl)
noncomputable def sp125 : Spec
  | [.agg [.i _ .u16 x0, .b _ x1, .b _ x2, .b _ x3, .b _ x4, .b _ x5, .i _ .i64 x6, .i _ .i64 x7, c8, c9, c10, c11], .i _ .i64 rc, .nil .s], ⟨o, nm⟩ =>
    (match popL c8 0 3 25 sQ o with
    | some ⟨q, nq, lq, r1⟩ => (match popL c9 (tn1 q) 5 56 sR r1 with
      | some ⟨a, na, la, r2⟩ => (match popL c10 (tn1 q + tn1 a) 5 56 sR r2 with
        | some ⟨n, nn, ln, r3⟩ => (match popL c11 (tn1 q + tn1 a + tn1 n) 5 56 sR r3 with
          | some ⟨r, nr, lr, []⟩ => (match Nat.beq nm (tn1 q + tn1 a + tn1 n + tn1 r) with
            | true => .need (okH (rh ⟨x0, x1, x2, x3, x4, x5, x6, x7⟩ rc false) && (goodL lq && (decide (nq = lq.length ∧ lq.length < 2000) && (q == nE lq)))) (.leaf (.s true (rspB ⟨x0, x1, x2, x3, x4, x5, x6, x7⟩ rc lq), mHeap q a n r lq la ln lr))
            | false => .fail)
          | _ => .fail)
        | none => .fail)
      | none => .fail)
    | none => .fail)
  | _, _ => .fail
set_option maxHeartbeats 1000000 in
theorem sp125_ok : SpecOk Tryz.prog 125 41 sp125 := spec_ok cPv_ok fun m args sh v hr => by
  unfold sp125 at hr
  split at hr
  · rename_i g0 x0 g1 x1 g2 x2 g3 x3 g4 x4 g5 x5 g6 x6 g7 x7 c8 c9 c10 c11 g8 rc o nm
    split at hr
    · rename_i q nq lq r1 p1
      split at hr
      · rename_i a na la r2 p2
        split at hr
        · rename_i n nn ln r3 p3
          split at hr
          · rename_i r nr lr p4
            split at hr
            · rename_i hnm
              obtain ⟨h1, hr2⟩ := need_some hr
              rw [Bool.and_eq_true, Bool.and_eq_true, Bool.and_eq_true] at h1
              obtain ⟨hk, hg, hl, hq⟩ := h1
              obtain ⟨hn, hl⟩ := of_decide_eq_true hl
              have hq : q = nE lq := by simpa using hq
              obtain ⟨e1, e2⟩ := popL_some p1
              obtain ⟨e3, e4⟩ := popL_some p2
              obtain ⟨e5, e6⟩ := popL_some p3
              obtain ⟨e7, e8⟩ := popL_some p4
              have hnm := beq_iff.1 hnm
              simp only at e1 e2 e3 e4 e5 e6 e7 e8
              rw [List.append_nil] at e8
              rw [e4, e6, e8] at e2
              clear p1 p2 p3 p4 e4 e6 e8
              have key := go125 q a n r ⟨x0, x1, x2, x3, x4, x5, x6, x7⟩ rc na nn nr lq la ln lr m hk hg hl hq
              refine ⟨_, ?_, by rw [← leaf_some hr2]; exact ⟨rfl, rfl⟩⟩
              rw [← key]
              subst hn
              rw [e1, e3, e5, e7, e2, hnm]
              unfold T125
              rw [seC_open, seC_open Tryz.prog cPv (m + 40) 125 [.agg _, _, _]]
              rfl
            · cases hr
          · cases hr
        · cases hr
      · cases hr
    · cases hr
  · cases hr
noncomputable def cPx : Cfg := cMs.addS 125 41 (lift sp125)
theorem cPx_ok : CfgOk Tryz.prog cPx := cMs_ok.addS (lift_ok sp125_ok)
end Go.Proofs.YtgemonlknehegaaGreatDoor.AI
