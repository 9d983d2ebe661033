/- The chain of TopRefuses, part 43. -/
import Derived.Test.YtgemonlknehegaaGreatDoorK42
namespace Go.Proofs.YtgemonlknehegaaGreatDoor.AI
open Go WB
set_option linter.unusedVariables false
set_option linter.unusedSimpArgs false
set_option maxRecDepth 100000
def ptS (j m : Nat) (h : HD) (L : List Rc) (B : List UInt8) (K : Kn) : SH := ⟨match Nat.beq j 3 with
  | true => [(0, .row 49 (hdV h ++ [.tsl 2 3 0 L.length, .nil .s, .nil .s, .nil .s]) none), (1, .row 266 [.tsl 3 1 0 B.length, .map 4] none), (2, .lrow 25 sQ L), (3, .bytes 5 B), (4, .smap K)]
  | false => [(0, .row 49 (hdV h ++ [.tsl 2 3 0 L.length, .nil .s, .nil .s, .nil .s]) none), (1, .row 266 [.tsl j 1 0 B.length, .map 4] none), (2, .lrow 25 sQ L), (4, .smap K), (j, .bytes 5 B)], m⟩
def ptZ (h : HD) (B : List UInt8) (K : Kn) : SH := ⟨[(0, .row 49 (hdV h ++ nil4) none), (1, .row 266 [.tsl 2 1 0 B.length, .map 3] none), (2, .bytes 5 B), (3, .smap K)], 4⟩
def ix41 : AExit → List Nat := fun _ => [1, 3]
def iv41 (z : Bool) (h : HD) (L : List Rc) (B : List UInt8) (K : Kn) (k i : Int) : List SV × SH := match z with
  | true => ([.ptr 0 0, .ptr 1 0, .nil .s, .i true .i64 k, .i true .i64 i], ptZ h B K)
  | false => ([.ptr 0 0, .ptr 1 0, .tsl 2 3 0 L.length, .i true .i64 k, .i true .i64 i], ptS 3 5 h L B K)
noncomputable def T41 (z : Bool) (h : HD) (L : List Rc) (B : List UInt8) (K : Kn) (k i : Int) (m : Nat) : DT Turn := seL Tryz.prog cQn (m + 20) 41 65 (blkL Tryz.f41 2) [1, 3, 43, 44, 45] ix41 (iv41 z h L B K k i)
def qTy (L : List Rc) (i : Int) : Int := Lf.toN (List.headD (List.tail (List.getD L (0 + Int.toNat i) [])) (Lf.n 0))
def qCl (L : List Rc) (i : Int) : Int := Lf.toN (List.headD (List.tail (List.tail (List.getD L (0 + Int.toNat i) []))) (Lf.n 0))
def tc4 (L : List Rc) (i : Int) : List UInt8 := p16 (Int.toNat (qTy L i)) ++ p16 (Int.toNat (qCl L i))
theorem w41_3 (h : HD) (L : List Rc) (B : List UInt8) (K : Kn) (k i : Int) (m : Nat) : DT.fol [y, y, y, y, y, n, y, y, y, y, y, y, y, y, n] (T41 false h L B K k i m) = some ([decide (i < k), nn i, decide (Int.toNat i < List.length L), decide (0 + Int.toNat i < List.length L), decide (List.length (nm137 L i) < 100000), !mayN (nm137 L i), mayN (nm137 L i) && okNl (nm137 L i) B K (List.length B), inB .u16 (qTy L i), decide (qCl L i = qCl L i), inB .u16 (qCl L i), decide (List.length (p16 (Int.toNat (qTy L i))) + List.length (p16 (Int.toNat (qCl L i))) < 9223372036854775808), decide (List.length (npF (nm137 L i) ⟨B, K⟩).B < 1048576), decide (List.length (tc4 L i) < 1048576), decide (0 = 0 ∧ List.length (npF (nm137 L i) ⟨B, K⟩).B = List.length (npF (nm137 L i) ⟨B, K⟩).B), decide (tc4 L i = [])], .next [.ptr 0 0, .ptr 1 0, .tsl 2 3 0 L.length, .i true .i64 k, .i true .i64 (IntKind.wrap .i64 (i + 1))] (ptS 3 5 h L ((npF (nm137 L i) ⟨B, K⟩).B ++ tc4 L i) (npF (nm137 L i) ⟨B, K⟩).K) (thOf (DT.fol [y, y, y, y, y, n, y, y, y, y, y, y, y, y, n] (T41 false h L B K k i m))) (h0Of (DT.fol [y, y, y, y, y, n, y, y, y, y, y, y, y, y, n] (T41 false h L B K k i m)))) := by kernel_rfl
theorem w41_4 (z : Bool) (h : HD) (L : List Rc) (B : List UInt8) (K : Kn) (k i : Int) (m : Nat) : DT.fol [n] (T41 z h L B K k i m) = some ([decide (i < k)], .ends (.exit 2) (.tuple [.ptr 0 0, .ptr 1 0]) (match z with | true => ptZ h B K | false => ptS 3 5 h L B K)) := by cases z <;> kernel_rfl
def R41 (j m : Nat) (h : HD) (L : List Rc) (p : PK) : LR := ⟨.normal, [1, 3], [.ptr 0 0, .ptr 1 0], ptS j m h L p.B p.K⟩
theorem comb41 (c : Bool) (h : HD) (L : List Rc) (B : List UInt8) (K : Kn) (k i : Int) (m : Nat) (p : PK) : comb 5 (thOf (DT.fol [y, y, y, y, y, n, y, y, y, y, y, y, y, y, n] (T41 false h L B K k i m))) (h0Of (DT.fol [y, y, y, y, y, n, y, y, y, y, y, y, y, y, n] (T41 false h L B K k i m))) (R41 (match c with | true => 5 | false => 3) (match c with | true => 6 | false => 5) h L p) = some (.tuple (R41 5 6 h L p).v, (R41 5 6 h L p).h) := by cases c <;> kernel_rfl
end Go.Proofs.YtgemonlknehegaaGreatDoor.AI
namespace Go.Proofs.YtgemonlknehegaaGreatDoor.AI
open Go
set_option linter.unusedVariables false
set_option linter.unusedSimpArgs false
set_option maxRecDepth 100000
theorem np_len {n : List UInt8} (p : PK) (hv : Vn n) : (npF n p).B.length ≤ p.B.length + n.length + 1 := by
  obtain ⟨h1, h2⟩ := np_nl hv n.length p (Nat.le_refl _)
  show (npT n.length n p).B.length ≤ _
  rw [h1]
  cases (nl n.length n p).1 with
  | true => simp only; omega
  | false => simp only; rw [List.length_append]; simp only [List.length_cons, List.length_nil]; omega
theorem ki_kv {p : PK} (h : KI p) : KV p.K := fun m v hm => by
  obtain ⟨q, rfl, _, h3, _⟩ := h m v hm
  omega
theorem okNl_of {n : List UInt8} {p : PK} (hg : GoodN n) (hk : KI p) (hl : p.B.length < 999000) : okNl n p.B p.K p.B.length = true := by
  unfold okNl
  have := hg.len
  exact @decide_eq_true _ (Classical.propDecidable _) ⟨⟨hg.vn, by simp only; omega, by simp only; omega, ki_kv hk⟩, rfl⟩
structure X41 where
  z : Bool
  h : HD
  L : List Rc
  B : List UInt8
  K : Kn
  i : Nat
structure X41.Ok (x : X41) : Prop where
  g : goodL x.L = true
  i : x.i ≤ x.L.length
  len : x.B.length + 300 * (x.L.length - x.i) < 900000
  ki : KI ⟨x.B, x.K⟩
  z : x.z = true → x.L = []
def inv41 (x : X41) : List SV × SH := iv41 x.z x.h x.L x.B x.K x.L.length x.i
def oT41 (x : X41) : PK := (x.L.drop x.i).foldl qPut ⟨x.B, x.K⟩
def Rz41 (z c : Bool) (h : HD) (L : List Rc) (p : PK) : LR := match z with
  | true => ⟨.normal, [1, 3], [.ptr 0 0, .ptr 1 0], ptZ h p.B p.K⟩
  | false => R41 (match c with | true => 5 | false => 3) (match c with | true => 6 | false => 5) h L p
noncomputable def res41 (x : X41) : Option LR := @ite _ x.Ok (Classical.propDecidable _) (some (Rz41 x.z (decide (x.i < x.L.length)) x.h x.L (oT41 x))) none
theorem res41_of {x : X41} (h : x.Ok) : res41 x = some (Rz41 x.z (decide (x.i < x.L.length)) x.h x.L (oT41 x)) := if_pos h
def mu41 (x : X41) : Nat := x.L.length - x.i
theorem turn41 (m : Nat) (x : X41) (R : LR) (hR : res41 x = some R) : ∃ t, (seL Tryz.prog cQn (m + 20) 41 Tryz.f41.ntmps (blkL Tryz.f41 2) [1, 3, 43, 44, 45] ix41 (inv41 x)).val = some t ∧ TurnOk 2 ix41 inv41 res41 mu41 x R t := by
  by_cases hx : x.Ok
  · rw [res41_of hx] at hR
    cases hR
    obtain ⟨z, h, L, B, K, i⟩ := x
    have hg := hx.g
    have hi := hx.i
    have hlen := hx.len
    have hki := hx.ki
    have hz := hx.z
    simp only at hg hi hlen hki hz
    have hg' := hg
    unfold goodL at hg'
    rw [Bool.and_eq_true] at hg'
    have hl := of_decide_eq_true hg'.1
    show ∃ t, (T41 z h L B K L.length i m).val = some t ∧ _
    by_cases hlt : i < L.length
    · have hzf : z = false := by cases z with | false => rfl | true => rw [hz rfl] at hlt; cases hlt
      subst hzf
      have c0 : decide ((i : Int) < (L.length : Int)) = true := decide_eq_true (by omega)
      have ti : Int.toNat (i : Int) = i := rfl
      have hgq := mayQr_good (List.all_eq_true.1 hg'.2 _ (List.getElem_mem hlt))
      obtain ⟨n, t, c, he, gn, t0, t1, c0', c1'⟩ := hgq.eq
      have hget : List.getD L (0 + Int.toNat (i : Int)) [] = [.s n, .n t, .n c] := by
        rw [ti, Nat.zero_add, List.getD_eq_getElem?_getD, List.getElem?_eq_getElem hlt]
        exact he
      have hn : nm137 L i = n := by unfold nm137; rw [hget]; rfl
      have ht : qTy L i = t := by unfold qTy; rw [hget]; rfl
      have hc : qCl L i = c := by unfold qCl; rw [hget]; rfl
      have htc : tc4 L i = p16 t.toNat ++ p16 c.toNat := by unfold tc4; rw [ht, hc]
      have hq : qPut ⟨B, K⟩ L[i] = ⟨(npF n ⟨B, K⟩).B ++ (p16 t.toNat ++ p16 c.toNat), (npF n ⟨B, K⟩).K⟩ := by rw [he]; rfl
      have hnl := np_len ⟨B, K⟩ gn.vn
      have hn5 := gn.len
      simp only at hnl
      have hB : ((npF n ⟨B, K⟩).B ++ (p16 t.toNat ++ p16 c.toNat)).length = (npF n ⟨B, K⟩).B.length + 4 := by rw [List.length_append]; rfl
      obtain ⟨_, hki', _⟩ := q_ok hgq hki
      rw [hq] at hki'
      have hx' : X41.Ok ⟨false, h, L, (npF n ⟨B, K⟩).B ++ (p16 t.toNat ++ p16 c.toNat), (npF n ⟨B, K⟩).K, i + 1⟩ := ⟨hg, hlt, by simp only; omega, hki', nofun⟩
      have ho : oT41 ⟨false, h, L, B, K, i⟩ = oT41 ⟨false, h, L, (npF n ⟨B, K⟩).B ++ (p16 t.toNat ++ p16 c.toNat), (npF n ⟨B, K⟩).K, i + 1⟩ := by
        unfold oT41
        simp only
        rw [List.drop_eq_getElem_cons hlt, List.foldl_cons, hq]
      refine ⟨_, fol_val (w41_3 h L B K L.length i m) ?_, ⟨false, h, L, (npF n ⟨B, K⟩).B ++ (p16 t.toNat ++ p16 c.toNat), (npF n ⟨B, K⟩).K, i + 1⟩, _, ?_, ?_, ?_, res41_of hx', rfl, rfl, ?_⟩
      · rw [hn, ht, hc, htc]
        rw [c0, nnN, ti, Nat.zero_add, decide_eq_true hlt, mayN_iff.2 gn, show decide (n.length < 100000) = true from decide_eq_true (by omega), okNl_of (p := ⟨B, K⟩) gn hki (by simp only; omega), inB16 t0 t1, inB16 c0' c1', show decide (c = c) = true from decide_eq_true rfl, show decide ((npF n ⟨B, K⟩).B.length < 1048576) = true from decide_eq_true (by omega), show decide (0 = 0 ∧ (npF n ⟨B, K⟩).B.length = (npF n ⟨B, K⟩).B.length) = true from decide_eq_true ⟨rfl, rfl⟩]
        rfl
      · show openL (iv41 false h L B K L.length (IntKind.wrap .i64 ((i : Int) + 1))).1 = openL (iv41 false h L B K L.length ((i + 1 : Nat) : Int)).1
        rw [wrap64 (by omega) (by omega)]; rfl
      · rw [hn, htc]; rfl
      · show L.length - (i + 1) < L.length - i; omega
      · rw [ho]
        simp only [hlt, decide_true]
        exact ⟨_, comb41 (decide (i + 1 < L.length)) h L B K L.length i m _, Opn.wk ⟨rfl, rfl⟩⟩
    · have c0 : decide ((i : Int) < (L.length : Int)) = false := decide_eq_false (by omega)
      have ho : oT41 ⟨z, h, L, B, K, i⟩ = ⟨B, K⟩ := by
        unfold oT41
        simp only
        rw [List.drop_of_length_le (by omega)]; rfl
      refine ⟨_, fol_val (w41_4 z h L B K L.length i m) (by rw [c0]; rfl), ?_⟩
      rw [ho]
      simp only [hlt, decide_false]
      cases z <;> exact ⟨.inl ⟨rfl, rfl⟩, rfl, Opn.wk ⟨rfl, rfl⟩⟩
  · unfold res41 at hR
    rw [if_neg hx] at hR; cases hR
noncomputable def okPt (L : List Rc) (B : List UInt8) (K : Kn) (a b : Nat) (k i : Int) : Bool := @decide (X41.Ok ⟨false, ⟨0, false, false, false, false, false, 0, 0⟩, L, B, K, 0⟩ ∧ a = L.length ∧ b = B.length ∧ k = (L.length : Int) ∧ i = 0) (Classical.propDecidable _)
noncomputable def core41 : LSpec
  | [.ptr 0 0, .ptr 1 0, .nil .s, .i _ .i64 (.ofNat 0), .i _ .i64 (.ofNat 0)], ⟨[(0, .row 49 [.i _ .u16 x0, .b _ x1, .b _ x2, .b _ x3, .b _ x4, .b _ x5, .i _ .i64 x6, .i _ .i64 x7, .nil .s, .nil .s, .nil .s, .nil .s] none), (1, .row 266 [.tsl 2 1 0 b, .map 3] none), (2, .bytes 5 B), (3, .smap K)], 4⟩ =>
    .need (okPt [] B K 0 b 0 0) (.leaf ⟨.normal, [1, 3], [.ptr 0 0, .ptr 1 0], ptZ ⟨x0, x1, x2, x3, x4, x5, x6, x7⟩ B K⟩)
  | [.ptr 0 0, .ptr 1 0, .tsl 2 3 0 a, .i _ .i64 k, .i _ .i64 i], ⟨[(0, .row 49 [.i _ .u16 x0, .b _ x1, .b _ x2, .b _ x3, .b _ x4, .b _ x5, .i _ .i64 x6, .i _ .i64 x7, .tsl 2 3 0 a', .nil .s, .nil .s, .nil .s] none), (1, .row 266 [.tsl 3 1 0 b, .map 4] none), (2, .lrow 25 [.str, .int .u16, .int .u16] L), (3, .bytes 5 B), (4, .smap K)], 5⟩ =>
    .need (okPt L B K a b k i && decide (a' = a)) (.node (decide (0 < L.length)) (.leaf (R41 5 6 ⟨x0, x1, x2, x3, x4, x5, x6, x7⟩ L (L.foldl qPut ⟨B, K⟩))) (.leaf (R41 3 5 ⟨x0, x1, x2, x3, x4, x5, x6, x7⟩ L (L.foldl qPut ⟨B, K⟩))))
  | _, _ => .fail
theorem core41_ok (vals : List SV) (sh : SH) (R : LR) (h : (core41 vals sh).val = some R) : ∃ x R1, openL (inv41 x).1 = openL vals ∧ (inv41 x).2.opened = sh.opened ∧ res41 x = some R1 ∧ R1.e = R.e ∧ R1.ix = R.ix ∧ Opn (.tuple R1.v, R1.h) (.tuple R.v, R.h) ∧ mu41 x < 100000 := by
  unfold core41 at h
  split at h
  · rename_i o1 o2 g0 x0 g1 x1 g2 x2 g3 x3 g4 x4 g5 x5 g6 x6 g7 x7 b B K
    obtain ⟨h1, h2⟩ := need_some h
    unfold okPt at h1
    obtain ⟨hx, _, hb, _, _⟩ := @of_decide_eq_true _ (Classical.propDecidable _) h1
    subst hb
    have hx' : X41.Ok ⟨true, ⟨x0, x1, x2, x3, x4, x5, x6, x7⟩, [], B, K, 0⟩ := ⟨hx.g, hx.i, hx.len, hx.ki, fun _ => rfl⟩
    refine ⟨⟨true, ⟨x0, x1, x2, x3, x4, x5, x6, x7⟩, [], B, K, 0⟩, R, rfl, rfl, ?_, rfl, rfl, ⟨rfl, rfl⟩, by show (0 : Nat) - 0 < 100000; omega⟩
    rw [res41_of hx', ← leaf_some h2]; rfl
  · rename_i a o1 k o2 i g0 x0 g1 x1 g2 x2 g3 x3 g4 x4 g5 x5 g6 x6 g7 x7 a' b L B K
    obtain ⟨h1, h2⟩ := need_some h
    rw [Bool.and_eq_true] at h1
    unfold okPt at h1
    obtain ⟨⟨h3, h4⟩⟩ := And.intro h1 trivial
    obtain ⟨hx, ha, hb, hk, hi⟩ := @of_decide_eq_true _ (Classical.propDecidable _) h3
    have h4 := of_decide_eq_true h4
    subst h4; subst ha; subst hb; subst hk; subst hi
    have hx' : X41.Ok ⟨false, ⟨x0, x1, x2, x3, x4, x5, x6, x7⟩, L, B, K, 0⟩ := ⟨hx.g, hx.i, hx.len, hx.ki, nofun⟩
    have hg' := hx.g
    simp only at hg'
    unfold goodL at hg'
    rw [Bool.and_eq_true] at hg'
    have hl := of_decide_eq_true hg'.1
    refine ⟨⟨false, ⟨x0, x1, x2, x3, x4, x5, x6, x7⟩, L, B, K, 0⟩, R, rfl, rfl, ?_, rfl, rfl, ⟨rfl, rfl⟩, by show L.length - 0 < 100000; omega⟩
    rw [res41_of hx']
    simp only
    rcases node_some h2 with ⟨e, h2⟩ | ⟨e, h2⟩ <;> rw [e, ← leaf_some h2] <;> rfl
  · cases h
theorem loop41_ok : LoopOk Tryz.prog 41 2 20 (liftL [1, 3, 43, 44, 45] core41) := loop_at cQn_ok Tryz.func41 (by kernel_rfl) core41_ok turn41
noncomputable def cPt : Cfg := cQn.addL 41 2 20 (liftL [1, 3, 43, 44, 45] core41)
theorem cPt_ok : CfgOk Tryz.prog cPt := cQn_ok.addL loop41_ok
end Go.Proofs.YtgemonlknehegaaGreatDoor.AI
namespace Go.Proofs.YtgemonlknehegaaGreatDoor.AI
open Go WB
set_option linter.unusedVariables false
set_option linter.unusedSimpArgs false
set_option maxRecDepth 100000
def bt (b : Bool) (k : Int) : Int := match b with | true => k | false => 0
def fBb (b1 b2 b3 b4 b5 : Bool) : Int := nat2S Nat.lor (nat2S Nat.lor (nat2S Nat.lor (nat2S Nat.lor (bt b1 32768) (bt b2 1024)) (bt b3 512)) (bt b4 256)) (bt b5 128)
theorem fBb_ok : ∀ b1 b2 b3 b4 b5 : Bool, 0 ≤ fBb b1 b2 b3 b4 b5 ∧ fBb b1 b2 b3 b4 b5 < 65536 ∧ (fBb b1 b2 b3 b4 b5).toNat % 16 = 0 := by decide +kernel
def fB (h : HD) : Int := fBb h.qr h.aa h.tc h.rd h.ra
noncomputable def opB (h : HD) : Int := IntKind.wrap .u16 (Int.ofNat (Int.toNat (IntKind.wrap .u16 h.op) * 2 ^ min (Int.toNat 11) (bitsOf .u16)))
noncomputable def flV (h : HD) : Int := nat2S Nat.lor (nat2S Nat.lor (fB h) (opB h)) (IntKind.wrap .u16 h.rc)
def mQ (z : Bool) (h : HD) (n : Nat) : SV := .agg (hdV h ++ [match z with | true => .nil .s | false => .tsl 0 3 0 n, .nil .s, .nil .s, .nil .s])
theorem w83 (z b1 b2 b3 b4 b5 : Bool) (id op rc : Int) (k : Nat) (L : List Rc) (m : Nat) : DT.fol [y, bw b1, y, y, y, y, y, y, bw b2, y, y, y, y, y, bw b3, y, y, y, y, bw b4, y, y, y, bw b5, y, y, y, y] (seC Tryz.prog Cfg.none (m + 4) 83 [mQ z ⟨id, b1, b2, b3, b4, b5, op, rc⟩ k] (st137z z L)) = some ([nn (IntKind.wrap .u16 op) && nn 11, b1, decide (rc = rc), decide (op = op), b5 == b5, b4 == b4, b3 == b3, b2 == b2, b2, decide (rc = rc), decide (op = op), b5 == b5, b4 == b4, b3 == b3, b3, decide (rc = rc), decide (op = op), b5 == b5, b4 == b4, b4, decide (rc = rc), decide (op = op), b5 == b5, b5, decide (rc = rc), decide (op = op), inB .u16 (fB ⟨id, b1, b2, b3, b4, b5, op, rc⟩) && inB .u16 (opB ⟨id, b1, b2, b3, b4, b5, op, rc⟩), inB .u16 (nat2S Nat.lor (fB ⟨id, b1, b2, b3, b4, b5, op, rc⟩) (opB ⟨id, b1, b2, b3, b4, b5, op, rc⟩)) && inB .u16 (IntKind.wrap .u16 rc)], some (.i true .u16 (flV ⟨id, b1, b2, b3, b4, b5, op, rc⟩), st137z z L)) := by cases z <;> cases b1 <;> cases b2 <;> cases b3 <;> cases b4 <;> cases b5 <;> kernel_rfl
def okH (h : HD) : Bool := decide (0 ≤ h.id ∧ h.id < 65536 ∧ 0 ≤ h.op ∧ h.op < 16 ∧ 0 ≤ h.rc ∧ h.rc < 16)
theorem fB_nat (h : HD) : ∃ x : Nat, fB h = (x : Nat) ∧ x < 65536 ∧ x % 16 = 0 := by
  obtain ⟨h1, h2, h3⟩ := fBb_ok h.qr h.aa h.tc h.rd h.ra
  exact ⟨(fBb h.qr h.aa h.tc h.rd h.ra).toNat, (Int.toNat_of_nonneg h1).symm, by omega, h3⟩
theorem opB_nat {h : HD} (hk : okH h = true) : opB h = ((h.op.toNat * 2048 : Nat) : Int) := by
  obtain ⟨_, _, h1, h2, _, _⟩ := of_decide_eq_true hk
  unfold opB
  rw [wrap16 h1 (by omega)]
  show IntKind.wrap .u16 ((h.op.toNat * 2048 : Nat) : Int) = _
  rw [wrap16 (by omega) (by omega)]
theorem flV_nat {h : HD} (hk : okH h = true) : ∃ x : Nat, flV h = (x : Nat) ∧ x < 65536 ∧ x % 16 = h.rc.toNat ∧ inB .u16 (nat2S Nat.lor (fB h) (opB h)) = true := by
  obtain ⟨x, hx, h1, h2⟩ := fB_nat h
  obtain ⟨_, _, h3, h4, h5, h6⟩ := of_decide_eq_true hk
  unfold flV
  rw [hx, opB_nat hk, wrap16 h5 (by omega)]
  have e1 : nat2S Nat.lor ((x : Nat) : Int) ((h.op.toNat * 2048 : Nat) : Int) = ((x ||| (h.op.toNat * 2048) : Nat) : Int) := rfl
  have l1 : x ||| (h.op.toNat * 2048) < 2 ^ 16 := Nat.or_lt_two_pow (n := 16) h1 (show h.op.toNat * 2048 < 65536 by omega)
  rw [e1]
  refine ⟨(x ||| (h.op.toNat * 2048)) ||| h.rc.toNat, rfl, Nat.or_lt_two_pow (n := 16) l1 (show h.rc.toNat < 65536 by omega), ?_, inB16 (Int.natCast_nonneg _) (by have : x ||| (h.op.toNat * 2048) < 65536 := l1; omega)⟩
  show ((x ||| (h.op.toNat * 2048)) ||| h.rc.toNat) % 2 ^ 4 = _
  rw [Nat.or_mod_two_pow, Nat.or_mod_two_pow]
  show (x % 16 ||| (h.op.toNat * 2048) % 16) ||| h.rc.toNat % 16 = _
  rw [h2, show h.op.toNat * 2048 % 16 = 0 by omega, show h.rc.toNat % 16 = h.rc.toNat by omega]
  simp
noncomputable def sp83 : Spec
  | [.agg [.i _ .u16 x0, .b _ x1, .b _ x2, .b _ x3, .b _ x4, .b _ x5, .i _ .i64 x6, .i _ .i64 x7, .nil .s, .nil .s, .nil .s, .nil .s]], ⟨[], 0⟩ => .need (okH ⟨x0, x1, x2, x3, x4, x5, x6, x7⟩) (.leaf (.i true .u16 (flV ⟨x0, x1, x2, x3, x4, x5, x6, x7⟩), .empty))
  | [.agg [.i _ .u16 x0, .b _ x1, .b _ x2, .b _ x3, .b _ x4, .b _ x5, .i _ .i64 x6, .i _ .i64 x7, .tsl 0 3 0 k, .nil .s, .nil .s, .nil .s]], ⟨[(0, .lrow 25 [.str, .int .u16, .int .u16] L)], 1⟩ => .need (okH ⟨x0, x1, x2, x3, x4, x5, x6, x7⟩) (.leaf (.i true .u16 (flV ⟨x0, x1, x2, x3, x4, x5, x6, x7⟩), st137 L))
  | _, _ => .fail
theorem go83 (z : Bool) (h : HD) (k : Nat) (L : List Rc) (m : Nat) (hk : okH h = true) : (seC Tryz.prog Cfg.none (m + 4) 83 [mQ z h k] (st137z z L)).val = some (some (.i true .u16 (flV h), st137z z L)) := by
  obtain ⟨x, hx, h1, h2⟩ := fB_nat h
  obtain ⟨x', _, _, _, h7⟩ := flV_nat hk
  obtain ⟨h8, h9, h3, h4, h5, h6⟩ := of_decide_eq_true hk
  obtain ⟨id, b1, b2, b3, b4, b5, op, rc⟩ := h
  simp only at *
  refine fol_val (w83 z b1 b2 b3 b4 b5 id op rc k L m) ?_
  rw [h7, hx, opB_nat hk, wrap16 h3 (by omega), wrap16 h5 (by omega)]
  simp only
  rw [show nn op = true from decide_eq_true h3, inB16 (x := (x : Int)) (by omega) (by omega), inB16 (x := ((op.toNat * 2048 : Nat) : Int)) (by omega) (by omega), inB16 (x := rc) h5 (by omega), show decide True = true from rfl]
  cases b1 <;> cases b2 <;> cases b3 <;> cases b4 <;> cases b5 <;> rfl
set_option maxHeartbeats 1000000 in
theorem sp83_ok : SpecOk Tryz.prog 83 5 sp83 := spec_ok cfg_none fun m args sh r hr => by
  unfold sp83 at hr
  split at hr
  · rename_i g0 x0 g1 x1 g2 x2 g3 x3 g4 x4 g5 x5 g6 x6 g7 x7
    obtain ⟨h1, hr⟩ := need_some hr
    rw [seC_open]
    exact ⟨_, go83 true ⟨x0, x1, x2, x3, x4, x5, x6, x7⟩ 0 [] m h1, by rw [← leaf_some hr]; exact ⟨rfl, rfl⟩⟩
  · rename_i g0 x0 g1 x1 g2 x2 g3 x3 g4 x4 g5 x5 g6 x6 g7 x7 k L
    obtain ⟨h1, hr⟩ := need_some hr
    rw [seC_open]
    exact ⟨_, go83 false ⟨x0, x1, x2, x3, x4, x5, x6, x7⟩ k L m h1, by rw [← leaf_some hr]; exact ⟨rfl, rfl⟩⟩
  · cases hr
noncomputable def cPu : Cfg := cPt.addS 83 5 (lift sp83)
theorem cPu_ok : CfgOk Tryz.prog cPu := cPt_ok.addS (lift_ok sp83_ok)
end Go.Proofs.YtgemonlknehegaaGreatDoor.AI
