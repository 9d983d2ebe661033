/- The chain of TopRefuses, part 42. -/
import Derived.Test.YtgemonlknehegaaGreatDoorK41
namespace Go.Proofs.YtgemonlknehegaaGreatDoor.AI
open Go WB
set_option linter.unusedVariables false
set_option linter.unusedSimpArgs false
set_option maxRecDepth 100000
noncomputable def b82 (x : Int) (k : Nat) : Int := IntKind.wrap IntKind.u8 (Int.ofNat (Int.toNat (IntKind.wrap IntKind.u32 x) / 2 ^ min (Int.toNat (Int.ofNat k)) (bitsOf IntKind.u32)))
theorem w82 (x : Int) (m : Nat) : DT.fol [y, y, y] (seC Tryz.prog Cfg.none (m + 6) 82 [.i true .u16 x] .empty) = some ([nn (IntKind.wrap IntKind.u32 x) && nn (Int.ofNat 0), nn (IntKind.wrap IntKind.u32 x) && nn (Int.ofNat (Nat.succ 7)), inB IntKind.u8 (b82 x 8) && (inB IntKind.u8 (b82 x 0) && true)], some (.s true [UInt8.ofNat (Int.toNat (b82 x 8)), UInt8.ofNat (Int.toNat (b82 x 0))], .empty)) := by kernel_rfl
noncomputable def sp82 : Spec
  | [.i _ .u16 x], ⟨[], 0⟩ => .need (inB .u16 x) (.leaf (.s true (p16 x.toNat), .empty))
  | _, _ => .fail
theorem inB16_of {x : Int} (h : inB .u16 x = true) : 0 ≤ x ∧ x < 65536 := of_decide_eq_true h
theorem wrap8m (x : Nat) : IntKind.wrap .u8 (x : Int) = ((x % 256 : Nat) : Int) := by
  unfold IntKind.wrap
  show (if IntKind.u8.signed = true then _ else (x : Int) % (2 ^ IntKind.u8.bits)) = _
  rw [if_neg (by decide)]
  show (x : Int) % 256 = _
  rfl
theorem sp82_ok : SpecOk Tryz.prog 82 7 sp82 := spec_ok cfg_none fun m args sh r hr => by
  unfold sp82 at hr
  split at hr
  · rename_i o1 x
    obtain ⟨h1, hr⟩ := need_some hr
    obtain ⟨h2, h3⟩ := inB16_of h1
    have hw : IntKind.wrap .u32 x = x := wrap32 h2 (by omega)
    have e8 : b82 x 8 = ((x.toNat / 256 % 256 : Nat) : Int) := by
      unfold b82; rw [hw]
      show IntKind.wrap .u8 (((x.toNat / 2 ^ 8 : Nat)) : Int) = _
      rw [wrap8m]
    have e0 : b82 x 0 = ((x.toNat % 256 : Nat) : Int) := by
      unfold b82; rw [hw]
      show IntKind.wrap .u8 (((x.toNat / 2 ^ 0 : Nat)) : Int) = _
      rw [wrap8m]; simp
    have i8 : ∀ k : Nat, k < 256 → inB .u8 ((k : Nat) : Int) = true := fun k hk => by
      unfold inB
      have e : (bnd .u8 : Int) = 256 := rfl
      exact decide_eq_true ⟨by omega, by rw [e]; omega⟩
    rw [seC_open]
    show ∃ r1, (seC Tryz.prog Cfg.none (m + 6) 82 [.i true .u16 x] .empty).val = _ ∧ _
    refine ⟨_, fol_val (w82 x m) ?_, ?_⟩
    · rw [e8, e0, i8 _ (Nat.mod_lt _ (by decide)), i8 _ (Nat.mod_lt _ (by decide)), hw, show nn x = true from decide_eq_true h2]; rfl
    · rw [← leaf_some hr, e8, e0]
      refine ⟨?_, rfl⟩
      show SV.s true [UInt8.ofNat (x.toNat / 256 % 256), UInt8.ofNat (x.toNat % 256)] = .s true [UInt8.ofNat (x.toNat / 256), UInt8.ofNat (x.toNat % 256)]
      rw [show x.toNat / 256 % 256 = x.toNat / 256 by omega]
  · cases hr
/-! ### The first question that may not be -/
noncomputable def mayQr (r : Rc) : Bool := match r with
  | [.s nm, .n t, .n c] => mayN nm && (inB .u16 t && inB .u16 c)
  | _ => false
theorem mayQr_good {r : Rc} (h : mayQr r = true) : GoodQ r := by
  unfold mayQr at h
  split at h
  · rename_i n t c
    rw [Bool.and_eq_true, Bool.and_eq_true] at h
    obtain ⟨a, b⟩ := inB16_of h.2.1
    obtain ⟨a', b'⟩ := inB16_of h.2.2
    exact ⟨n, t, c, rfl, mayN_iff.1 h.1, a, b, a', b'⟩
  · cases h
theorem good_mayQr {r : Rc} (h : GoodQ r) : mayQr r = true := by
  obtain ⟨n, t, c, rfl, gn, t0, t1, c0, c1⟩ := h.eq
  show (mayN n && (inB .u16 t && inB .u16 c)) = true
  rw [mayN_iff.2 gn, inB16 t0 t1, inB16 c0 c1]; rfl
noncomputable def goodL (L : List Rc) : Bool := decide (L.length < 100000) && L.all mayQr
def fq (b : Bool) : FuncId := match b with | true => 175 | false => 78
def st137 (L : List Rc) : SH := ⟨[(0, .lrow 25 sQ L)], 1⟩
def st137z (z : Bool) (L : List Rc) : SH := match z with | true => .empty | false => st137 L
def iv137 (z b : Bool) (L : List Rc) (k i : Int) : List SV × SH := ([match z with | true => .nil .s | false => .tsl 0 3 0 L.length, .func (fq b) [] [], .i true .i64 k, .i true .i64 i], st137z z L)
def ix137 : AExit → List Nat := fun _ => []
noncomputable def T137 (z b : Bool) (L : List Rc) (k i : Int) (m : Nat) : DT Turn := seL Tryz.prog cM (m + 8) 137 19 (blkL Tryz.f137 0) [0, 1, 7, 8] ix137 (iv137 z b L k i)
def nm137 (L : List Rc) (i : Int) : List UInt8 := Lf.toS (List.headD (List.getD L (0 + Int.toNat i) []) (Lf.n 0))
theorem w137_2 (b : Bool) (L : List Rc) (k i : Int) (m : Nat) : DT.fol [y, y, y, y, y, n] (T137 false b L k i m) = some ([decide (i < k), nn i, decide (Int.toNat i < List.length L), decide (0 + Int.toNat i < List.length L), decide (List.length (nm137 L i) < 100000), !mayN (nm137 L i)], .next [.tsl 0 3 0 L.length, .func (fq b) [] [], .i true .i64 k, .i true .i64 (IntKind.wrap .i64 (i + 1))] (st137 L) (thOf (DT.fol [y, y, y, y, y, n] (T137 false b L k i m))) (h0Of (DT.fol [y, y, y, y, y, n] (T137 false b L k i m)))) := by cases b <;> kernel_rfl
theorem w137_3 (z b : Bool) (L : List Rc) (k i : Int) (m : Nat) : DT.fol [n] (T137 z b L k i m) = some ([decide (i < k)], .ends (.exit 0) (.tuple []) (st137z z L)) := by cases z <;> cases b <;> kernel_rfl
def R137 (z : Bool) (L : List Rc) : LR := ⟨.normal, [], [], st137z z L⟩
theorem comb137 (b : Bool) (L : List Rc) (k i : Int) (m : Nat) : comb 1 (thOf (DT.fol [y, y, y, y, y, n] (T137 false b L k i m))) (h0Of (DT.fol [y, y, y, y, y, n] (T137 false b L k i m))) (R137 false L) = some (.tuple [], st137 L) := by cases b <;> kernel_rfl
structure X137 where
  z : Bool
  b : Bool
  L : List Rc
  i : Nat
def inv137 (x : X137) : List SV × SH := iv137 x.z x.b x.L x.L.length x.i
noncomputable def res137 (x : X137) : Option LR := if goodL x.L = true ∧ x.i ≤ x.L.length ∧ (x.z = true → x.L = []) then some (R137 x.z x.L) else none
def mu137 (x : X137) : Nat := x.L.length - x.i
theorem turn137 (m : Nat) (x : X137) (R : LR) (hR : res137 x = some R) : ∃ t, (seL Tryz.prog cM (m + 8) 137 Tryz.f137.ntmps (blkL Tryz.f137 0) [0, 1, 7, 8] ix137 (inv137 x)).val = some t ∧ TurnOk 0 ix137 inv137 res137 mu137 x R t := by
  obtain ⟨z, b, L, i⟩ := x
  unfold res137 at hR
  split at hR
  · rename_i h
    cases hR
    obtain ⟨hg, hi, hz⟩ := h
    simp only at hg hi hz
    have hg' := hg
    unfold goodL at hg'
    rw [Bool.and_eq_true] at hg'
    have hl := of_decide_eq_true hg'.1
    show ∃ t, (T137 z b L L.length i m).val = some t ∧ _
    by_cases hlt : i < L.length
    · have hz : z = false := by cases z with | false => rfl | true => rw [hz rfl] at hlt; cases hlt
      subst hz
      have c0 : decide ((i : Int) < (L.length : Int)) = true := decide_eq_true (by omega)
      have ti : Int.toNat (i : Int) = i := rfl
      obtain ⟨n, t, c, he, gn, _⟩ := (mayQr_good (List.all_eq_true.1 hg'.2 _ (List.getElem_mem hlt))).eq
      have hn : nm137 L i = n := by
        unfold nm137
        rw [ti, Nat.zero_add, List.getD_eq_getElem?_getD, List.getElem?_eq_getElem hlt]
        show Lf.toS (List.headD L[i] (Lf.n 0)) = n
        rw [he]; rfl
      refine ⟨_, fol_val (w137_2 b L L.length i m) ?_, ⟨false, b, L, i + 1⟩, R137 false L, ?_, rfl, ?_, ?_, rfl, rfl, _, comb137 b L L.length i m, Opn.wk ⟨rfl, rfl⟩⟩
      · have := gn.len
        rw [c0, hn, nnN, ti, Nat.zero_add, decide_eq_true hlt, mayN_iff.2 gn, show decide (n.length < 100000) = true from decide_eq_true (by omega)]; rfl
      · show openL (iv137 false b L L.length (IntKind.wrap .i64 ((i : Int) + 1))).1 = openL (iv137 false b L L.length ((i + 1 : Nat) : Int)).1
        rw [wrap64 (by omega) (by omega)]; rfl
      · show L.length - (i + 1) < L.length - i; omega
      · unfold res137; rw [if_pos ⟨hg, by show i + 1 ≤ L.length; omega, nofun⟩]
    · have c0 : decide ((i : Int) < (L.length : Int)) = false := decide_eq_false (by omega)
      exact ⟨_, fol_val (w137_3 z b L L.length i m) (by rw [c0]; rfl), .inl ⟨rfl, rfl⟩, rfl, Opn.wk ⟨rfl, rfl⟩⟩
  · cases hR
noncomputable def core137 : LSpec
  | [.nil .s, .func f [] [], .i _ .i64 (.ofNat 0), .i _ .i64 (.ofNat 0)], ⟨[], 0⟩ => (match Nat.beq f 175 || Nat.beq f 78 with
    | true => .leaf (R137 true [])
    | false => .fail)
  | [.tsl 0 3 0 len, .func f [] [], .i _ .i64 k, .i _ .i64 i], ⟨[(0, .lrow 25 [.str, .int .u16, .int .u16] L)], 1⟩ => (match Nat.beq f 175 || Nat.beq f 78 with
    | true => .need (decide (goodL L = true ∧ len = L.length ∧ k = (L.length : Int) ∧ i = 0)) (.leaf (R137 false L))
    | false => .fail)
  | _, _ => .fail
theorem core137_ok (vals : List SV) (sh : SH) (R : LR) (h : (core137 vals sh).val = some R) : ∃ x R1, openL (inv137 x).1 = openL vals ∧ (inv137 x).2.opened = sh.opened ∧ res137 x = some R1 ∧ R1.e = R.e ∧ R1.ix = R.ix ∧ Opn (.tuple R1.v, R1.h) (.tuple R.v, R.h) ∧ mu137 x < 100000 := by
  have hfb : ∀ f : FuncId, (Nat.beq f 175 || Nat.beq f 78) = true → ∃ b, fq b = f := fun f hf => by
    rw [Bool.or_eq_true] at hf
    rcases hf with hf | hf
    · exact ⟨true, (beq_iff.1 hf).symm⟩
    · exact ⟨false, (beq_iff.1 hf).symm⟩
  unfold core137 at h
  split at h
  · rename_i f o1 o2
    split at h
    · rename_i hf
      rw [← leaf_some h]
      obtain ⟨b, rfl⟩ := hfb f hf
      exact ⟨⟨true, b, [], 0⟩, R137 true [], rfl, rfl, if_pos ⟨by unfold goodL; rfl, Nat.zero_le _, fun _ => rfl⟩, rfl, rfl, ⟨rfl, rfl⟩, by show (0 : Nat) - 0 < 100000; omega⟩
    · cases h
  · rename_i len f o1 k o2 i L
    split at h
    · rename_i hf
      obtain ⟨h1, h2⟩ := need_some h
      obtain ⟨hg, rfl, rfl, rfl⟩ := of_decide_eq_true h1
      rw [← leaf_some h2]
      obtain ⟨b, rfl⟩ := hfb f hf
      have hg' := hg
      unfold goodL at hg'
      rw [Bool.and_eq_true] at hg'
      have hl := of_decide_eq_true hg'.1
      exact ⟨⟨false, b, L, 0⟩, R137 false L, rfl, rfl, if_pos ⟨hg, Nat.zero_le _, nofun⟩, rfl, rfl, ⟨rfl, rfl⟩, by show L.length - 0 < 100000; omega⟩
    · cases h
  · cases h
theorem loop137_ok : LoopOk Tryz.prog 137 0 8 (liftL [0, 1, 7, 8] core137) := loop_at cM_ok Tryz.func137 (by kernel_rfl) core137_ok turn137
noncomputable def c137 : Cfg := cM.addL 137 0 8 (liftL [0, 1, 7, 8] core137)
theorem c137_ok : CfgOk Tryz.prog c137 := cM_ok.addL loop137_ok
theorem w137 (b : Bool) (L : List Rc) (k : Nat) (m : Nat) : DT.fol [y] (seC Tryz.prog c137 (m + 9) 137 [.tsl 0 3 0 k, .func (fq b) [] []] (st137 L)) = some ([decide (goodL L = true ∧ k = L.length ∧ Int.ofNat k = (L.length : Int) ∧ (0 : Int) = 0)], some (.i false .i64 (-1), st137 L)) := by cases b <;> kernel_rfl
theorem w137n (b : Bool) (m : Nat) : DT.fol [] (seC Tryz.prog c137 (m + 9) 137 [.nil .s, .func (fq b) [] []] .empty) = some ([], some (.i false .i64 (-1), .empty)) := by cases b <;> kernel_rfl
noncomputable def sp137 : Spec
  | [.nil .s, .func f [] []], ⟨[], 0⟩ => (match Nat.beq f 175 || Nat.beq f 78 with
    | true => .leaf (.i false .i64 (-1), .empty)
    | false => .fail)
  | [.tsl 0 3 0 k, .func f [] []], ⟨[(0, .lrow 25 [.str, .int .u16, .int .u16] L)], 1⟩ => (match Nat.beq f 175 || Nat.beq f 78 with
    | true => .need (goodL L && decide (k = L.length)) (.leaf (.i false .i64 (-1), st137 L))
    | false => .fail)
  | _, _ => .fail
theorem sp137_ok : SpecOk Tryz.prog 137 10 sp137 := spec_ok c137_ok fun m args sh r hr => by
  have hfb : ∀ f : FuncId, (Nat.beq f 175 || Nat.beq f 78) = true → ∃ b, fq b = f := fun f hf => by
    rw [Bool.or_eq_true] at hf
    rcases hf with hf | hf
    · exact ⟨true, (beq_iff.1 hf).symm⟩
    · exact ⟨false, (beq_iff.1 hf).symm⟩
  unfold sp137 at hr
  split at hr
  · rename_i f
    split at hr
    · rename_i hf
      obtain ⟨b, rfl⟩ := hfb f hf
      rw [seC_open]
      exact ⟨_, fol_val (w137n b m) rfl, by rw [← leaf_some hr]; exact ⟨rfl, rfl⟩⟩
    · cases hr
  · rename_i k f L
    split at hr
    · rename_i hf
      obtain ⟨b, rfl⟩ := hfb f hf
      obtain ⟨h1, hr⟩ := need_some hr
      rw [Bool.and_eq_true] at h1
      have hk := of_decide_eq_true h1.2
      rw [seC_open]
      exact ⟨_, fol_val (w137 b L k m) (by rw [decide_eq_true ⟨h1.1, hk, by rw [hk]; rfl, rfl⟩]; rfl), by rw [← leaf_some hr]; exact ⟨rfl, rfl⟩⟩
    · cases hr
  · cases hr
/-- all that puts need -/
noncomputable def cP : Cfg := (cMs.addS 82 7 (lift sp82)).addS 137 10 (lift sp137)
theorem cP_ok : CfgOk Tryz.prog cP := (cMs_ok.addS (lift_ok sp82_ok)).addS (lift_ok sp137_ok)
end Go.Proofs.YtgemonlknehegaaGreatDoor.AI
namespace Go.Proofs.YtgemonlknehegaaGreatDoor.AI
open Go WB
set_option linter.unusedVariables false
set_option linter.unusedSimpArgs false
set_option maxRecDepth 100000
abbrev Kn := List (List UInt8 × Int)
def pkS (j m : Nat) (B : List UInt8) (K : Kn) : SH := ⟨match Nat.beq j 1 with
  | true => [(0, .row 266 [.tsl 1 1 0 B.length, .map 2] none), (1, .bytes 5 B), (2, .smap K)]
  | false => [(0, .row 266 [.tsl j 1 0 B.length, .map 2] none), (2, .smap K), (j, .bytes 5 B)], m⟩
def ix140 : AExit → List Nat := fun e => match e with | .ret => [4] | _ => [0, 1]
noncomputable def T140 (nm B : List UInt8) (K : Kn) (m : Nat) : DT Turn := seL Tryz.prog cP (m + 12) 140 63 (blkL Tryz.f140 0) [0, 1] ix140 ([.ptr 0 0, .s true nm], pkS 1 3 B K)
def hd1 (nm : List UInt8) : List UInt8 := List.take (Int.toNat (lab1 nm) - 0) (List.drop 0 nm)
def rs1 (nm : List UInt8) : List UInt8 := List.take (List.length nm - Int.toNat (lab1 nm)) (List.drop (Int.toNat (lab1 nm)) nm)
def pw (K : Kn) (nm : List UInt8) : Int := IntKind.wrap .u16 (nat2S Nat.lor 49152 (Option.getD (slook K nm) 0))
theorem w140_2 (nm B : List UInt8) (K : Kn) (m : Nat) : DT.fol [y, y, y, y, y, y, y, n] (T140 nm B K m) = some ([!decide (nm = [0]), Option.isSome (slook K nm), inB .i64 49152 && inB .i64 (Option.getD (slook K nm) 0), inB .u16 (pw K nm), decide (List.length B < 1048576), decide (List.length (p16 (Int.toNat (pw K nm))) < 1048576), decide (0 = 0 ∧ List.length B = List.length B), decide (p16 (Int.toNat (pw K nm)) = [])], .ends .ret (.tuple [.i false .i64 0]) (pkS 3 4 (B ++ p16 (Int.toNat (pw K nm))) K)) := by kernel_rfl
noncomputable def c140 (nm B : List UInt8) : List Bool := [decide (0 < List.length nm), nn (lab1 nm), decide (0 ≤ Int.toNat (lab1 nm) ∧ Int.toNat (lab1 nm) ≤ List.length nm), decide (List.length B < 1048576), decide (List.length (hd1 nm) < 1048576), decide (0 = 0 ∧ List.length B = List.length B), decide (hd1 nm = []), nn (lab1 nm), decide (Int.toNat (lab1 nm) ≤ List.length nm ∧ List.length nm ≤ List.length nm)]
theorem w140_4 (nm B : List UInt8) (K : Kn) (m : Nat) : DT.fol [y, n, y, y, y, y, y, y, y, n, y, y] (T140 nm B K m) = some ([!decide (nm = [0]), Option.isSome (slook K nm), decide (Int.ofNat (List.length B) < 16384)] ++ c140 nm B, .next [.ptr 0 0, .s true (rs1 nm)] (pkS 1 3 (B ++ hd1 nm) (sput K nm (Int.ofNat B.length))) (thOf (DT.fol [y, n, y, y, y, y, y, y, y, n, y, y] (T140 nm B K m))) (h0Of (DT.fol [y, n, y, y, y, y, y, y, y, n, y, y] (T140 nm B K m)))) := by kernel_rfl
theorem w140_6 (nm B : List UInt8) (K : Kn) (m : Nat) : DT.fol [y, n, n, y, y, y, y, y, y, n, y, y] (T140 nm B K m) = some ([!decide (nm = [0]), Option.isSome (slook K nm), decide (Int.ofNat (List.length B) < 16384)] ++ c140 nm B, .next [.ptr 0 0, .s true (rs1 nm)] (pkS 1 3 (B ++ hd1 nm) K) (thOf (DT.fol [y, n, n, y, y, y, y, y, y, n, y, y] (T140 nm B K m))) (h0Of (DT.fol [y, n, n, y, y, y, y, y, y, n, y, y] (T140 nm B K m)))) := by kernel_rfl
theorem w140_7 (nm B : List UInt8) (K : Kn) (m : Nat) : DT.fol [n] (T140 nm B K m) = some ([!decide (nm = [0])], .ends (.exit 0) (.tuple [.ptr 0 0, .s true nm]) (pkS 1 3 B K)) := by kernel_rfl
/-! ### What the loop tells -/
def nlR (j m : Nat) (r : Bool × PK) : LR := match r.1 with
  | true => ⟨.ret, [4], [.i false .i64 0], pkS j m r.2.B r.2.K⟩
  | false => ⟨.normal, [0, 1], [.ptr 0 0, .s true [0]], pkS j m r.2.B r.2.K⟩
def nl : Nat → List UInt8 → PK → Bool × PK
  | 0, _, p => (false, p)
  | f + 1, nm, p => match decide (nm = [0]) with
    | true => (false, p)
    | false => match slook p.K nm with
      | some v => (true, ⟨p.B ++ p16 (Nat.lor 49152 v.toNat), p.K⟩)
      | none => nl f (lrest nm) ⟨p.B ++ nm.take (1 + k0 nm), match decide (p.B.length < 16384) with | true => sput p.K nm p.B.length | false => p.K⟩
theorem comb4 (c d : Bool) (nm B : List UInt8) (K : Kn) (m : Nat) (B' : List UInt8) (K' : Kn) : comb 3 (thOf (DT.fol [y, n, y, y, y, y, y, y, y, n, y, y] (T140 nm B K m))) (h0Of (DT.fol [y, n, y, y, y, y, y, y, y, n, y, y] (T140 nm B K m))) (nlR (match c with | true => 3 | false => 1) (match c with | true => 4 | false => 3) (d, ⟨B', K'⟩)) = some (.tuple (nlR 3 4 (d, ⟨B', K'⟩)).v, (nlR 3 4 (d, ⟨B', K'⟩)).h) := by cases c <;> cases d <;> kernel_rfl
theorem comb6 (c d : Bool) (nm B : List UInt8) (K : Kn) (m : Nat) (B' : List UInt8) (K' : Kn) : comb 3 (thOf (DT.fol [y, n, n, y, y, y, y, y, y, n, y, y] (T140 nm B K m))) (h0Of (DT.fol [y, n, n, y, y, y, y, y, y, n, y, y] (T140 nm B K m))) (nlR (match c with | true => 3 | false => 1) (match c with | true => 4 | false => 3) (d, ⟨B', K'⟩)) = some (.tuple (nlR 3 4 (d, ⟨B', K'⟩)).v, (nlR 3 4 (d, ⟨B', K'⟩)).h) := by cases c <;> cases d <;> kernel_rfl
end Go.Proofs.YtgemonlknehegaaGreatDoor.AI
namespace Go.Proofs.YtgemonlknehegaaGreatDoor.AI
open Go
set_option linter.unusedVariables false
set_option linter.unusedSimpArgs false
set_option maxRecDepth 100000
def KV (K : Kn) : Prop := ∀ m v, slook K m = some v → 0 ≤ v ∧ v < 16384
theorem kv_put {K : Kn} {n : List UInt8} {v : Int} (h : KV K) (h0 : 0 ≤ v) (h1 : v < 16384) : KV (sput K n v) := fun m w hm => by
  rw [slook_put] at hm
  by_cases e : n = m
  · rw [if_pos e] at hm; cases hm; exact ⟨h0, h1⟩
  · rw [if_neg e] at hm; exact h m w hm
theorem nl_fuel {n : List UInt8} (hv : Vn n) : ∀ (f g : Nat) (p : PK), n.length ≤ f → n.length ≤ g → nl f n p = nl g n p := by
  induction hv with
  | root =>
    intro f g p hf hg
    cases f with
    | zero => cases hf
    | succ f => cases g with
      | zero => cases hg
      | succ g => rfl
  | @lab n hs hv ih =>
    intro f g p hf hg
    have hlt := lstep_len hs
    cases f with
    | zero => omega
    | succ f => cases g with
      | zero => omega
      | succ g =>
        unfold nl
        rw [ih f g _ (by omega) (by omega)]
structure X140 where
  n : List UInt8
  B : List UInt8
  K : Kn
structure X140.Ok (x : X140) : Prop where
  vn : Vn x.n
  len : x.B.length + x.n.length < 1000000
  ln : x.n.length < 1000
  kv : KV x.K
def inv140 (x : X140) : List SV × SH := ([.ptr 0 0, .s true x.n], pkS 1 3 x.B x.K)
def nlO (x : X140) : Bool × PK := nl x.n.length x.n ⟨x.B, x.K⟩
def nlj (c : Bool) : Nat := match c with | true => 3 | false => 1
def nlm (c : Bool) : Nat := match c with | true => 4 | false => 3
noncomputable def res140 (x : X140) : Option LR := @ite _ x.Ok (Classical.propDecidable _) (some (nlR (nlj (!decide (x.n = [0]))) (nlm (!decide (x.n = [0]))) (nlO x))) none
theorem res140_of {x : X140} (h : x.Ok) : res140 x = some (nlR (nlj (!decide (x.n = [0]))) (nlm (!decide (x.n = [0]))) (nlO x)) := if_pos h
def mu140 (x : X140) : Nat := x.n.length
theorem nlR_e (j m j' m' : Nat) (r : Bool × PK) : (nlR j m r).e = (nlR j' m' r).e ∧ (nlR j m r).ix = (nlR j' m' r).ix := by
  obtain ⟨d, p⟩ := r; cases d <;> exact ⟨rfl, rfl⟩
theorem turn140 (m : Nat) (x : X140) (R : LR) (hR : res140 x = some R) : ∃ t, (seL Tryz.prog cP (m + 12) 140 Tryz.f140.ntmps (blkL Tryz.f140 0) [0, 1] ix140 (inv140 x)).val = some t ∧ TurnOk 0 ix140 inv140 res140 mu140 x R t := by
  by_cases hx : x.Ok
  · rw [res140_of hx] at hR
    cases hR
    obtain ⟨nm, B, K⟩ := x
    have hv := hx.vn
    have hlen := hx.len
    have hln := hx.ln
    have hkv := hx.kv
    simp only at hv hlen hln hkv
    show ∃ t, (T140 nm B K m).val = some t ∧ _
    by_cases h0 : nm = [0]
    · refine ⟨_, fol_val (w140_7 nm B K m) (by rw [decide_eq_true h0]; rfl), ?_⟩
      subst h0
      exact ⟨.inl ⟨rfl, rfl⟩, rfl, Opn.wk ⟨rfl, rfl⟩⟩
    · have c0 : (!decide (nm = [0])) = true := by rw [decide_eq_false h0]; rfl
      simp only [c0]
      cases hv with
      | root => exact absurd rfl h0
      | lab hs hv' =>
        obtain ⟨s1, s2, s3, s4⟩ := lstep_iff hs
        have hlt := lstep_len hs
        obtain ⟨d, hd⟩ : ∃ d, nm.length = d + 1 := ⟨nm.length - 1, by omega⟩
        have hO : nlO ⟨nm, B, K⟩ = match slook K nm with
            | some v => (true, ⟨B ++ p16 (Nat.lor 49152 v.toNat), K⟩)
            | none => nlO ⟨lrest nm, B ++ nm.take (1 + k0 nm), match decide (B.length < 16384) with | true => sput K nm B.length | false => K⟩ := by
          unfold nlO
          simp only
          rw [hd]
          show (match decide (nm = [0]) with | true => ((false, ⟨B, K⟩) : Bool × PK) | false => match slook K nm with | some v => (true, ⟨B ++ p16 (Nat.lor 49152 v.toNat), K⟩) | none => nl d (lrest nm) ⟨B ++ nm.take (1 + k0 nm), match decide (B.length < 16384) with | true => sput K nm B.length | false => K⟩) = _
          rw [decide_eq_false h0]
          simp only
          rw [nl_fuel hv' d (lrest nm).length _ (by omega) (Nat.le_refl _)]
        cases hk : slook K nm with
        | some v =>
          rw [hk] at hO
          obtain ⟨v0, v1⟩ := hkv nm v hk
          have hlor : nat2S Nat.lor 49152 v = ((49152 + v.toNat : Nat) : Int) := by
            show Int.ofNat (Nat.lor 49152 v.toNat) = _
            rw [lor_ptr (by omega)]; rfl
          have hpw : pw K nm = ((49152 + v.toNat : Nat) : Int) := by
            unfold pw; rw [hk]
            show IntKind.wrap .u16 (nat2S Nat.lor 49152 v) = _
            rw [hlor, wrap16 (by omega) (by omega)]
          have htn : Int.toNat (pw K nm) = Nat.lor 49152 v.toNat := by rw [hpw, lor_ptr (by omega)]; rfl
          have e64 : (bnd .i64 : Int) = 9223372036854775808 := rfl
          refine ⟨_, fol_val (w140_2 nm B K m) ?_, ?_⟩
          · rw [c0, hk, show Option.getD (some v) (0 : Int) = v from rfl, show inB .i64 v = true from decide_eq_true ⟨v0, by rw [e64]; omega⟩, show inB .i64 49152 = true from decide_eq_true ⟨by omega, by rw [e64]; omega⟩, show inB .u16 (pw K nm) = true from inB16 (by rw [hpw]; omega) (by rw [hpw]; omega), show decide (B.length < 1048576) = true from decide_eq_true (by omega), show decide (0 = 0 ∧ B.length = B.length) = true from decide_eq_true ⟨rfl, rfl⟩]
            rfl
          · rw [hO, htn]
            exact ⟨.inr ⟨rfl, rfl⟩, rfl, Opn.wk ⟨rfl, rfl⟩⟩
        | none =>
          rw [hk] at hO
          simp only at hO
          have hl1 : lab1 nm = ((1 + k0 nm : Nat) : Int) := lab1_eq nm
          have ht1 : Int.toNat (lab1 nm) = 1 + k0 nm := by rw [hl1]; rfl
          have hhd : hd1 nm = nm.take (1 + k0 nm) := by unfold hd1; rw [ht1]; rfl
          have hrs : rs1 nm = lrest nm := lrest_eq hs
          have hne : hd1 nm ≠ [] := fun e => by
            have := congrArg List.length e
            rw [hhd, List.length_take, List.length_nil] at this; omega
          have hhl : (hd1 nm).length = 1 + k0 nm := by rw [hhd, List.length_take]; omega
          have hc : c140 nm B = [true, true, true, true, true, true, false, true, true] := by
            unfold c140
            rw [ht1, show nn (lab1 nm) = true by rw [hl1]; exact nnN _, decide_eq_true (show 0 < nm.length by omega), decide_eq_true (show 0 ≤ 1 + k0 nm ∧ 1 + k0 nm ≤ nm.length from ⟨Nat.zero_le _, by omega⟩), show decide (B.length < 1048576) = true from decide_eq_true (by omega), show decide ((hd1 nm).length < 1048576) = true from decide_eq_true (by omega), show decide (0 = 0 ∧ B.length = B.length) = true from decide_eq_true ⟨rfl, rfl⟩, decide_eq_false hne, show decide (1 + k0 nm ≤ nm.length ∧ nm.length ≤ nm.length) = true from decide_eq_true ⟨by omega, Nat.le_refl _⟩]
          have hBl : (B ++ nm.take (1 + k0 nm)).length = B.length + (1 + k0 nm) := by rw [List.length_append, List.length_take]; omega
          have hll : (lrest nm).length + (1 + k0 nm) = nm.length := by unfold lrest; rw [List.length_drop]; omega
          by_cases hb : B.length < 16384
          · rw [decide_eq_true hb] at hO
            simp only at hO
            have hx' : X140.Ok ⟨lrest nm, B ++ nm.take (1 + k0 nm), sput K nm B.length⟩ := ⟨hv', by simp only; omega, by simp only; omega, kv_put hkv (by omega) (by omega)⟩
            refine ⟨_, fol_val (w140_4 nm B K m) (by rw [c0, hk, hc, decide_eq_true (show Int.ofNat B.length < 16384 by simp only [Int.ofNat_eq_natCast]; omega)]; rfl), ⟨lrest nm, B ++ nm.take (1 + k0 nm), sput K nm B.length⟩, _, by rw [hrs]; rfl, by rw [hhd]; rfl, hlt, res140_of hx', ?_⟩
            rw [hO]
            refine ⟨(nlR_e _ _ _ _ _).1, (nlR_e _ _ _ _ _).2, ?_⟩
            obtain ⟨d', B', K'⟩ := nlO ⟨lrest nm, B ++ nm.take (1 + k0 nm), sput K nm B.length⟩
            exact ⟨_, comb4 (!decide (lrest nm = [0])) d' nm B K m B' K', Opn.wk ⟨rfl, rfl⟩⟩
          · rw [decide_eq_false hb] at hO
            simp only at hO
            have hx' : X140.Ok ⟨lrest nm, B ++ nm.take (1 + k0 nm), K⟩ := ⟨hv', by simp only; omega, by simp only; omega, hkv⟩
            refine ⟨_, fol_val (w140_6 nm B K m) (by rw [c0, hk, hc, decide_eq_false (show ¬ Int.ofNat B.length < 16384 by simp only [Int.ofNat_eq_natCast]; omega)]; rfl), ⟨lrest nm, B ++ nm.take (1 + k0 nm), K⟩, _, by rw [hrs]; rfl, by rw [hhd]; rfl, hlt, res140_of hx', ?_⟩
            rw [hO]
            refine ⟨(nlR_e _ _ _ _ _).1, (nlR_e _ _ _ _ _).2, ?_⟩
            obtain ⟨d', B', K'⟩ := nlO ⟨lrest nm, B ++ nm.take (1 + k0 nm), K⟩
            exact ⟨_, comb6 (!decide (lrest nm = [0])) d' nm B K m B' K', Opn.wk ⟨rfl, rfl⟩⟩
  · unfold res140 at hR
    rw [if_neg hx] at hR; cases hR
end Go.Proofs.YtgemonlknehegaaGreatDoor.AI
namespace Go.Proofs.YtgemonlknehegaaGreatDoor.AI
open Go WB
set_option linter.unusedVariables false
set_option linter.unusedSimpArgs false
set_option maxRecDepth 100000
noncomputable def okNl (nm B : List UInt8) (K : Kn) (len : Nat) : Bool := @decide (X140.Ok ⟨nm, B, K⟩ ∧ len = B.length) (Classical.propDecidable _)
noncomputable def core140 : LSpec
  | [.ptr 0 0, .s _ nm], ⟨[(0, .row 266 [.tsl 1 1 0 len, .map 2] none), (1, .bytes 5 B), (2, .smap K)], 3⟩ =>
    .need (okNl nm B K len) (.node (decide (nm = [0])) (.leaf ⟨.normal, [0, 1], [.ptr 0 0, .s true [0]], pkS 1 3 B K⟩) (.node (nlO ⟨nm, B, K⟩).1 (.leaf ⟨.ret, [4], [.i false .i64 0], pkS 3 4 (nlO ⟨nm, B, K⟩).2.B (nlO ⟨nm, B, K⟩).2.K⟩) (.leaf ⟨.normal, [0, 1], [.ptr 0 0, .s true [0]], pkS 3 4 (nlO ⟨nm, B, K⟩).2.B (nlO ⟨nm, B, K⟩).2.K⟩)))
  | _, _ => .fail
theorem core140_ok (vals : List SV) (sh : SH) (R : LR) (h : (core140 vals sh).val = some R) : ∃ x R1, openL (inv140 x).1 = openL vals ∧ (inv140 x).2.opened = sh.opened ∧ res140 x = some R1 ∧ R1.e = R.e ∧ R1.ix = R.ix ∧ Opn (.tuple R1.v, R1.h) (.tuple R.v, R.h) ∧ mu140 x < 100000 := by
  unfold core140 at h
  split at h
  · rename_i o1 nm len B K
    obtain ⟨h1, h2⟩ := need_some h
    unfold okNl at h1
    obtain ⟨hx, rfl⟩ := @of_decide_eq_true _ (Classical.propDecidable _) h1
    refine ⟨⟨nm, B, K⟩, R, rfl, rfl, ?_, rfl, rfl, ⟨rfl, rfl⟩, by have := hx.ln; show nm.length < 100000; simp only at this; omega⟩
    rw [res140_of hx]
    simp only
    rcases node_some h2 with ⟨e, h2⟩ | ⟨e, h2⟩
    · rw [e, ← leaf_some h2]
      have e := of_decide_eq_true e
      subst e; rfl
    · rw [e]
      rcases node_some h2 with ⟨e2, h2⟩ | ⟨e2, h2⟩ <;> rw [← leaf_some h2] <;> unfold nlR <;> rw [e2] <;> rfl
  · cases h
theorem loop140_ok : LoopOk Tryz.prog 140 0 12 (liftL [0, 1] core140) := loop_at cP_ok Tryz.func140 (by kernel_rfl) core140_ok turn140
noncomputable def c140c : Cfg := cP.addL 140 0 12 (liftL [0, 1] core140)
theorem c140c_ok : CfgOk Tryz.prog c140c := cP_ok.addL loop140_ok
theorem w140_s2 (nm B : List UInt8) (K : Kn) (m : Nat) : DT.fol [y, n, y, y, y, a, y, a] (seC Tryz.prog c140c (m + 14) 140 [.ptr 0 0, .s true nm] (pkS 1 3 B K)) = some ([decide (List.length nm < 100000), !mayN nm, okNl nm B K (List.length B), decide (nm = [0]), decide (List.length B < 1048576), decide (0 = 0 ∧ List.length B = List.length B)], some (.i false .i64 0, pkS 3 4 (B ++ [0]) K)) := by kernel_rfl
theorem w140_s3 (nm B : List UInt8) (K : Kn) (m : Nat) : DT.fol [y, n, y, n, y] (seC Tryz.prog c140c (m + 14) 140 [.ptr 0 0, .s true nm] (pkS 1 3 B K)) = some ([decide (List.length nm < 100000), !mayN nm, okNl nm B K (List.length B), decide (nm = [0]), (nlO ⟨nm, B, K⟩).1], some (.i false .i64 0, pkS 3 4 (nlO ⟨nm, B, K⟩).2.B (nlO ⟨nm, B, K⟩).2.K)) := by kernel_rfl
theorem w140_s4 (nm B : List UInt8) (K : Kn) (m : Nat) : DT.fol [y, n, y, n, n, y, a, y, a] (seC Tryz.prog c140c (m + 14) 140 [.ptr 0 0, .s true nm] (pkS 1 3 B K)) = some ([decide (List.length nm < 100000), !mayN nm, okNl nm B K (List.length B), decide (nm = [0]), (nlO ⟨nm, B, K⟩).1, decide (List.length (nlO ⟨nm, B, K⟩).2.B < 1048576), decide (0 = 0 ∧ List.length (nlO ⟨nm, B, K⟩).2.B = List.length (nlO ⟨nm, B, K⟩).2.B)], some (.i false .i64 0, pkS 3 4 ((nlO ⟨nm, B, K⟩).2.B ++ [0]) (nlO ⟨nm, B, K⟩).2.K)) := by kernel_rfl
theorem np_nl {nm : List UInt8} (hv : Vn nm) : ∀ (f : Nat) (p : PK), nm.length ≤ f → npT f nm p = (match (nl f nm p).1 with | true => (nl f nm p).2 | false => ⟨(nl f nm p).2.B ++ [0], (nl f nm p).2.K⟩) ∧ (nl f nm p).2.B.length ≤ p.B.length + nm.length := by
  induction hv with
  | root =>
    intro f p hf
    cases f with
    | zero => cases hf
    | succ f => exact ⟨rfl, Nat.le_add_right ..⟩
  | @lab nm hs hv ih =>
    intro f p hf
    have hlt := lstep_len hs
    obtain ⟨s1, s2, s3, s4⟩ := lstep_iff hs
    have hll : (lrest nm).length + (1 + k0 nm) = nm.length := by unfold lrest; rw [List.length_drop]; omega
    cases f with
    | zero => omega
    | succ f =>
      have h0 : nm ≠ [0] := fun e => by rw [e] at hs; cases hs
      unfold npT nl
      rw [decide_eq_false h0]
      simp only
      cases slook p.K nm with
      | some v => exact ⟨rfl, by have := vn_pos hv; show (p.B ++ p16 _).length ≤ _; rw [List.length_append]; show p.B.length + 2 ≤ _; omega⟩
      | none =>
        simp only
        obtain ⟨h1, h2⟩ := ih f ⟨p.B ++ nm.take (1 + k0 nm), match decide (p.B.length < 16384) with | true => sput p.K nm p.B.length | false => p.K⟩ (by omega)
        refine ⟨h1, Nat.le_trans h2 ?_⟩
        show (p.B ++ nm.take (1 + k0 nm)).length + _ ≤ _
        rw [List.length_append, List.length_take]; omega
noncomputable def sp140 : Spec
  | [.ptr 0 0, .s _ nm], ⟨[(0, .row 266 [.tsl 1 1 0 len, .map 2] none), (1, .bytes 5 B), (2, .smap K)], 3⟩ => .need (mayN nm && okNl nm B K len) (.leaf (.i false .i64 0, pkS 3 4 (npF nm ⟨B, K⟩).B (npF nm ⟨B, K⟩).K))
  | _, _ => .fail
theorem sp140_ok : SpecOk Tryz.prog 140 15 sp140 := spec_ok c140c_ok fun m args sh r hr => by
  unfold sp140 at hr
  split at hr
  · rename_i o1 nm len B K
    obtain ⟨h1, hr2⟩ := need_some hr
    rw [Bool.and_eq_true] at h1
    obtain ⟨hm, hk⟩ := h1
    have hk' := hk
    unfold okNl at hk'
    obtain ⟨hx, rfl⟩ := @of_decide_eq_true _ (Classical.propDecidable _) hk'
    have hln := hx.ln
    have hlen := hx.len
    simp only at hln hlen
    obtain ⟨e1, e2⟩ := np_nl hx.vn nm.length ⟨B, K⟩ (Nat.le_refl _)
    have hnp : npF nm ⟨B, K⟩ = npT nm.length nm ⟨B, K⟩ := rfl
    have hl : nl nm.length nm ⟨B, K⟩ = nlO ⟨nm, B, K⟩ := rfl
    simp only at e1 e2
    rw [hl] at e1 e2
    rw [seC_open]
    show ∃ r1, (seC Tryz.prog c140c (m + 14) 140 [.ptr 0 0, .s true nm] (pkS 1 3 B K)).val = _ ∧ _
    rw [← leaf_some hr2, hnp, e1]
    have c0 : decide (List.length nm < 100000) = true := decide_eq_true (by omega)
    by_cases h0 : nm = [0]
    · refine ⟨_, fol_val (w140_s2 nm B K m) (by rw [c0, hm, hk, decide_eq_true h0, show decide (B.length < 1048576) = true from decide_eq_true (by omega), show decide (0 = 0 ∧ B.length = B.length) = true from decide_eq_true ⟨rfl, rfl⟩]; rfl), ?_⟩
      subst h0; exact ⟨rfl, rfl⟩
    · cases hb : (nlO ⟨nm, B, K⟩).1 with
      | true => exact ⟨_, fol_val (w140_s3 nm B K m) (by rw [c0, hm, hk, decide_eq_false h0, hb]; rfl), rfl, rfl⟩
      | false => exact ⟨_, fol_val (w140_s4 nm B K m) (by rw [c0, hm, hk, decide_eq_false h0, hb, show decide ((nlO ⟨nm, B, K⟩).2.B.length < 1048576) = true from decide_eq_true (by omega), show decide (0 = 0 ∧ (nlO ⟨nm, B, K⟩).2.B.length = (nlO ⟨nm, B, K⟩).2.B.length) = true from decide_eq_true ⟨rfl, rfl⟩]; rfl), rfl, rfl⟩
  · cases hr
noncomputable def cQn : Cfg := cP.addS 140 15 (lift sp140)
theorem cQn_ok : CfgOk Tryz.prog cQn := cP_ok.addS (lift_ok sp140_ok)
end Go.Proofs.YtgemonlknehegaaGreatDoor.AI
