/- The chain of TopRefuses, part 45. -/
import Derived.Test.YtgemonlknehegaaGreatDoorK44
namespace Go.Proofs.YtgemonlknehegaaGreatDoor.AI
open Go
set_option linter.unusedVariables false
set_option linter.unusedSimpArgs false
theorem u16_at {x : Nat} (h : x < 65536) (B Y : List UInt8) (i : Nat) (hi : B.length = i) : u16 (B ++ (p16 x ++ Y)) i = x := by
  subst hi; exact p16_u16 h B Y
theorem goodL_of {L : List Rc} (hg : goodL L = true) : ∀ r ∈ L, GoodQ r := fun r hr => by
  unfold goodL at hg
  rw [Bool.and_eq_true] at hg
  exact mayQr_good (List.all_eq_true.1 hg.2 r hr)
structure Rsp (s : List UInt8) (rc : Int) : Prop where
  ok : okM s = true
  rc : rcH s = rc
  len : s.length < 40000
  an : (oA s).2.1 = []
  ns : (oS s).2.1 = []
  ar : (oR s).2.1 = []
theorem put_back {h : HD} {L : List Rc} (hk : okH h = true) (hg : goodL L = true) (hl : L.length < 2000) (hs : (putB h L).length < 40000) : Rsp (putB h L) h.rc := by
  obtain ⟨i0, i1, _, _, c0, c1⟩ := of_decide_eq_true hk
  obtain ⟨x, hx, hx1, hx2, _⟩ := flV_nat hk
  have hw : IntKind.wrap .u16 (Int.ofNat L.length) = ((L.length : Nat) : Int) := by rw [wrap16 (by simp only [Int.ofNat_eq_natCast]; omega) (by simp only [Int.ofNat_eq_natCast]; omega)]; rfl
  have hB0 : hB h L = p16 h.id.toNat ++ p16 x ++ p16 L.length ++ p16 0 ++ p16 0 ++ p16 0 := by
    unfold hB
    rw [hx, hw]; rfl
  have hB12 : (hB h L).length = 12 := rfl
  obtain ⟨⟨X, hX⟩, _, hq⟩ := qs_ok L ⟨hB h L, []⟩ (goodL_of hg) (fun m v hm => by cases hm)
  have hS : putB h L = hB h L ++ X := hX
  have hq := hq [] []
  rw [List.append_nil] at hq
  have hq : qsT (putB h L) L.length 12 [] = some ([] ++ L, (((putB h L).length : Nat) : Int)) := hq
  have u2 : u16 (putB h L) 2 = x := by
    rw [hS, hB0]; simp only [List.append_assoc]
    exact u16_at hx1 (p16 h.id.toNat) _ 2 rfl
  have u4 : u16 (putB h L) 4 = L.length := by
    rw [hS, hB0]; simp only [List.append_assoc]
    have := u16_at (x := L.length) (by omega) (p16 h.id.toNat ++ p16 x) (p16 0 ++ (p16 0 ++ (p16 0 ++ X))) 4 rfl
    simpa only [List.append_assoc] using this
  have u6 : u16 (putB h L) 6 = 0 := by
    rw [hS, hB0]; simp only [List.append_assoc]
    have := u16_at (x := 0) (by decide) (p16 h.id.toNat ++ (p16 x ++ p16 L.length)) (p16 0 ++ (p16 0 ++ X)) 6 rfl
    simpa only [List.append_assoc] using this
  have u8 : u16 (putB h L) 8 = 0 := by
    rw [hS, hB0]; simp only [List.append_assoc]
    have := u16_at (x := 0) (by decide) (p16 h.id.toNat ++ (p16 x ++ (p16 L.length ++ p16 0))) (p16 0 ++ X) 8 rfl
    simpa only [List.append_assoc] using this
  have u10 : u16 (putB h L) 10 = 0 := by
    rw [hS, hB0]; simp only [List.append_assoc]
    have := u16_at (x := 0) (by decide) (p16 h.id.toNat ++ (p16 x ++ (p16 L.length ++ (p16 0 ++ p16 0)))) X 10 rfl
    simpa only [List.append_assoc] using this
  have oq : oQ (putB h L) = some (L, (((putB h L).length : Nat) : Int)) := by
    show qsT (putB h L) (cN (putB h L) 4).toNat 12 [] = _
    unfold cN
    rw [u4]
    exact hq
  have oa : oA (putB h L) = (0, [], (((putB h L).length : Nat) : Int)) := by
    show rsT (putB h L) (cN (putB h L) 6).toNat (oN (oQ (putB h L))) [] = _
    unfold cN
    rw [u6, oq]; rfl
  have os : oS (putB h L) = (0, [], (((putB h L).length : Nat) : Int)) := by
    show rsT (putB h L) (cN (putB h L) 8).toNat (oA (putB h L)).2.2 [] = _
    unfold cN
    rw [u8, oa]; rfl
  have or : oR (putB h L) = (0, [], (((putB h L).length : Nat) : Int)) := by
    show rsT (putB h L) (cN (putB h L) 10).toNat (oS (putB h L)).2.2 [] = _
    unfold cN
    rw [u10, os]; rfl
  have hlen : 12 ≤ (putB h L).length := by rw [hS, List.length_append, hB12]; omega
  refine ⟨?_, ?_, hs, by rw [oa], by rw [os], by rw [or]⟩
  · unfold okM
    rw [oq, oa, os, or, decide_eq_true hlen]
    simp
  · unfold rcH fl
    rw [u2]
    show IntKind.wrap .i64 (((x &&& 15 : Nat)) : Int) = h.rc
    have e : x &&& 15 = x % 16 := Nat.and_two_pow_sub_one_eq_mod x 4
    rw [e, hx2, Int.toNat_of_nonneg c0, wrap64 (by omega) (by omega)]
theorem rsp_ok {h : HD} {rc : Int} {L : List Rc} (hk : okH (rh h rc false) = true) (hg : goodL L = true) (hl : L.length < 2000) : Rsp (rspB h rc L) rc := by
  unfold rspB
  cases hp : decide ((putB (rh h rc false) L).length ≤ 512) with
  | true =>
    have hp' := of_decide_eq_true hp
    exact put_back (h := rh h rc false) hk hg hl (by omega)
  | false => exact put_back (h := rh h rc true) (L := []) (rh_ok false true hk) rfl (by decide) (by rw [putB_nil]; decide)
end Go.Proofs.YtgemonlknehegaaGreatDoor.AI
namespace Go.Proofs.YtgemonlknehegaaGreatDoor.AI
open Go
set_option linter.unusedVariables false
set_option maxRecDepth 100000
noncomputable section
def cf12 : List SV := [.i false .i64 2, .i false .i64 6, .i false .i64 1, .i false .i64 9, .i false .i64 9, .i false .i64 9, .i false .u32 3, .i false .i64 12, .i false .i64 2, .i false .u32 1000, .sl 0 0 1 (.known 1), .nil .s]
def hint : SO := .row 83 [.s false [], .i false .u32 1] none
def wrow (w n t q f k : Nat) : SO := .row 101 [.i false .i64 2, .i false .i64 6, .i false .i64 1, .i false .i64 9, .i false .i64 9, .i false .i64 9, .i false .u32 3, .i false .i64 12, .i false .i64 2, .i false .u32 1000, .sl 0 0 1 (.known 1), .nil .s, .i false .u64 0, .ptr w 0, .ptr n 0, .ptr t 0, .ptr q 0, .ptr f 0, .sl k 0 1 (.known 1), .nil .s, .nil .s, .i false .i64 0, .b false false] none
def parts11 (w n t q f k m : Nat) : List (Nat × SO) := [(w, wrow 2 n t q f k), (n, .row 135 [.nil .s, .i false .i64 256, .i false .i64 0, .i false .i64 0] none), (t, .row 138 [.i false .u32 1000, .i false .i64 256, .nil .s] none), (q, .row 140 [.nil .s, .i false .i64 9] none), (f, .row 143 [.map m, .i false .i64 9, .i false .i64 9] none), (k, .row 146 [.nil .p, .s false [], .i false .u16 0, .i false .u16 0, .b false false] none), (m, .map [] 0)]
def r11 (n : Nat) : Option (SV × SH) := (seFn Tryz.prog (Cfg.none.lp (n + 12)) (se Tryz.prog Cfg.none (n + 12)) 11 [.agg cf12] ⟨[(0, hint)], 1⟩).val
def h11 (n : Nat) : SH := match r11 n with | some r => r.2 | none => .empty
theorem r11_v (n : Nat) : r11 n = some (.ptr 122 0, h11 n) := by kernel_rfl
theorem h11_nm (n : Nat) : (h11 n).nm = 124 := by kernel_rfl
theorem h11_get (n : Nat) : (parts11 122 117 118 119 121 123 120).map (fun p => (h11 n).get p.1) = (parts11 122 117 118 119 121 123 120).map (fun p => some p.2) := by kernel_rfl
def sp11r : SV × SH := (.ptr 1 0, ⟨parts11 1 3 4 5 6 7 8, 9⟩)
theorem pull11 : pull [0, 122, 2, 117, 118, 119, 121, 123, 120] (.ptr 122 0, ⟨parts11 122 117 118 119 121 123 120, 124⟩) = some sp11r := by kernel_rfl
/-- closed values that are the same -/
def eqS1 : SV → SV → Bool
  | .i o k n, .i o' k' n' => (o == o') && (ikeq k k' && decide (n = n'))
  | .s o l, .s o' l' => (o == o') && decide (l = l')
  | .nil k, .nil k' => Nat.beq k.no k'.no
  | .sl x o l (.known c), .sl x' o' l' (.known c') => Nat.beq x x' && (Nat.beq o o' && (Nat.beq l l' && Nat.beq c c'))
  | _, _ => false
def eqSL : List SV → List SV → Bool
  | [], [] => true
  | a :: l, b :: m => eqS1 a b && eqSL l m
  | _, _ => false
theorem eqS1_eq {a b : SV} (h : eqS1 a b = true) : a = b := by
  unfold eqS1 at h
  split at h
  · rename_i o k n o' k' n'
    rw [Bool.and_eq_true, Bool.and_eq_true] at h
    have h1 : o = o' := by simpa using h.1
    have h2 : k = k' := by
      have := h.2.1
      cases k <;> cases k' <;> first | rfl | cases this
    rw [h1, h2, of_decide_eq_true h.2.2]
  · rename_i o l o' l'
    rw [Bool.and_eq_true] at h
    have h1 : o = o' := by simpa using h.1
    rw [h1, of_decide_eq_true h.2]
  · rename_i k k'
    cases k <;> cases k' <;> first | rfl | cases h
  · rename_i x o l c x' o' l' c'
    rw [Bool.and_eq_true, Bool.and_eq_true, Bool.and_eq_true] at h
    rw [beq_iff.1 h.1, beq_iff.1 h.2.1, beq_iff.1 h.2.2.1, beq_iff.1 h.2.2.2]
  · cases h
theorem eqSL_eq : ∀ {l m : List SV}, eqSL l m = true → l = m
  | [], [], _ => rfl
  | [], _ :: _, h => by cases h
  | _ :: _, [], h => by cases h
  | a :: l, b :: m, h => by
    have h' : (eqS1 a b && eqSL l m) = true := h
    rw [Bool.and_eq_true] at h'
    rw [eqS1_eq h'.1, eqSL_eq h'.2]
def sp11 : Spec
  | [.agg l], ⟨[(0, .row 83 c none)], 1⟩ => (match eqSL l cf12, eqSL c [.s false [], .i false .u32 1] with
    | true, true => .leaf sp11r
    | _, _ => .fail)
  | _, _ => .fail
theorem oget_mem : ∀ {l : List (Nat × SO)} {x : Nat} {o : SO}, oget l x = some o → (x, o) ∈ l
  | [], x, o, h => by cases h
  | p :: l, x, o, h => by
    have h' : (match Nat.beq p.1 x with | true => some p.2 | false => oget l x) = some o := h
    cases hb : Nat.beq p.1 x with
    | true => rw [hb] at h'; cases h'; rw [← beq_iff.1 hb]; exact List.mem_cons_self ..
    | false => rw [hb] at h'; exact List.mem_cons_of_mem _ (oget_mem h')
theorem wk_sub {v : SV} {sh : SH} {l : List (Nat × SO)} (h : l.map (fun p => sh.get p.1) = l.map (fun p => some p.2)) : Wk (v, sh) (v, ⟨l, sh.nm⟩) := by
  refine ⟨rfl, Nat.le_refl _, fun x o ho => ?_⟩
  have ho' : oget (openO l) x = some o := ho
  rw [oget_open] at ho'
  show oget (openO sh.objs) x = some o
  rw [oget_open]
  cases hx : oget l x with
  | none => rw [hx] at ho'; cases ho'
  | some o1 =>
    rw [hx] at ho'
    have hm := oget_mem hx
    have : ∀ (l : List (Nat × SO)), l.map (fun p => sh.get p.1) = l.map (fun p => some p.2) → ∀ p ∈ l, sh.get p.1 = some p.2 := fun l => by
      induction l with
      | nil => intro _ p hp; cases hp
      | cons q l ih =>
        intro he p hp
        rw [List.map_cons, List.map_cons] at he
        obtain ⟨e1, e2⟩ := List.cons.inj he
        rcases List.mem_cons.1 hp with rfl | hp
        · exact e1
        · exact ih e2 p hp
    have h2 : oget sh.objs x = some o1 := this l h _ hm
    rw [h2]; exact ho'
theorem good_wk {κ : Kp} {sh sh' : SH} {h : H} {v w : SV} {sw : SH} {rs : List VR} (e : Wk (v, sh') (w, sw)) (hg : Good κ sh h v sh' rs) : Good κ sh h w sw rs := ⟨hg.1, fun r hr => post_wk e (hg.2 r hr)⟩
theorem sp11_ok : SpecOk Tryz.prog 11 13 sp11 := by
  intro n hn args sh v sh' hv κ h vs st ha
  cases n with
  | zero => omega
  | succ n =>
    have hh : args = [.agg cf12] ∧ sh = ⟨[(0, hint)], 1⟩ ∧ sp11r = (v, sh') := by
      unfold sp11 at hv
      split at hv
      · split at hv
        · rename_i e1 e2
          rw [eqSL_eq e1, eqSL_eq e2]
          exact ⟨rfl, rfl, leaf_some hv⟩
        · cases hv
      · cases hv
    obtain ⟨rfl, rfl, h2⟩ := hh
    cases h2
    obtain ⟨m, rfl⟩ : ∃ m, n = m + 12 := ⟨n - 12, by omega⟩
    rw [run_call]
    have hg := seFn_ok (f := 11) (se_ok cfg_none (m + 12)) (fun fn c hf hb => lp_ok cfg_none hf hb) (show (seFn Tryz.prog (Cfg.none.lp (m + 12)) (se Tryz.prog Cfg.none (m + 12)) 11 [.agg cf12] ⟨[(0, hint)], 1⟩).val = some (.ptr 122 0, h11 m) from r11_v m) st ha
    have hw : Wk ((.ptr 122 0 : SV), h11 m) (.ptr 122 0, ⟨parts11 122 117 118 119 121 123 120, 124⟩) := by
      have := wk_sub (v := (.ptr 122 0 : SV)) (h11_get m)
      rw [h11_nm] at this; exact this
    exact good_pull st pull11 rfl rfl (good_wk hw hg)
end
end Go.Proofs.YtgemonlknehegaaGreatDoor.AI
