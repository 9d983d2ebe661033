/- FlightTold: the walk of the law: who waits is told at the end; a deed a round, over the contracts of the table. -/
import Derived.Test.YtbonaoopkfcabaaOwnAny
import Derived.StillTailTactics
namespace Go.Proofs.Ytbonaoopkfcabaa.Own
open Go.RowKit Go.Maps Go.Proofs.Ytbonaoopkfcabaa.OwnDeeds Go.Proofs.YtbonaoopkfcabaaW.PrintWords Go.Proofs.YtbonaoopkfcabaaW.PrintLast Go.Proofs.YtbonaoopkfcabaaW.PrintMore
set_option linter.unusedVariables false
theorem rnd1 {i n : Int} (h0 : 0 ≤ i) (hk : i < n) : 0 ≤ i + 1 ∧ i + 1 ≤ n := by omega
theorem rnd1_m {i : Int} {n : Nat} (h0 : 0 ≤ i) (hk : i < (n : Int)) : n - (intOf (Value.int .i64 (i + 1))).toNat < n - (intOf (Value.int .i64 i)).toNat := by
  simp [intOf]
  omega
/-- what the law keeps of one key's flight -/
def Kept (L : List Fl) (k : Int) (ld : Bool) (n : Int) (ws : List Int) : Prop := match findK L k with
  | none => ld = false ∧ n = 0 ∧ ws = []
  | some f => ld = true ∧ n = f.lead ∧ ws = f.ws
theorem Kept.none_ {L : List Fl} {k n : Int} {ld : Bool} {ws : List Int} (h : Kept L k ld n ws) (hf : findK L k = none) : ld = false ∧ n = 0 ∧ ws = [] := by unfold Kept at h; rwa [hf] at h
theorem Kept.some_ {L : List Fl} {k n : Int} {ld : Bool} {ws : List Int} {f : Fl} (h : Kept L k ld n ws) (hf : findK L k = some f) : ld = true ∧ n = f.lead ∧ ws = f.ws := by unfold Kept at h; rwa [hf] at h
theorem Kept.same {L L' : List Fl} {k n : Int} {ld : Bool} {ws : List Int} (h : Kept L k ld n ws) (hf : findK L' k = findK L k) : Kept L' k ld n ws := by unfold Kept at h ⊢; rwa [hf]
theorem Kept.mk_ {L : List Fl} {k n : Int} {ws : List Int} {f : Fl} (hf : findK L k = some f) (hn : n = f.lead) (hw : ws = f.ws) : Kept L k true n ws := by unfold Kept; rw [hf]; exact ⟨rfl, hn, hw⟩
theorem find_upd1 {L : List Fl} {k : Int} {f : Fl} (h : findK L k = some f) (ws : List Int) (v : Value) : findK (upd L k ws v) k = some { f with ws := ws, v := v } := by
  rw [findK_upd, h]
  have := (findK_mem h).2
  rw [Option.map_some, if_pos this]
/-- a row that is none of the table's stands through a turn -/
theorem row_turn {w w1 : World} {S : Nat → Prop} {base n : Nat} {v : Value} {xs : List Value} (t : Turn w w1 S) (h : w.ownsRow base 3 1 v n xs) (hS : ∀ b, v.ownBlock = some b → ¬ S b) : w1.ownsRow base 3 1 v n xs ∧ ∀ b, v.ownBlock = some b → ¬ grow S w w1 b := by
  refine ⟨row_kept h (fun b hb => t.block b (row_lt h b hb) (hS b hb)), fun b hb hg => ?_⟩
  have := row_lt h b hb
  rcases hg with hg | hg
  · exact hS b hb hg
  · omega
theorem row_bel {w w1 : World} {base n : Nat} {v : Value} {xs : List Value} (t : Below w.heap.size w w1) (h : w.ownsRow base 3 1 v n xs) : w1.ownsRow base 3 1 v n xs := row_kept h (fun b hb => t.block b (row_lt h b hb))
theorem tab_lt {w : World} {S : Nat → Prop} {g mb : Nat} {most queue : Int} {L : List Fl} (h : Tab w S g mb most queue L) : Tab w (fun b => S b ∧ b < w.heap.size) g mb most queue L := by
  obtain ⟨D, d1, d2, d3⟩ := h.map
  exact ⟨h.head, ⟨h.gS, heap_lt h.head⟩, ⟨h.mS, d1.lt⟩, ⟨D, d1, d2, d3⟩, fun f hf => by
    have F := h.fl f hf
    exact ⟨F.blk, ⟨F.mine, heap_lt F.blk⟩, F.row, fun b hb => ⟨F.rowMine b hb, row_lt F.row b hb⟩⟩, h.apart, h.keys⟩
/-- all that the law keeps between two rounds, but for what it knows of one key -/
structure Held (w wr : World) (g mb : Nat) (most queue : Int) (L : List Fl) (S : Nat → Prop) (v : Value) (ws : List Int) : Prop where
  tab : Tab wr S g mb most queue L
  fits : Fits most queue L
  new : ∀ b, S b → w.heap.size ≤ b
  bel : Below w.heap.size w wr
  row : wr.ownsRow w.heap.size 3 1 v ws.length (ws.map (Value.int .i64))
  far : ∀ b, v.ownBlock = some b → ¬ S b
/-- all that the law keeps between two rounds -/
structure Keeps (w wr : World) (g mb : Nat) (most queue : Int) (L : List Fl) (S : Nat → Prop) (v : Value) (k : Int) (ld : Bool) (n : Int) (ws : List Int) : Prop extends Held w wr g mb most queue L S v ws where
  kept : Kept L k ld n ws
section
variable {w wr w2 : World} {g mb : Nat} {most queue : Int} {L L' : List Fl} {S : Nat → Prop} {v : Value} {k j : Int} {ld : Bool} {n : Int} {ws : List Int}
theorem Held.drew (h : Held w wr g mb most queue L S v ws) (m : Nat) : Held w (wr.drewN m) g mb most queue L S v ws :=
  ⟨h.tab.drewN m, h.fits, h.new, ⟨h.bel.os, h.bel.tape, h.bel.output, h.bel.size, h.bel.block⟩, h.row, h.far⟩
theorem Held.below (h : Held w wr g mb most queue L S v ws) (hb : Below wr.heap.size wr w2) : Held w w2 g mb most queue L S v ws :=
  ⟨h.tab.below hb, h.fits, h.new, below_step h.bel hb, row_bel hb h.row, h.far⟩
theorem Held.turn (h : Held w wr g mb most queue L S v ws) (T : Tab w2 (grow S wr w2) g mb most queue L') (t : Turn wr w2 S) (hF : Fits most queue L') : Held w w2 g mb most queue L' (grow S wr w2) v ws := by
  obtain ⟨r1, r2⟩ := row_turn t h.row h.far
  exact ⟨T, hF, grow_ge h.new h.bel.size w2, t.below h.bel h.new, r1, r2⟩
theorem Keeps.drew (h : Keeps w wr g mb most queue L S v k ld n ws) (m : Nat) : Keeps w (wr.drewN m) g mb most queue L S v k ld n ws := ⟨h.toHeld.drew m, h.kept⟩
theorem Keeps.below (h : Keeps w wr g mb most queue L S v k ld n ws) (hb : Below wr.heap.size wr w2) : Keeps w w2 g mb most queue L S v k ld n ws := ⟨h.toHeld.below hb, h.kept⟩
theorem Keeps.turn (h : Keeps w wr g mb most queue L S v k ld n ws) (T : Tab w2 (grow S wr w2) g mb most queue L') (t : Turn wr w2 S) (hF : Fits most queue L') {ld' : Bool} {n' : Int} (hk : Kept L' k ld' n' ws) : Keeps w w2 g mb most queue L' (grow S wr w2) v k ld' n' ws := ⟨h.toHeld.turn T t hF, hk⟩
theorem Keeps.did (h : Keeps w wr g mb most queue L S v k ld n ws) (d : Did wr w2 S g mb most queue j L) (hj : j ≠ k) : ∃ L2, Keeps w w2 g mb most queue L2 (grow S wr w2) v k ld n ws := by
  obtain ⟨L2, T, t, hF, hO⟩ := d
  exact ⟨L2, h.turn T t hF (h.kept.same (hO k (fun e => hj e.symm)))⟩
/-- another row of who waits -/
theorem Held.row_ {ws' : List Int} {v' : Value} (h : Held w wr g mb most queue L S v ws) (hb : Below wr.heap.size wr w2) (hr : w2.ownsRow wr.heap.size 3 1 v' ws'.length (ws'.map (Value.int .i64))) (hk : Kept L k ld n ws') : Keeps w w2 g mb most queue L (fun b => S b ∧ b < wr.heap.size) v' k ld n ws' := by
  have hT := (tab_lt h.tab).below hb
  refine ⟨⟨hT, h.fits, fun b hb' => h.new b hb'.1, below_step h.bel hb, ?_, fun b hb' hS => ?_⟩, hk⟩
  · obtain ⟨r1, r2⟩ := hr
    refine ⟨r1, ?_⟩
    rcases r2 with r2 | ⟨g', cap, cur, rfl, hg', hh, r⟩
    · exact .inl r2
    · exact .inr ⟨g', cap, cur, rfl, Nat.le_trans h.bel.size hg', hh, r⟩
  · have := (hr.lt b hb').1
    have := hS.2
    omega
theorem Keeps.small (h : Keeps w wr g mb most queue L S v k ld n ws) (hq : queue ≤ 1000000) (hq0 : 0 ≤ queue) : ws.length ≤ 1000000 := by
  cases hf : findK L k with
  | none => rw [(h.kept.none_ hf).2.2]; simp
  | some f => rw [(h.kept.some_ hf).2.2]; exact wks (h.fits.q f (findK_mem hf).1) hq
/-- a number is appended to the law's own row -/
theorem Held.more {o : Obj} {x : Int} {v' : Value} (h : Held w wr g mb most queue L S v ws) (hr : w2.ownsRow w.heap.size 3 1 v' (ws.length + 1) (ws.map (Value.int .i64) ++ [.int .i64 x])) (hg : (wr.alloc o).grownBy w2 v.ownBlock)
    (hat : v'.ownBlock = v.ownBlock ∨ v'.ownBlock = some (wr.alloc o).heap.size) (hk : Kept L k ld n (ws ++ [x])) : Keeps w w2 g mb most queue L (fun b => S b ∧ b < wr.heap.size) v' k ld n (ws ++ [x]) := by
  have hz : (wr.alloc o).heap.size = wr.heap.size + 1 := by rw [al, Array.size_push]
  have keep : ∀ b, b < wr.heap.size → v.ownBlock ≠ some b → w2.heap[b]? = wr.heap[b]? := fun b hb hne => grown_keep hg hb (fun e => hne e.symm)
  have T : Tab w2 (fun b => S b ∧ b < wr.heap.size) g mb most queue L := (tab_lt h.tab).step (fun b hb hlt => keep b hlt (fun e => h.far b e hb.1))
  refine ⟨⟨T, h.fits, fun b hb => h.new b hb.1, ⟨hg.os.trans h.bel.os, hg.tape.trans h.bel.tape, hg.output.trans h.bel.output, ?_, fun i hi => ?_⟩, ?_, fun b hb hS => ?_⟩, hk⟩
  · have := hg.size
    have := h.bel.size
    omega
  · refine (keep i (Nat.lt_of_lt_of_le hi h.bel.size) (fun e => ?_)).trans (h.bel.block i hi)
    have := (h.row.lt i e).1
    omega
  · simpa using hr
  · rcases hat with e | e
    · exact h.far b (e ▸ hb) hS.1
    · rw [e, hz] at hb
      injection hb with hb
      have := hS.2
      omega
end
set_option maxRecDepth 100000 in
set_option maxHeartbeats 16000000 in
theorem told_walk (A : Option Addr) (c : Nat) (l : List Dd) (k : Int) (w : World) (hk : (Lit.int .i64 k).wf = true) (hC : Kd.C kD w A l.length l) (hl : l.length ≤ c) (hN : ∀ x ∈ l, Nums x) :
    Calls Try.prog 3 #[.slice A l.length c, .int .i64 k] w fun e w1 => e = .returned (.bool true) ∧ Below w.heap.size w w1 := by
  have HC := Aside0.mk hC
  have HNN := Aside0.mk hN
  have HLC := Aside0.mk hl
  have HW0 := Aside0.mk hk
  clear hC hN hl hk
  go_enter Try.func3, Try.ntmps3
  go_wp2_with (first | (go_at_call 8; refine (shown_calls _).mono ?_; rintro e w0 ⟨rfl, hb0⟩) | (go_at_call 9; (with_reducible refine (new_at _ _ ?side1 ?side2 _).mono ?_); (case side1 => decide); (case side2 => decide); rintro e w1 ⟨g, mb, rfl, h1, hb1⟩) | go_in)
  have HS := Aside0.mk (show Keeps w w1 g mb 20 100 [] (fun b => w0.heap.size ≤ b ∧ b < w1.heap.size) (.slice none 0 0) k false 0 [] from ⟨⟨h1, Fits.nil (by decide), fun b hb => Nat.le_trans hb0.size hb.1, below_step hb0 hb1, ⟨by simp, .inl ⟨rfl, rfl⟩⟩, fun b hb => by simp [Value.ownBlock] at hb⟩, ⟨rfl, rfl, rfl⟩⟩)
  clear hb0 hb1 h1
  go_loopw [7, 8, 9, 10] (fun v1 v2 v3 v4 wr => ∃ (i : Int) (L : List Fl) (S : Nat → Prop) (ld : Bool) (n : Int) (ws : List Int) (B : Option Addr) (cB : Nat), v4 = .int .i64 i ∧ v2 = .bool ld ∧ v3 = .int .i64 n ∧ v1 = .slice B ws.length cB ∧ Aside0 (0 ≤ i ∧ i ≤ (l.length : Int)) ∧ Aside0 (Keeps w wr g mb 20 100 L S (.slice B ws.length cB) k ld n ws)) (fun _ _ _ v4 _ => l.length - (intOf v4).toNat)
  case atStart =>
    exact ⟨0, [], _, false, 0, [], none, 0, rfl, rfl, rfl, rfl, ⟨⟨Int.le_refl _, by omega⟩⟩, HS⟩
  case round =>
    clear HS
    obtain ⟨i, L, S, ld, n, ws, B, cB, rfl, rfl, rfl, rfl, HK, HS⟩ := hrel
    by_cases hk : i < (l.length : Int)
    · by_cases hk2 : i < 60
      · have h0 : 0 ≤ i := HK.out.1
        obtain ⟨ad, e0, c0, c1, c2⟩ := at_D HC.out i h0 hk
        cases e0
        have C1 := Aside0.mk c1
        have C2 := Aside0.mk c2
        replace c0 := (HS.out.bel.cell (World.block_lt_of_cell? w _ c0)).trans c0
        replace c1 := (HS.out.bel.cell (World.block_lt_of_cell? w _ c1)).trans c1
        replace c2 := (HS.out.bel.cell (World.block_lt_of_cell? w _ c2)).trans c2
        obtain ⟨d, hd⟩ : ∃ d, rdD l i = d := ⟨_, rfl⟩
        have HW := Aside0.mk ((HNN.out _ (rdD_at h0 hk)).k)
        rw [hd] at c0 c1 c2 HW C1 C2
        clear hd
        have hcap := HLC.out
        by_cases hz : d.kind = 0
        · rw [hz] at c0
          clear hz
          by_cases hdk : d.k = k
          · rw [hdk] at c1 C1
            clear hdk
            cases hf : findK L k with
            | none =>
              have HFK := Aside0.mk hf
              clear hf
              by_cases hr : (L.length : Int) < 20
              · skip
                have hJ := fun (w' : World) (hw : Tab w' S g mb 20 100 L) => join_leads hw (who := d.who) HW0.out HFK.out hr (wks HS.out.fits.n (by decide))
                go_wp2
                go_still_tail 11, (by kernel_rfl)
                go_wp2_with (first | (go_at_call 10; refine (hJ _ ?side1).mono ?_; (case side1 => exact HS.out.tab.step (fun _ _ _ => rfl)); clear hJ; rintro e w2 ⟨rfl, b2, T2, t2⟩; have HS2 := Aside0.mk (Keeps.turn (by exact HS.out.drew _) T2 t2 (HS.out.fits.add hr (by simp)) (ld' := true) (n' := d.who) (Kept.mk_ (f := ⟨k, d.who, [], b2, .slice none 0 0⟩) (by rw [findK_snoc, HFK.out]; simp) rfl (HS.out.kept.none_ HFK.out).2.2)); clear T2 t2; have c1' := (HS2.out.bel.cell (World.block_lt_of_cell? w _ C1.out)).trans C1.out; have c2' := (HS2.out.bel.cell (World.block_lt_of_cell? w _ C2.out)).trans C2.out))
                exact ⟨⟨i + 1, _, _, _, _, _, _, _, rfl, rfl, rfl, rfl, ⟨rnd1 h0 hk⟩, HS2⟩, rnd1_m h0 hk⟩
              · skip
                have hJ := fun (w' : World) (hw : Tab w' S g mb 20 100 L) => join_over hw (who := d.who) HW0.out HFK.out hr
                go_wp2
                go_still_tail 11, (by kernel_rfl)
                go_wp2_with (first | (go_at_call 10; refine (hJ _ ?side1).mono ?_; (case side1 => exact HS.out.tab.step (fun _ _ _ => rfl)); clear hJ; rintro e w2 ⟨rfl, hb2⟩; have HS2 := Aside0.mk (Keeps.below (by exact HS.out.drew _) hb2); have c1' := (HS2.out.bel.cell (World.block_lt_of_cell? w _ C1.out)).trans C1.out; have c2' := (HS2.out.bel.cell (World.block_lt_of_cell? w _ C2.out)).trans C2.out))
                exact ⟨⟨i + 1, _, _, _, _, _, _, _, rfl, rfl, rfl, rfl, ⟨rnd1 h0 hk⟩, HS2⟩, rnd1_m h0 hk⟩
            | some f =>
              have HFK := Aside0.mk hf
              clear hf
              have hfq := HS.out.fits.q _ (findK_mem HFK.out).1
              by_cases hr : (f.ws.length : Int) < 100
              · skip
                have hJ := fun (w' : World) (hw : Tab w' S g mb 20 100 L) => join_waits hw (who := d.who) HW0.out HFK.out hr (wks (HS.out.fits.q f (findK_mem HFK.out).1) (by decide))
                obtain ⟨i3, i3a, i3b, i3c, i3d⟩ := info3
                obtain ⟨hkl, hkn, hkw⟩ := HS.out.kept.some_ HFK.out
                subst hkl
                have HKN := Aside0.mk hkn
                have HKW := Aside0.mk hkw
                clear hkn hkw
                go_wp2
                go_still_tail 11, (by kernel_rfl)
                go_wp2_with (first | (go_at_call 10; refine (hJ _ ?side1).mono ?_; (case side1 => exact HS.out.tab.step (fun _ _ _ => rfl)); clear hJ; rintro e w2 ⟨rfl, v2, T2, t2⟩; have hs2 := row_turn t2 (by exact HS.out.row) HS.out.far; have hR3 := hs2.1; have HSV := Aside0.mk hs2.2; clear hs2; have HT2 := Aside0.mk T2; have HB2 := Aside0.mk (t2.below (show Below w.heap.size w _ from (HS.out.drew _).bel) HS.out.new); have hwsl : ws.length ≤ 100 := (by rw [HKW.out]; have := HS.out.fits.q f (findK_mem HFK.out).1; omega); have hsz3 : w.heap.size ≤ w2.heap.size := HB2.out.size; have HG2 := Aside0.mk (grow_ge HS.out.new (show w.heap.size ≤ wr.heap.size from HS.out.bel.size) w2); clear T2 t2; have c1' := (HB2.out.cell (World.block_lt_of_cell? w _ C1.out)).trans C1.out; have c2' := (HB2.out.cell (World.block_lt_of_cell? w _ C2.out)).trans C2.out) | (at_builtin; refine wpList_append_own_at _ rfl _ _ 26 rfl w.heap.size 3 i3 (.int .i64 0) 1 8 Try.underlying26 i3a i3b i3c i3d rfl (by decide) (.slice B ws.length cB) ws.length (ws.map (Value.int .i64)) rfl (hR3.alloc _) ⟨_, 0, none⟩ 1 1 [.int .i64 d.who] rfl rfl (cell_one_new _ _ _) (by intro u hu; rw [List.mem_singleton.1 hu]; rfl) (by unfold maxLen; omega) (by omega) (by rw [al, Array.size_push]; omega) ?_; intro v3 w3 hown3 hgrow3 hnil3 hat3; obtain ⟨B3, cB3, rfl⟩ := row_shape hown3))
                have HH3 : Held w w2 g mb 20 100 (upd L k (f.ws ++ [d.who]) v2) (grow S (wr.drewN _) w2) (.slice B ws.length cB) ws := ⟨HT2.out, HS.out.fits.upd (by rw [List.length_append, List.length_singleton]; omega), HG2.out, HB2.out, hR3, HSV.out⟩
                have HS3 := HH3.more (x := d.who) (by simpa using hown3) hgrow3 hat3 (Kept.mk_ (find_upd1 HFK.out _ _) HKN.out (by rw [HKW.out]))
                have e3 : ws.length + 1 = (ws ++ [d.who]).length := by simp
                rw [e3] at HS3
                exact ⟨⟨i + 1, _, _, _, _, _, _, _, rfl, rfl, rfl, by rw [e3], ⟨rnd1 h0 hk⟩, ⟨HS3⟩⟩, rnd1_m h0 hk⟩
              · skip
                have hJ := fun (w' : World) (hw : Tab w' S g mb 20 100 L) => join_full hw (who := d.who) HW0.out HFK.out hr
                go_wp2
                go_still_tail 11, (by kernel_rfl)
                go_wp2_with (first | (go_at_call 10; refine (hJ _ ?side1).mono ?_; (case side1 => exact HS.out.tab.step (fun _ _ _ => rfl)); clear hJ; rintro e w2 ⟨rfl, hb2⟩; have HS2 := Aside0.mk (Keeps.below (by exact HS.out.drew _) hb2); have c1' := (HS2.out.bel.cell (World.block_lt_of_cell? w _ C1.out)).trans C1.out; have c2' := (HS2.out.bel.cell (World.block_lt_of_cell? w _ C2.out)).trans C2.out))
                exact ⟨⟨i + 1, _, _, _, _, _, _, _, rfl, rfl, rfl, rfl, ⟨rnd1 h0 hk⟩, HS2⟩, rnd1_m h0 hk⟩
          · have hdb : decide (d.k = k) = false := decide_eq_false hdk
            have hJ := fun (w' : World) (hw : Tab w' S g mb 20 100 L) => join_any (who := d.who) hw HS.out.fits HW.out (by decide) (by decide) (by decide)
            go_wp2
            go_still_tail 11, (by kernel_rfl)
            go_wp2_with (first | (go_at_call 10; refine (hJ _ ?side1).mono ?_; (case side1 => exact HS.out.tab.step (fun _ _ _ => rfl)); clear hJ; rintro e w2 ⟨r, rfl, hd2⟩; obtain ⟨L2, h2⟩ := (Keeps.did (by exact HS.out.drew _) hd2 hdk); have HS2 := Aside0.mk h2; clear h2 hd2; have c1' := (HS2.out.bel.cell (World.block_lt_of_cell? w _ C1.out)).trans C1.out; have c2' := (HS2.out.bel.cell (World.block_lt_of_cell? w _ C2.out)).trans C2.out))
            exact ⟨⟨i + 1, _, _, _, _, _, _, _, rfl, rfl, rfl, rfl, ⟨rnd1 h0 hk⟩, HS2⟩, rnd1_m h0 hk⟩
        · by_cases hz1 : d.kind = 1
          · rw [hz1] at c0
            clear hz hz1
            by_cases hdk : d.k = k
            · rw [hdk] at c1 C1
              clear hdk
              cases hf : findK L k with
              | none =>
                have HFK := Aside0.mk hf
                clear hf
                have hJ := fun (w' : World) (hw : Tab w' S g mb 20 100 L) => leave_none hw (who := d.who) HW0.out HFK.out
                go_wp2
                go_still_tail 11, (by kernel_rfl)
                go_wp2_with (first | (go_at_call 11; refine (hJ _ ?side1).mono ?_; (case side1 => exact HS.out.tab.step (fun _ _ _ => rfl)); clear hJ; rintro e w2 ⟨rfl, hw2⟩; have HS2 := Aside0.mk (show Keeps w w2 g mb 20 100 L S (.slice B ws.length cB) k ld n ws by rw [hw2]; exact HS.out.drew _); clear hw2; have c1' := (HS2.out.bel.cell (World.block_lt_of_cell? w _ C1.out)).trans C1.out; have c2' := (HS2.out.bel.cell (World.block_lt_of_cell? w _ C2.out)).trans C2.out))
                exact ⟨⟨i + 1, _, _, _, _, _, _, _, rfl, rfl, rfl, rfl, ⟨rnd1 h0 hk⟩, HS2⟩, rnd1_m h0 hk⟩
              | some f =>
                have HFK := Aside0.mk hf
                clear hf
                have hfq := HS.out.fits.q _ (findK_mem HFK.out).1
                by_cases hm : d.who ∈ f.ws
                · skip
                  have hJ := fun (w' : World) (hw : Tab w' S g mb 20 100 L) => leave_some hw (who := d.who) HW0.out HFK.out hm (wks (HS.out.fits.q f (findK_mem HFK.out).1) (by decide))
                  obtain ⟨hkl, hkn, hkw⟩ := HS.out.kept.some_ HFK.out
                  subst hkl
                  have HKN := Aside0.mk hkn
                  have HKW := Aside0.mk hkw
                  clear hkn hkw
                  have HWS := Aside0.mk (HS.out.small (by decide) (by decide))
                  go_wp2
                  go_still_tail 11, (by kernel_rfl)
                  go_wp2_with (first | (go_at_call 11; refine (hJ _ ?side1).mono ?_; (case side1 => exact HS.out.tab.step (fun _ _ _ => rfl)); clear hJ; rintro e w2 ⟨rfl, v2, T2, t2⟩; have hs2 := row_turn t2 (by exact HS.out.row) HS.out.far; have HR3 := Aside0.mk hs2.1; have HSV := Aside0.mk hs2.2; clear hs2; have HT2 := Aside0.mk T2; have HB2 := Aside0.mk (t2.below (show Below w.heap.size w _ from (HS.out.drew _).bel) HS.out.new); have HG2 := Aside0.mk (grow_ge HS.out.new (show w.heap.size ≤ wr.heap.size from HS.out.bel.size) w2); clear T2 t2; have c1' := (HB2.out.cell (World.block_lt_of_cell? w _ C1.out)).trans C1.out; have c2' := (HB2.out.cell (World.block_lt_of_cell? w _ C2.out)).trans C2.out) | (go_at_call 12; obtain ⟨A5, c5, e5, hc5, hC5⟩ := row_C HR3.out; obtain ⟨rfl, rfl⟩ : B = A5 ∧ cB = c5 := (by injection e5 with e6 _ e7; exact ⟨e6, e7⟩); clear e5; refine (without_row HWS.out d.who hC5 hc5).mono ?_; rintro e w3 ⟨v3, rfl, hr3, hb3⟩; obtain ⟨B3, cB3, rfl⟩ := row_shape hr3))
                  have HH3 : Held w w2 g mb 20 100 (upd L k (f.ws.erase d.who) v2) (grow S (wr.drewN _) w2) (.slice B ws.length cB) ws := ⟨HT2.out, HS.out.fits.upd (by have := List.length_erase_le (a := d.who) (l := f.ws); omega), HG2.out, HB2.out, HR3.out, HSV.out⟩
                  have HS3 := HH3.row_ hb3 hr3 (Kept.mk_ (find_upd1 HFK.out _ _) HKN.out (by rw [HKW.out]))
                  exact ⟨⟨i + 1, _, _, _, _, _, _, _, rfl, rfl, rfl, rfl, ⟨rnd1 h0 hk⟩, ⟨HS3⟩⟩, rnd1_m h0 hk⟩
                · skip
                  have hJ := fun (w' : World) (hw : Tab w' S g mb 20 100 L) => leave_not hw (who := d.who) HW0.out HFK.out hm (wks (HS.out.fits.q f (findK_mem HFK.out).1) (by decide))
                  go_wp2
                  go_still_tail 11, (by kernel_rfl)
                  go_wp2_with (first | (go_at_call 11; refine (hJ _ ?side1).mono ?_; (case side1 => exact HS.out.tab.step (fun _ _ _ => rfl)); clear hJ; rintro e w2 ⟨rfl, hb2⟩; have HS2 := Aside0.mk (Keeps.below (by exact HS.out.drew _) hb2); have c1' := (HS2.out.bel.cell (World.block_lt_of_cell? w _ C1.out)).trans C1.out; have c2' := (HS2.out.bel.cell (World.block_lt_of_cell? w _ C2.out)).trans C2.out))
                  exact ⟨⟨i + 1, _, _, _, _, _, _, _, rfl, rfl, rfl, rfl, ⟨rnd1 h0 hk⟩, HS2⟩, rnd1_m h0 hk⟩
            · have hdb : decide (d.k = k) = false := decide_eq_false hdk
              have hJ := fun (w' : World) (hw : Tab w' S g mb 20 100 L) => leave_any (who := d.who) hw HS.out.fits HW.out (by decide)
              go_wp2
              go_still_tail 11, (by kernel_rfl)
              go_wp2_with (first | (go_at_call 11; refine (hJ _ ?side1).mono ?_; (case side1 => exact HS.out.tab.step (fun _ _ _ => rfl)); clear hJ; rintro e w2 ⟨r, rfl, hd2⟩; obtain ⟨L2, h2⟩ := (Keeps.did (by exact HS.out.drew _) hd2 hdk); have HS2 := Aside0.mk h2; clear h2 hd2; have c1' := (HS2.out.bel.cell (World.block_lt_of_cell? w _ C1.out)).trans C1.out; have c2' := (HS2.out.bel.cell (World.block_lt_of_cell? w _ C2.out)).trans C2.out))
              exact ⟨⟨i + 1, _, _, _, _, _, _, _, rfl, rfl, rfl, rfl, ⟨rnd1 h0 hk⟩, HS2⟩, rnd1_m h0 hk⟩
          · have hz0b : decide (d.kind = 0) = false := decide_eq_false hz
            have hz1b : decide (d.kind = 1) = false := decide_eq_false hz1
            by_cases hdk : d.k = k
            · rw [hdk] at c1 C1
              clear hdk
              go_wp2
              exact ⟨⟨i + 1, _, _, _, _, _, _, _, rfl, rfl, rfl, rfl, ⟨rnd1 h0 hk⟩, HS⟩, rnd1_m h0 hk⟩
            · have hdb : decide (d.k = k) = false := decide_eq_false hdk
              have hJ := fun (w' : World) (hw : Tab w' S g mb 20 100 L) => end_any hw HS.out.fits HW.out
              go_wp2_with (first | (go_at_call 13; refine (hJ _ ?side1).mono ?_; (case side1 => exact HS.out.tab.step (fun _ _ _ => rfl)); clear hJ; rintro e w2 ⟨x1, x2, x3, rfl, hd2⟩; obtain ⟨L2, h2⟩ := (Keeps.did (by exact HS.out) hd2 hdk); have HS2 := Aside0.mk h2; clear h2 hd2; have c1' := (HS2.out.bel.cell (World.block_lt_of_cell? w _ C1.out)).trans C1.out; have c2' := (HS2.out.bel.cell (World.block_lt_of_cell? w _ C2.out)).trans C2.out))
              exact ⟨⟨i + 1, _, _, _, _, _, _, _, rfl, rfl, rfl, rfl, ⟨rnd1 h0 hk⟩, HS2⟩, rnd1_m h0 hk⟩
      · skip
        have HWS := Aside0.mk (HS.out.small (by decide) (by decide))
        cases hf : findK L k with
        | none =>
          have HFK := Aside0.mk hf
          clear hf
          obtain ⟨rfl, rfl, rfl⟩ := HS.out.kept.none_ HFK.out
          go_wp2_with (first | (go_at_call 13; refine (end_none HS.out.tab HW0.out HFK.out).mono ?_; rintro e w2 ⟨rfl, rfl⟩) | (go_at_call 14; obtain ⟨A5, c5, e5, hc5, hC5⟩ := row_C HS.out.row; obtain ⟨rfl, rfl⟩ : B = A5 ∧ cB = c5 := (by injection e5 with e6 _ e7; exact ⟨e6, e7⟩); clear e5; refine (ints_same (xs := []) (by decide) (Kd.R_reads' (Kd.R_nil _ 3 _ 0 (fun _ => True))).2.2 (Nat.le_refl _) hC5 hc5).mono ?_; rintro e w4 ⟨rfl, m4, rfl⟩))
          go_ret
          exact ⟨rfl, (HS.out.drew _).bel⟩
        | some f =>
          have HFK := Aside0.mk hf
          clear hf
          obtain ⟨rfl, rfl, rfl⟩ := HS.out.kept.some_ HFK.out
          go_wp2_with (first | (go_at_call 13; refine (end_some HS.out.tab HW0.out HFK.out).mono ?_; rintro e w2 ⟨rfl, T2, F2, t2⟩; obtain ⟨A6, c6, e6, hc6, hC6⟩ := row_C F2.row; rw [e6]; clear e6; have HC6 := Aside0.mk hC6; have HC7 := Aside0.mk hc6; have HT2 := Aside0.mk T2; have HB2 := Aside0.mk (t2.below HS.out.bel HS.out.new); have HR2 := Aside0.mk (row_turn t2 HS.out.row HS.out.far).1; clear T2 F2 t2 hC6 hc6) | (go_at_call 13; refine (end_none HT2.out HW0.out (by rw [findK_drop, if_pos rfl])).mono ?_; rintro e w3 ⟨rfl, rfl⟩) | (go_at_call 14; obtain ⟨A5, c5, e5, hc5, hC5⟩ := row_C HR2.out; obtain ⟨rfl, rfl⟩ : B = A5 ∧ cB = c5 := (by injection e5 with e6 _ e7; exact ⟨e6, e7⟩); clear e5; refine (ints_same HWS.out HC6.out HC7.out hC5 hc5).mono ?_; rintro e w4 ⟨rfl, m4, rfl⟩))
          go_ret
          exact ⟨rfl, ⟨HB2.out.os, HB2.out.tape, HB2.out.output, HB2.out.size, HB2.out.block⟩⟩
    · skip
      have HWS := Aside0.mk (HS.out.small (by decide) (by decide))
      cases hf : findK L k with
      | none =>
        have HFK := Aside0.mk hf
        clear hf
        obtain ⟨rfl, rfl, rfl⟩ := HS.out.kept.none_ HFK.out
        go_wp2_with (first | (go_at_call 13; refine (end_none HS.out.tab HW0.out HFK.out).mono ?_; rintro e w2 ⟨rfl, rfl⟩) | (go_at_call 14; obtain ⟨A5, c5, e5, hc5, hC5⟩ := row_C HS.out.row; obtain ⟨rfl, rfl⟩ : B = A5 ∧ cB = c5 := (by injection e5 with e6 _ e7; exact ⟨e6, e7⟩); clear e5; refine (ints_same (xs := []) (by decide) (Kd.R_reads' (Kd.R_nil _ 3 _ 0 (fun _ => True))).2.2 (Nat.le_refl _) hC5 hc5).mono ?_; rintro e w4 ⟨rfl, m4, rfl⟩))
        go_ret
        exact ⟨rfl, (HS.out.drew _).bel⟩
      | some f =>
        have HFK := Aside0.mk hf
        clear hf
        obtain ⟨rfl, rfl, rfl⟩ := HS.out.kept.some_ HFK.out
        go_wp2_with (first | (go_at_call 13; refine (end_some HS.out.tab HW0.out HFK.out).mono ?_; rintro e w2 ⟨rfl, T2, F2, t2⟩; obtain ⟨A6, c6, e6, hc6, hC6⟩ := row_C F2.row; rw [e6]; clear e6; have HC6 := Aside0.mk hC6; have HC7 := Aside0.mk hc6; have HT2 := Aside0.mk T2; have HB2 := Aside0.mk (t2.below HS.out.bel HS.out.new); have HR2 := Aside0.mk (row_turn t2 HS.out.row HS.out.far).1; clear T2 F2 t2 hC6 hc6) | (go_at_call 13; refine (end_none HT2.out HW0.out (by rw [findK_drop, if_pos rfl])).mono ?_; rintro e w3 ⟨rfl, rfl⟩) | (go_at_call 14; obtain ⟨A5, c5, e5, hc5, hC5⟩ := row_C HR2.out; obtain ⟨rfl, rfl⟩ : B = A5 ∧ cB = c5 := (by injection e5 with e6 _ e7; exact ⟨e6, e7⟩); clear e5; refine (ints_same HWS.out HC6.out HC7.out hC5 hc5).mono ?_; rintro e w4 ⟨rfl, m4, rfl⟩))
        go_ret
        exact ⟨rfl, ⟨HB2.out.os, HB2.out.tape, HB2.out.output, HB2.out.size, HB2.out.block⟩⟩
end Go.Proofs.Ytbonaoopkfcabaa.Own
