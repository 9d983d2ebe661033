/- The table and the reference's list side by side: what stays of both through each call. -/
import Derived.Test.YtbonaoopkfcabaaOwnRefPure
namespace Go.Proofs.Ytbonaoopkfcabaa.Own
open Go.RowKit Go.Proofs.Ytbonaoopkfcabaa.PFlightPlays Go.Proofs.YtbonaoopkfcabaaW.PrintWords Go.Proofs.YtbonaoopkfcabaaW.PrintLast Go.Proofs.YtbonaoopkfcabaaW.PrintMore
set_option linter.unusedVariables false
/-- the table (its flights: L) and the reference's list (X) at the world w; all of it younger than w0 -/
structure PSt (w0 w : World) (S : Nat → Prop) (g mb : Nat) (n0 n1 : Int) (L : List Fl) (v : Value) (X : List S48) (i : Int) (W : Int → Prop) : Prop where
  tab : Tab w S g mb n0 n1 L
  new : ∀ b, S b → w0.heap.size ≤ b
  lt : ∀ b, S b → b < w.heap.size
  bel : Below w0.heap.size w0 w
  ref : Kd.V k48 48 w w.heap.size (fun b => ¬ S b) v X
  fits : Fits i i L
  from_ : ∀ f ∈ L, ∀ x ∈ f.ws, W x
/-- the old blocks that are none of the table's stay -/
def Far (w w1 : World) (S : Nat → Prop) : Prop := ∀ b, b < w.heap.size → ¬ S b → w1.heap[b]? = w.heap[b]?
section
variable {w0 w w1 : World} {S : Nat → Prop} {g mb : Nat} {n0 n1 : Int} {L L' : List Fl} {v : Value} {X Y : List S48} {i j : Int} {W : Int → Prop}
theorem PSt.drew (h : PSt w0 w S g mb n0 n1 L v X i W) (m : Nat) : PSt w0 (w.drewN m) S g mb n0 n1 L v X i W :=
  ⟨h.tab.drewN m, h.new, h.lt, ⟨h.bel.os, h.bel.tape, h.bel.output, h.bel.size, h.bel.block⟩, Kd.V_drewN h.ref m, h.fits, h.from_⟩
theorem PSt.below (h : PSt w0 w S g mb n0 n1 L v X i W) (hb : Below w.heap.size w w1) : PSt w0 w1 S g mb n0 n1 L v X i W :=
  ⟨h.tab.below hb, h.new, fun b hS => Nat.lt_of_lt_of_le (h.lt b hS) hb.size, below_step h.bel hb, Kd.V_below h.ref hb, h.fits, h.from_⟩
theorem PSt.turn (h : PSt w0 w S g mb n0 n1 L v X i W) (T : Tab w1 (grow S w w1) g mb n0 n1 L') (t : Turn w w1 S) (hF : Fits j j L') (hW : ∀ f ∈ L', ∀ x ∈ f.ws, W x) : PSt w0 w1 (grow S w w1) g mb n0 n1 L' v X j W := by
  refine ⟨T, grow_ge h.new h.bel.size w1, fun b hb => ?_, t.below h.bel h.new, ?_, hF, hW⟩
  · rcases hb with hb | hb
    · exact Nat.lt_of_lt_of_le (h.lt b hb) t.size
    · exact hb.2
  · refine Kd.V_mono (Kd.V_step (Kd.V_bound h.ref) (fun b hb hlt => t.block b hlt hb.1)) (fun b hb hg => ?_)
    rcases hg with hg | hg
    · exact hb.1 hg
    · omega
theorem Turn.far (t : Turn w w1 S) : Far w w1 S := fun b hb hS => t.block b hb hS
theorem far_below (hb : Below w.heap.size w w1) (S : Nat → Prop) : Far w w1 S := fun b hlt _ => hb.block b hlt
theorem Fits.more (h : Fits i i L) (hij : i ≤ j) : Fits j j L := ⟨Int.le_trans h.n hij, fun f hf => Int.le_trans (h.q f hf) hij⟩
theorem PSt.more (h : PSt w0 w S g mb n0 n1 L v X i W) (hij : i ≤ j) : PSt w0 w S g mb n0 n1 L v X j W := ⟨h.tab, h.new, h.lt, h.bel, h.ref, h.fits.more hij, h.from_⟩
theorem PSt.reref {v' : Value} (h : PSt w0 w S g mb n0 n1 L v X i W) (hb : Below w.heap.size w w1) (hV : Kd.V k48 48 w1 w.heap.size (fun b => (¬ S b) ∨ w.heap.size ≤ b) v' Y) : PSt w0 w1 S g mb n0 n1 L v' Y i W := by
  refine ⟨h.tab.below hb, h.new, fun b hS => Nat.lt_of_lt_of_le (h.lt b hS) hb.size, below_step h.bel hb, Kd.V_mono hV (fun b hb' hS => ?_), h.fits, h.from_⟩
  rcases hb' with e | e
  · exact e hS
  · have := h.lt b hS; omega
/-! ### the table's functions -/
theorem st_leads {k who : Int} (h : PSt w0 w S g mb n0 n1 L v X i W) (hi : i ≤ 1000) (hk : (Lit.int .i64 k).wf = true) (hf : findK L k = none) (hr : (L.length : Int) < n0) (hi0 : 0 ≤ i) :
    Calls Try.prog 10 #[.pointer (some ⟨g, 0, none⟩), .int .i64 k, .int .i64 who] w fun e w1 => e = .returned (.int .i64 1) ∧ ∃ S' b, PSt w0 w1 S' g mb n0 n1 (L ++ [⟨k, who, [], b, .slice none 0 0⟩]) v X (i + 1) W ∧ Far w w1 S ∧ ∀ b, b < w.heap.size → ¬ S b → ¬ S' b := by
  refine (join_leads h.tab hk hf hr (wks h.fits.n (by omega))).mono ?_
  rintro e w1 ⟨rfl, b, T, t⟩
  refine ⟨rfl, _, b, h.turn T t ?_ ?_, t.far, fun b hb hn hg => ?_⟩
  · refine ⟨?_, fun f hf => ?_⟩
    · have := h.fits.n
      rw [List.length_append, List.length_singleton]
      omega
    · rcases List.mem_append.1 hf with hf | hf
      · exact Int.le_trans (h.fits.q f hf) (by omega)
      · rw [List.mem_singleton.1 hf]
        show ((0 : Nat) : Int) ≤ i + 1
        omega
  · intro f hf x hx
    rcases List.mem_append.1 hf with hf | hf
    · exact h.from_ f hf x hx
    · rw [List.mem_singleton.1 hf] at hx
      simp at hx
  · rcases hg with hg | hg
    · exact hn hg
    · omega
theorem st_waits {k who : Int} (h : PSt w0 w S g mb n0 n1 L v X i W) (hi : i ≤ 1000) (hk : (Lit.int .i64 k).wf = true) {f : Fl} (hf : findK L k = some f) (hr : (f.ws.length : Int) < n1) (hw : W who) :
    Calls Try.prog 10 #[.pointer (some ⟨g, 0, none⟩), .int .i64 k, .int .i64 who] w fun e w1 => e = .returned (.int .i64 2) ∧ ∃ S' v', PSt w0 w1 S' g mb n0 n1 (upd L k (f.ws ++ [who]) v') v X (i + 1) W ∧ Far w w1 S ∧ ∀ b, b < w.heap.size → ¬ S b → ¬ S' b := by
  have hq := h.fits.q f (findK_mem hf).1
  refine (join_waits h.tab hk hf hr (wks hq (by omega))).mono ?_
  rintro e w1 ⟨rfl, v', T, t⟩
  refine ⟨rfl, _, v', h.turn T t ((h.fits.more (by omega)).upd (by rw [List.length_append, List.length_singleton]; omega)) ?_, t.far, fun b hb hn hg => ?_⟩
  · intro x hx y hy
    obtain ⟨z, hz, rfl⟩ := List.mem_map.1 hx
    split at hy
    · rcases List.mem_append.1 hy with hy | hy
      · exact h.from_ f (findK_mem hf).1 y hy
      · rw [List.mem_singleton.1 hy]; exact hw
    · exact h.from_ z hz y hy
  · rcases hg with hg | hg
    · exact hn hg
    · omega
theorem st_over {k who : Int} (h : PSt w0 w S g mb n0 n1 L v X i W) (hk : (Lit.int .i64 k).wf = true) (hf : findK L k = none) (hr : ¬ (L.length : Int) < n0) :
    Calls Try.prog 10 #[.pointer (some ⟨g, 0, none⟩), .int .i64 k, .int .i64 who] w fun e w1 => e = .returned (.int .i64 0) ∧ PSt w0 w1 S g mb n0 n1 L v X (i + 1) W ∧ Far w w1 S := by
  refine (join_over h.tab hk hf hr).mono ?_
  rintro e w1 ⟨rfl, hb⟩
  exact ⟨rfl, (h.below hb).more (by omega), far_below hb S⟩
theorem st_full {k who : Int} (h : PSt w0 w S g mb n0 n1 L v X i W) (hk : (Lit.int .i64 k).wf = true) {f : Fl} (hf : findK L k = some f) (hr : ¬ (f.ws.length : Int) < n1) :
    Calls Try.prog 10 #[.pointer (some ⟨g, 0, none⟩), .int .i64 k, .int .i64 who] w fun e w1 => e = .returned (.int .i64 0) ∧ PSt w0 w1 S g mb n0 n1 L v X (i + 1) W ∧ Far w w1 S := by
  refine (join_full h.tab hk hf hr).mono ?_
  rintro e w1 ⟨rfl, hb⟩
  exact ⟨rfl, (h.below hb).more (by omega), far_below hb S⟩
theorem st_leave_none {k who : Int} (h : PSt w0 w S g mb n0 n1 L v X i W) (hk : (Lit.int .i64 k).wf = true) (hf : findK L k = none) :
    Calls Try.prog 11 #[.pointer (some ⟨g, 0, none⟩), .int .i64 k, .int .i64 who] w fun e w1 => e = .returned (.bool false) ∧ PSt w0 w1 S g mb n0 n1 L v X (i + 1) W ∧ Far w w1 S := by
  refine (leave_none h.tab hk hf).mono ?_
  rintro e w1 ⟨rfl, rfl⟩
  exact ⟨rfl, h.more (by omega), fun _ _ _ => rfl⟩
theorem st_leave_not {k who : Int} (h : PSt w0 w S g mb n0 n1 L v X i W) (hi : i ≤ 1000) (hk : (Lit.int .i64 k).wf = true) {f : Fl} (hf : findK L k = some f) (hm : who ∉ f.ws) :
    Calls Try.prog 11 #[.pointer (some ⟨g, 0, none⟩), .int .i64 k, .int .i64 who] w fun e w1 => e = .returned (.bool false) ∧ PSt w0 w1 S g mb n0 n1 L v X (i + 1) W ∧ Far w w1 S := by
  refine (leave_not h.tab hk hf hm (wks (h.fits.q f (findK_mem hf).1) (by omega))).mono ?_
  rintro e w1 ⟨rfl, hb⟩
  exact ⟨rfl, (h.below hb).more (by omega), far_below hb S⟩
theorem st_leave_some {k who : Int} (h : PSt w0 w S g mb n0 n1 L v X i W) (hi : i ≤ 1000) (hk : (Lit.int .i64 k).wf = true) {f : Fl} (hf : findK L k = some f) (hm : who ∈ f.ws) :
    Calls Try.prog 11 #[.pointer (some ⟨g, 0, none⟩), .int .i64 k, .int .i64 who] w fun e w1 => e = .returned (.bool true) ∧ ∃ S' v', PSt w0 w1 S' g mb n0 n1 (upd L k (f.ws.erase who) v') v X (i + 1) W ∧ Far w w1 S ∧ ∀ b, b < w.heap.size → ¬ S b → ¬ S' b := by
  have hq := h.fits.q f (findK_mem hf).1
  refine (leave_some h.tab hk hf hm (wks hq (by omega))).mono ?_
  rintro e w1 ⟨rfl, v', T, t⟩
  refine ⟨rfl, _, v', h.turn T t ((h.fits.more (by omega)).upd (by have := List.length_erase_le (a := who) (l := f.ws); omega)) ?_, t.far, fun b hb hn hg => ?_⟩
  · intro x hx y hy
    obtain ⟨z, hz, rfl⟩ := List.mem_map.1 hx
    split at hy
    · exact h.from_ f (findK_mem hf).1 y (List.mem_of_mem_erase hy)
    · exact h.from_ z hz y hy
  · rcases hg with hg | hg
    · exact hn hg
    · omega
theorem st_end_none {k : Int} (h : PSt w0 w S g mb n0 n1 L v X i W) (hk : (Lit.int .i64 k).wf = true) (hf : findK L k = none) :
    Calls Try.prog 13 #[.pointer (some ⟨g, 0, none⟩), .int .i64 k] w fun e w1 => e = .returned (.tuple #[.int .i64 0, .slice none 0 0, .bool false]) ∧ PSt w0 w1 S g mb n0 n1 L v X (i + 1) W ∧ Far w w1 S := by
  refine (end_none h.tab hk hf).mono ?_
  rintro e w1 ⟨rfl, rfl⟩
  exact ⟨rfl, h.more (by omega), fun _ _ _ => rfl⟩
theorem st_end_some {k : Int} (h : PSt w0 w S g mb n0 n1 L v X i W) (hk : (Lit.int .i64 k).wf = true) {f : Fl} (hf : findK L k = some f) :
    Calls Try.prog 13 #[.pointer (some ⟨g, 0, none⟩), .int .i64 k] w fun e w1 => ∃ A c S', e = .returned (.tuple #[.int .i64 f.lead, .slice A f.ws.length c, .bool true]) ∧ PSt w0 w1 S' g mb n0 n1 (L.filter fun x => !decide (x.k = k)) v X (i + 1) W ∧
      f.ws.length ≤ c ∧ Kd.C (Kd.int .i64) w1 A f.ws.length f.ws ∧ Far w w1 S ∧ ∀ b, b < w.heap.size → ¬ S b → ¬ S' b := by
  refine (end_some h.tab hk hf).mono ?_
  rintro e w1 ⟨rfl, T, F, t⟩
  obtain ⟨A, c, hv, hc, hC⟩ := row_C F.row
  refine ⟨A, c, _, by rw [hv], h.turn (T.mono (fun b hb => .inl hb)) t ((h.fits.more (by omega)).drop _) (fun f hf => h.from_ f (List.mem_filter.1 hf).1), hc, hC, t.far, fun b hb hn hg => ?_⟩
  rcases hg with hg | hg
  · exact hn hg
  · omega
/-! ### the reference's functions -/
theorem st_slice (h : PSt w0 w S g mb n0 n1 L v X i W) : ∃ A c, v = .slice A X.length c := Kd.V_slice h.ref
theorem st_find {A : Option Addr} {c : Nat} {k r : Int} (h : PSt w0 w S g mb n0 n1 L (.slice A X.length c) X i W) (hr : derrickref16_Find.f 2000 X k = some r) :
    Calls Try.prog 18 #[.slice A X.length c, .int .i64 k] w fun e w1 => e = .returned (.int .i64 r) ∧ ∃ m, w1 = w.drewN m := by
  have q := Kd.V_reads' h.ref
  refine (derrickref16_Find.calls 2000 A c X k r w q.2.2 q.2.1 hr).mono ?_
  rintro e w1 ⟨rfl, hd⟩
  exact ⟨rfl, hd.out⟩
theorem st_sum {A : Option Addr} {c : Nat} {r : Int} (h : PSt w0 w S g mb n0 n1 L (.slice A X.length c) X i W) (hr : derrickref16_Sum.f 2000 X = some r) :
    Calls Try.prog 21 #[.slice A X.length c] w fun e w1 => e = .returned (.int .i64 r) ∧ ∃ m, w1 = w.drewN m := by
  have q := Kd.V_reads' h.ref
  refine (derrickref16_Sum.calls 2000 A c X r w q.2.2 q.2.1 hr).mono ?_
  rintro e w1 ⟨rfl, hd⟩
  exact ⟨rfl, hd.out⟩
theorem st_rjoin {A : Option Addr} {c : Nat} {a0 a1 k who r : Int} (h : PSt w0 w S g mb n0 n1 L (.slice A X.length c) X i W) (hr : derrickref16_Join.f 2000 X a0 a1 k who = some (Y, r)) :
    Calls Try.prog 26 #[.slice A X.length c, .int .i64 a0, .int .i64 a1, .int .i64 k, .int .i64 who] w fun e w1 => ∃ B d, e = .returned (.tuple #[.slice B Y.length d, .int .i64 r]) ∧ PSt w0 w1 S g mb n0 n1 L (.slice B Y.length d) Y i W ∧ Below w.heap.size w w1 := by
  refine (derrickref16_Join.calls 2000 (fun b => ¬ S b) A c X a0 a1 k who Y r w h.ref hr).mono ?_
  rintro e w1 ⟨v', rfl, hV, hb⟩
  obtain ⟨B, d, rfl⟩ := Kd.V_slice hV
  exact ⟨B, d, rfl, h.reref hb hV, hb⟩
theorem st_rleave {A : Option Addr} {c : Nat} {k who : Int} {r : Bool} (h : PSt w0 w S g mb n0 n1 L (.slice A X.length c) X i W) (hr : derrickref16_Leave.f 2000 X k who = some (Y, r)) :
    Calls Try.prog 27 #[.slice A X.length c, .int .i64 k, .int .i64 who] w fun e w1 => ∃ B d, e = .returned (.tuple #[.slice B Y.length d, .bool r]) ∧ PSt w0 w1 S g mb n0 n1 L (.slice B Y.length d) Y i W ∧ Below w.heap.size w w1 := by
  refine (derrickref16_Leave.calls 2000 (fun b => ¬ S b) A c X k who Y r w h.ref hr).mono ?_
  rintro e w1 ⟨v', rfl, hV, hb⟩
  obtain ⟨B, d, rfl⟩ := Kd.V_slice hV
  exact ⟨B, d, rfl, h.reref hb hV, hb⟩
theorem st_rend {A : Option Addr} {c : Nat} {k a b : Int} {ws : List Int} {r : Bool} (h : PSt w0 w S g mb n0 n1 L (.slice A X.length c) X i W) (hr : derrickref16_End.f 2000 X k = some (Y, a, b, ws, r)) :
    Calls Try.prog 28 #[.slice A X.length c, .int .i64 k] w fun e w1 => ∃ B d B' d', e = .returned (.tuple #[.slice B Y.length d, .agg #[.int .i64 a, .int .i64 b, .slice B' ws.length d'], .bool r]) ∧ PSt w0 w1 S g mb n0 n1 L (.slice B Y.length d) Y i W ∧
      ws.length ≤ d' ∧ Kd.C (Kd.int .i64) w1 B' ws.length ws ∧ Below w.heap.size w w1 := by
  refine (derrickref16_End.calls 2000 (fun b => ¬ S b) A c X k Y a b ws r w h.ref hr).mono ?_
  rintro e w1 ⟨v', v'', rfl, hV, hU, hb⟩
  obtain ⟨B, d, rfl⟩ := Kd.V_slice hV
  obtain ⟨B', d', rfl⟩ := Kd.V_slice hU
  have q := Kd.V_reads' hU
  exact ⟨B, d, B', d', rfl, h.reref hb hV, q.2.1, q.2.2, hb⟩
end
end Go.Proofs.Ytbonaoopkfcabaa.Own
