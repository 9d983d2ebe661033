/- How a table of flights lies in memory, in the proof's own words: a head block, a map from keys to blocks of flights, for each flight a block and a row of who waits, all apart from one another. -/
import Derived.Test.YtbonaoopkfcabaaPFlightPlaysx0
import Derived.Maps.OwnOps
import Derived.Maps.RangeWalk
import Derived.Maps.OwnSet
namespace Go.Proofs.Ytbonaoopkfcabaa.Own
open Go.RowKit Go.Maps Go.Proofs.Ytbonaoopkfcabaa.PFlightPlays Go.Proofs.YtbonaoopkfcabaaW.PrintWords Go.Proofs.YtbonaoopkfcabaaW.PrintLast Go.Proofs.YtbonaoopkfcabaaW.PrintMore
set_option linter.unusedVariables false

/-- How a pointer to the head of a block reads, in the proof's own books: as the block's number. -/
def ptrR : Value → Option (DataW Unit × List MemPlace)
  | .pointer none => some (.nil, [])
  | .pointer (some ⟨b, 0, none⟩) => some (.lit (.int .i64 (b : Int)), [])
  | _ => none
theorem ptrR_nil {v : Value} {ps : List MemPlace} (h : ptrR v = some (.nil, ps)) : v = .pointer none := by
  unfold ptrR at h
  split at h <;> simp at h
  rfl
theorem ptrR_some {v : Value} {b : Nat} {ps : List MemPlace} (h : ptrR v = some (.lit (.int .i64 (b : Int)), ps)) : v = .pointer (some ⟨b, 0, none⟩) := by
  unfold ptrR at h
  split at h <;> simp at h
  obtain ⟨h, _⟩ := h
  rw [Int.ofNat.inj h]

/-- a flight, with where it lies -/
structure Fl where
  k : Int
  lead : Int
  ws : List Int
  b : Nat
  v : Value

def findK (L : List Fl) (k : Int) : Option Fl := L.find? fun f => decide (f.k = k)
def ptrZ (L : List Fl) (k : Int) (z : DataW Unit) : DataW Unit := match findK L k with
  | some f => .lit (.int .i64 (f.b : Int))
  | none => z
def ptrOf (L : List Fl) (k : Int) : Value := match findK L k with
  | some f => .pointer (some ⟨f.b, 0, none⟩)
  | none => .pointer none

/-- a flight's own memory -/
structure FlAt (w : World) (S : Nat → Prop) (f : Fl) : Prop where
  blk : w.heap[f.b]? = some (.cells #[.int .i64 f.lead, f.v] 58 (0, 0))
  mine : S f.b
  row : w.ownsRow 0 3 1 f.v f.ws.length (f.ws.map (Value.int .i64))
  rowMine : ∀ b, f.v.ownBlock = some b → S b
/-- two flights are apart -/
def ApartFl (f f' : Fl) : Prop := f.k ≠ f'.k ∧ f.b ≠ f'.b ∧ ∀ b, f.v.ownBlock = some b → f'.v.ownBlock ≠ some b
/-- a table of flights -/
structure Tab (w : World) (S : Nat → Prop) (g mb : Nat) (most queue : Int) (L : List Fl) : Prop where
  head : w.heap[g]? = some (.cells #[.map (some mb), .int .i64 most, .int .i64 queue] 54 (0, 0))
  gS : S g
  mS : S mb
  map : ∃ D : DataW Unit, w.ownsMap Try.prog 3 ptrR mb L.length D ∧ (∀ k, (Lit.int .i64 k).wf = true → ∀ z, D.atKey (.int .i64 k) z = ptrZ L k z) ∧ Maps.size D = L.length
  fl : ∀ f ∈ L, FlAt w S f
  apart : L.Pairwise ApartFl
  keys : ∀ f ∈ L, (Lit.int .i64 f.k).wf = true

/-- the world turned in the blocks of S alone; new ones may have come -/
structure Turn (w w' : World) (S : Nat → Prop) : Prop where
  os : w'.os = w.os
  tape : w'.tape = w.tape
  output : w'.output = w.output
  size : w.heap.size ≤ w'.heap.size
  block : ∀ i, i < w.heap.size → ¬ S i → w'.heap[i]? = w.heap[i]?
theorem Turn.of_below {w w' : World} (h : Below w.heap.size w w') (S : Nat → Prop) : Turn w w' S := ⟨h.os, h.tape, h.output, h.size, fun i hi _ => h.block i hi⟩
theorem Turn.refl (w : World) (S : Nat → Prop) : Turn w w S := ⟨rfl, rfl, rfl, Nat.le_refl _, fun _ _ _ => rfl⟩
theorem Turn.then_ {w w1 w2 : World} {S S1 : Nat → Prop} (h : Turn w w1 S) (k : Turn w1 w2 S1) (hs : ∀ i, i < w.heap.size → S1 i → S i) : Turn w w2 S :=
  ⟨k.os.trans h.os, k.tape.trans h.tape, k.output.trans h.output, Nat.le_trans h.size k.size, fun i hi hn => (k.block i (Nat.lt_of_lt_of_le hi h.size) (fun c => hn (hs i hi c))).trans (h.block i hi hn)⟩
theorem Turn.below {w0 w w' : World} {S : Nat → Prop} (hb : Below w0.heap.size w0 w) (h : Turn w w' S) (hs : ∀ i, S i → w0.heap.size ≤ i) : Below w0.heap.size w0 w' :=
  ⟨h.os.trans hb.os, h.tape.trans hb.tape, h.output.trans hb.output, Nat.le_trans hb.size h.size, fun i hi => (h.block i (Nat.lt_of_lt_of_le hi hb.size) (fun c => by have := hs i c; omega)).trans (hb.block i hi)⟩
/-- the set with what has come since -/
def grow (S : Nat → Prop) (w w' : World) : Nat → Prop := fun b => S b ∨ (w.heap.size ≤ b ∧ b < w'.heap.size)

theorem row_kept {w w1 : World} {base e n : Nat} {v : Value} {xs : List Value} (h : w.ownsRow base e 1 v n xs) (hm : ∀ b, v.ownBlock = some b → w1.heap[b]? = w.heap[b]?) : w1.ownsRow base e 1 v n xs := by
  obtain ⟨h1, h2⟩ := h
  refine ⟨h1, ?_⟩
  rcases h2 with h2 | ⟨g, cap, cur, rfl, hg, hh, r⟩
  · exact .inl h2
  · exact .inr ⟨g, cap, cur, rfl, hg, (hm g (by simp [Value.ownBlock])).trans hh, r⟩
theorem row_lt {w : World} {base e n : Nat} {v : Value} {xs : List Value} (h : w.ownsRow base e 1 v n xs) (b : Nat) (hb : v.ownBlock = some b) : b < w.heap.size := by
  obtain ⟨_, h2⟩ := h
  rcases h2 with ⟨rfl, _⟩ | ⟨g, cap, cur, rfl, hg, hh, r⟩
  · simp [Value.ownBlock] at hb
  · obtain rfl : g = b := by simpa [Value.ownBlock] using hb
    exact (Array.getElem?_eq_some_iff.1 hh).1
theorem heap_lt {w : World} {b : Nat} {o : Obj} (h : w.heap[b]? = some o) : b < w.heap.size := (Array.getElem?_eq_some_iff.1 h).1
theorem map_kept {w w1 : World} {mb n : Nat} {D : DataW Unit} (h : w.ownsMap Try.prog 3 ptrR mb n D) (hm : w1.heap[mb]? = w.heap[mb]?) : w1.ownsMap Try.prog 3 ptrR mb n D := by
  obtain ⟨es, clock, hb, F, hs, hD⟩ := h
  exact ⟨es, clock, hm.trans hb, F, hs, hD⟩
theorem FlAt.step {w w1 : World} {S : Nat → Prop} {f : Fl} (h : FlAt w S f) (hm : ∀ b, S b → b < w.heap.size → w1.heap[b]? = w.heap[b]?) : FlAt w1 S f :=
  ⟨(hm _ h.mine (heap_lt h.blk)).trans h.blk, h.mine, row_kept h.row (fun b hb => hm b (h.rowMine b hb) (row_lt h.row b hb)), h.rowMine⟩
theorem FlAt.mono {w : World} {S S' : Nat → Prop} {f : Fl} (h : FlAt w S f) (hs : ∀ b, S b → S' b) : FlAt w S' f := ⟨h.blk, hs _ h.mine, h.row, fun b hb => hs _ (h.rowMine b hb)⟩
variable {w w1 : World} {S S' : Nat → Prop} {g mb : Nat} {most queue : Int} {L : List Fl}
/-- The table stays what it is while its blocks stand. -/
theorem Tab.step (h : Tab w S g mb most queue L) (hm : ∀ b, S b → b < w.heap.size → w1.heap[b]? = w.heap[b]?) : Tab w1 S g mb most queue L := by
  obtain ⟨D, h1, h2, h3⟩ := h.map
  exact ⟨(hm g h.gS (heap_lt h.head)).trans h.head, h.gS, h.mS, ⟨D, map_kept h1 (hm mb h.mS h1.lt), h2, h3⟩, fun f hf => (h.fl f hf).step hm, h.apart, h.keys⟩
theorem Tab.mono (h : Tab w S g mb most queue L) (hs : ∀ b, S b → S' b) : Tab w S' g mb most queue L :=
  ⟨h.head, hs _ h.gS, hs _ h.mS, h.map, fun f hf => (h.fl f hf).mono hs, h.apart, h.keys⟩
theorem Tab.below (h : Tab w S g mb most queue L) (hb : Below w.heap.size w w1) : Tab w1 S g mb most queue L := h.step (fun b _ hlt => hb.block b hlt)
theorem Tab.drewN (h : Tab w S g mb most queue L) (m : Nat) : Tab (w.drewN m) S g mb most queue L := h.step (fun _ _ _ => rfl)

theorem keyed3 : Keyed Try.prog 3 := int_keyed Try.underlying3
theorem zero55 (w : World) : (zeroValue 55).run Try.prog w = .ok (.pointer none) w := by kernel_rfl
/-- 't.all[k]' -/
theorem Tab.look (h : Tab w S g mb most queue L) {k : Int} (hk : (Lit.int .i64 k).wf = true) : (Instr.lookup 52 (.map (some mb)) (.int .i64 k) false).run Try.prog w = .ok (ptrOf L k) w := by
  obtain ⟨D, h1, h2, _⟩ := h.map
  obtain ⟨v, ps, hrun, hv⟩ := h1.lookup keyed3 (t := 52) (e := 55) Try.underlying52 (zero55 w) (zd := .nil) (zp := []) rfl (keyOf_int_mk Try.underlying3 hk)
  rw [h2 k hk .nil] at hv
  rw [hrun]
  unfold ptrZ at hv
  unfold ptrOf
  split at hv
  · rw [ptrR_some hv]
  · rw [ptrR_nil hv]
/-- 'len(t.all)' -/
theorem Tab.len (h : Tab w S g mb most queue L) (ty : TypeId) : (Builtin.len_ #[52] ty #[.map (some mb)]).run Try.prog w = .ok (.int .i64 (L.length : Int)) w := by
  obtain ⟨D, h1, _, h3⟩ := h.map
  rw [h1.len (e := 55) Try.underlying52 ty, h3]

theorem wpList_of_run (w w1 : World) {ops : Array Oper} {rest : List Oper} {o : Oper} {a : Act} {Q : Exit → Act → World → Prop} (hg : o.guard = none) (m x : Operand) (t : TypeId) (hop : o.op = Op.lookup t m x false) (M X V : Value)
    (hm : a.eval m = M) (hx : a.eval x = X) (hrun : (Instr.lookup t M X false).run Try.prog w = .ok V w)
    (hK : wpList Try.prog ops Q rest (a.put o.dst V) w) : wpList Try.prog ops Q (o :: rest) a w := by
  refine wpList_plain hg fun K' hK' => ?_
  unfold Oper.wp
  simp [execOp, hop, hm, hx, hrun, Result.andThen]
  exact hK' _ _ hK
theorem of_nil (k : Int) (w : World) : Calls Try.prog 22 #[.pointer none, .int .i64 k] w fun e w1 => e = .returned (.pointer none) ∧ w1 = w := by
  go_enter Try.func22, Try.ntmps22
  go_wp2
  go_ret
  exact ⟨rfl, rfl⟩
theorem gcell {w : World} {b : Nat} {xs : Array Value} {t : Nat} (h : w.heap[b]? = some (.cells xs t (0, 0))) (i : Nat) (v : Value) (hv : xs[i]? = some v) : w.cell? ⟨b, i, none⟩ = some v := by
  simp [World.cell?, h, hv]
theorem gfroz {w : World} {b : Nat} {xs : Array Value} {t : Nat} (h : w.heap[b]? = some (.cells xs t (0, 0))) (i : Nat) : w.frozen? ⟨b, i, none⟩ = false := by
  simp [World.frozen?, h]
theorem of_at {k : Int} (h : Tab w S g mb most queue L) (hk : (Lit.int .i64 k).wf = true) : Calls Try.prog 22 #[.pointer (some ⟨g, 0, none⟩), .int .i64 k] w fun e w1 => e = .returned (ptrOf L k) ∧ w1 = w := by
  have c0 := gcell h.head 0 _ rfl
  have hl := h.look hk
  go_enter Try.func22, Try.ntmps22
  go_wp2_with (at_lookup; refine wpList_of_run _ _ rfl _ _ _ rfl _ _ _ rfl rfl hl ?_)
  go_ret
  exact ⟨rfl, rfl⟩
end Go.Proofs.Ytbonaoopkfcabaa.Own
