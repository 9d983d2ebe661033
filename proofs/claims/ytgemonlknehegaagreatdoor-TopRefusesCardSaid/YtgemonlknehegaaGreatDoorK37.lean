/- The chain of TopRefuses, part 37. -/
import Derived.Test.YtgemonlknehegaaGreatDoorK36
namespace Go.Proofs.YtgemonlknehegaaGreatDoor.AI
open Go
set_option linter.unusedVariables false
set_option linter.unusedSimpArgs false
set_option maxRecDepth 100000
/-- a tree that always ends, and as is wanted -/
def Tot {α : Type} (Q : α → Prop) : DT α → Prop
  | .leaf a => Q a
  | .node c x y => (c = true → Tot Q x) ∧ (c = false → Tot Q y)
  | .fail => False
section
variable {α : Type} {Q : α → Prop}
theorem tot_leaf {a : α} (h : Q a) : Tot Q (.leaf a) := h
theorem tot_need {c : Bool} {x : DT α} (h : c = true) (hx : Tot Q x) : Tot Q (.node c x .fail) := ⟨fun _ => hx, fun e => by rw [h] at e; cases e⟩
theorem tot_node {c : Bool} {x y : DT α} (hx : c = true → Tot Q x) (hy : c = false → Tot Q y) : Tot Q (.node c x y) := ⟨hx, hy⟩
theorem tot_val : ∀ (d : DT α), Tot Q d → ∃ a, d.val = some a ∧ Q a
  | .leaf a, h => ⟨a, rfl, h⟩
  | .node c x y, h => by
    cases c with
    | true =>
      obtain ⟨a, h1, h2⟩ := tot_val x (h.1 rfl)
      exact ⟨a, h1, h2⟩
    | false =>
      obtain ⟨a, h1, h2⟩ := tot_val y (h.2 rfl)
      exact ⟨a, h1, h2⟩
  | .fail, h => h.elim
end
attribute [irreducible] Tot
def lfF : Option (SV × SH) := some (SV.b false false, { objs := [], nm := 0 })
theorem t135 (k : Int) (s : List UInt8) (n : Nat) : seC Tryz.prog cW (n + 12) 135 [.i true .u16 k, .s true s] .empty = .node (TB.c { o := true || false, c := decide (k = 1) }) (.node (decide (Int.ofNat (List.length s) < 4)) (.leaf lfF) (.node (decide (Prod.snd (false, 0) ≤ 4 ∧ 4 ≤ List.length s)) (.node (decide (4 ≤ Prod.snd (true, List.length s) ∧ Prod.snd (true, List.length s) ≤ List.length s)) (.node (TB.c { o := true || false, c := decide (List.take (Prod.snd (true, List.length s) - 4) (List.drop 4 s) = []) }) (.leaf (some (SV.b true (decide (Int.ofNat (List.length s) ≤ 65535)), { objs := [], nm := 0 }))) (.leaf lfF)) .fail) .fail)) (.node (TB.c { o := true || false, c := decide (k = 28) }) (.node (decide (Int.ofNat (List.length s) < 16)) (.leaf lfF) (.node (decide (Prod.snd (false, 0) ≤ 16 ∧ 16 ≤ List.length s)) (.node (decide (16 ≤ Prod.snd (true, List.length s) ∧ Prod.snd (true, List.length s) ≤ List.length s)) (.node (TB.c { o := true || false, c := decide (List.take (Prod.snd (true, List.length s) - 16) (List.drop 16 s) = []) }) (.leaf (some (SV.b true (decide (Int.ofNat (List.length s) ≤ 65535)), { objs := [], nm := 0 }))) (.leaf lfF)) .fail) .fail)) (.node (TB.c { o := true || false, c := decide (k = 2) }) (.node (decide (List.length s < 100000)) (.node (decide (Int.ofNat (whN s) < 0)) (.leaf lfF) (.node (decide (Int.ofNat (List.length s) < Int.ofNat (whN s))) (.leaf lfF) (.node (TB.c { o := true || false, c := decide (Int.ofNat (whN s) = 0) }) (.leaf lfF) (.node (nn (Int.ofNat (whN s))) (.node (decide (Prod.snd (false, 0) ≤ Int.toNat (Int.ofNat (whN s)) ∧ Int.toNat (Int.ofNat (whN s)) ≤ List.length s)) (.node (nn (Int.ofNat (whN s))) (.node (decide (Int.toNat (Int.ofNat (whN s)) ≤ Prod.snd (true, List.length s) ∧ Prod.snd (true, List.length s) ≤ List.length s)) (.node (TB.c { o := true || false, c := decide (List.take (Prod.snd (true, List.length s) - Int.toNat (Int.ofNat (whN s))) (List.drop (Int.toNat (Int.ofNat (whN s))) s) = []) }) (.leaf (some (SV.b true (decide (Int.ofNat (List.length s) ≤ 65535)), { objs := [], nm := 0 }))) (.leaf lfF)) .fail) .fail) .fail) .fail)))) .fail) (.node (TB.c { o := true || false, c := decide (k = 5) }) (.node (decide (List.length s < 100000)) (.node (decide (Int.ofNat (whN s) < 0)) (.leaf lfF) (.node (decide (Int.ofNat (List.length s) < Int.ofNat (whN s))) (.leaf lfF) (.node (TB.c { o := true || false, c := decide (Int.ofNat (whN s) = 0) }) (.leaf lfF) (.node (nn (Int.ofNat (whN s))) (.node (decide (Prod.snd (false, 0) ≤ Int.toNat (Int.ofNat (whN s)) ∧ Int.toNat (Int.ofNat (whN s)) ≤ List.length s)) (.node (nn (Int.ofNat (whN s))) (.node (decide (Int.toNat (Int.ofNat (whN s)) ≤ Prod.snd (true, List.length s) ∧ Prod.snd (true, List.length s) ≤ List.length s)) (.node (TB.c { o := true || false, c := decide (List.take (Prod.snd (true, List.length s) - Int.toNat (Int.ofNat (whN s))) (List.drop (Int.toNat (Int.ofNat (whN s))) s) = []) }) (.leaf (some (SV.b true (decide (Int.ofNat (List.length s) ≤ 65535)), { objs := [], nm := 0 }))) (.leaf lfF)) .fail) .fail) .fail) .fail)))) .fail) (.node (TB.c { o := true || false, c := decide (k = 12) }) (.node (decide (List.length s < 100000)) (.node (decide (Int.ofNat (whN s) < 0)) (.leaf lfF) (.node (decide (Int.ofNat (List.length s) < Int.ofNat (whN s))) (.leaf lfF) (.node (TB.c { o := true || false, c := decide (Int.ofNat (whN s) = 0) }) (.leaf lfF) (.node (nn (Int.ofNat (whN s))) (.node (decide (Prod.snd (false, 0) ≤ Int.toNat (Int.ofNat (whN s)) ∧ Int.toNat (Int.ofNat (whN s)) ≤ List.length s)) (.node (nn (Int.ofNat (whN s))) (.node (decide (Int.toNat (Int.ofNat (whN s)) ≤ Prod.snd (true, List.length s) ∧ Prod.snd (true, List.length s) ≤ List.length s)) (.node (TB.c { o := true || false, c := decide (List.take (Prod.snd (true, List.length s) - Int.toNat (Int.ofNat (whN s))) (List.drop (Int.toNat (Int.ofNat (whN s))) s) = []) }) (.leaf (some (SV.b true (decide (Int.ofNat (List.length s) ≤ 65535)), { objs := [], nm := 0 }))) (.leaf lfF)) .fail) .fail) .fail) .fail)))) .fail) (.node (TB.c { o := true || false, c := decide (k = 15) }) (.node (decide (Int.ofNat (List.length s) < 2)) (.leaf lfF) (.node (decide (Prod.snd (false, 0) ≤ 2 ∧ 2 ≤ List.length s)) (.node (decide (2 ≤ Prod.snd (true, List.length s) ∧ Prod.snd (true, List.length s) ≤ List.length s)) (.node (decide (List.length (List.take (Prod.snd (true, List.length s) - 2) (List.drop 2 s)) < 100000)) (.node (decide (Int.ofNat (whN (List.take (Prod.snd (true, List.length s) - 2) (List.drop 2 s))) < 0)) (.leaf lfF) (.node (decide (Int.ofNat (List.length (List.take (Prod.snd (true, List.length s) - 2) (List.drop 2 s))) < Int.ofNat (whN (List.take (Prod.snd (true, List.length s) - 2) (List.drop 2 s))))) (.leaf lfF) (.node (TB.c { o := true || false, c := decide (Int.ofNat (whN (List.take (Prod.snd (true, List.length s) - 2) (List.drop 2 s))) = 0) }) (.leaf lfF) (.node (nn (Int.ofNat (whN (List.take (Prod.snd (true, List.length s) - 2) (List.drop 2 s))))) (.node (decide (Prod.snd (false, 0) ≤ Int.toNat (Int.ofNat (whN (List.take (Prod.snd (true, List.length s) - 2) (List.drop 2 s)))) ∧ Int.toNat (Int.ofNat (whN (List.take (Prod.snd (true, List.length s) - 2) (List.drop 2 s)))) ≤ List.length (List.take (Prod.snd (true, List.length s) - 2) (List.drop 2 s)))) (.node (decide (List.length [[Lf.s (List.take (2 - Prod.snd (false, 0)) (List.drop (Prod.snd (false, 0)) s))]] < 1048576)) (.node (decide (0 = 0 ∧ List.length [[Lf.s (List.take (2 - Prod.snd (false, 0)) (List.drop (Prod.snd (false, 0)) s))]] = List.length [[Lf.s (List.take (2 - Prod.snd (false, 0)) (List.drop (Prod.snd (false, 0)) s))]])) (.node (nn (Int.ofNat (whN (List.take (Prod.snd (true, List.length s) - 2) (List.drop 2 s))))) (.node (decide (Int.toNat (Int.ofNat (whN (List.take (Prod.snd (true, List.length s) - 2) (List.drop 2 s)))) ≤ Prod.snd (true, List.length (List.take (Prod.snd (true, List.length s) - 2) (List.drop 2 s))) ∧ Prod.snd (true, List.length (List.take (Prod.snd (true, List.length s) - 2) (List.drop 2 s))) ≤ List.length (List.take (Prod.snd (true, List.length s) - 2) (List.drop 2 s)))) (.node (TB.c { o := true || false, c := decide (List.take (Prod.snd (true, List.length (List.take (Prod.snd (true, List.length s) - 2) (List.drop 2 s))) - Int.toNat (Int.ofNat (whN (List.take (Prod.snd (true, List.length s) - 2) (List.drop 2 s))))) (List.drop (Int.toNat (Int.ofNat (whN (List.take (Prod.snd (true, List.length s) - 2) (List.drop 2 s))))) (List.take (Prod.snd (true, List.length s) - 2) (List.drop 2 s))) = []) }) (.leaf (some (SV.b true (decide (Int.ofNat (List.length s) ≤ 65535)), { objs := [], nm := 0 }))) (.leaf lfF)) .fail) .fail) .fail) .fail) .fail) .fail)))) .fail) .fail) .fail)) (.node (TB.c { o := true || false, c := decide (k = 6) }) (.node (decide (List.length s < 100000)) (.node (decide (Int.ofNat (whN s) < 0)) (.leaf lfF) (.node (decide (Int.ofNat (List.length s) < Int.ofNat (whN s))) (.leaf lfF) (.node (TB.c { o := true || false, c := decide (Int.ofNat (whN s) = 0) }) (.leaf lfF) (.node (nn (Int.ofNat (whN s))) (.node (decide (Prod.snd (false, 0) ≤ Int.toNat (Int.ofNat (whN s)) ∧ Int.toNat (Int.ofNat (whN s)) ≤ List.length s)) (.node (nn (Int.ofNat (whN s))) (.node (decide (Int.toNat (Int.ofNat (whN s)) ≤ Prod.snd (true, List.length s) ∧ Prod.snd (true, List.length s) ≤ List.length s)) (.node (decide (List.length (List.take (Prod.snd (true, List.length s) - Int.toNat (Int.ofNat (whN s))) (List.drop (Int.toNat (Int.ofNat (whN s))) s)) < 100000)) (.node (decide (Int.ofNat (whN (List.take (Prod.snd (true, List.length s) - Int.toNat (Int.ofNat (whN s))) (List.drop (Int.toNat (Int.ofNat (whN s))) s))) < 0)) (.leaf lfF) (.node (decide (Int.ofNat (List.length (List.take (Prod.snd (true, List.length s) - Int.toNat (Int.ofNat (whN s))) (List.drop (Int.toNat (Int.ofNat (whN s))) s))) < Int.ofNat (whN (List.take (Prod.snd (true, List.length s) - Int.toNat (Int.ofNat (whN s))) (List.drop (Int.toNat (Int.ofNat (whN s))) s))))) (.leaf lfF) (.node (TB.c { o := true || false, c := decide (Int.ofNat (whN (List.take (Prod.snd (true, List.length s) - Int.toNat (Int.ofNat (whN s))) (List.drop (Int.toNat (Int.ofNat (whN s))) s))) = 0) }) (.leaf lfF) (.node (nn (Int.ofNat (whN (List.take (Prod.snd (true, List.length s) - Int.toNat (Int.ofNat (whN s))) (List.drop (Int.toNat (Int.ofNat (whN s))) s))))) (.node (decide (Prod.snd (false, 0) ≤ Int.toNat (Int.ofNat (whN (List.take (Prod.snd (true, List.length s) - Int.toNat (Int.ofNat (whN s))) (List.drop (Int.toNat (Int.ofNat (whN s))) s)))) ∧ Int.toNat (Int.ofNat (whN (List.take (Prod.snd (true, List.length s) - Int.toNat (Int.ofNat (whN s))) (List.drop (Int.toNat (Int.ofNat (whN s))) s)))) ≤ List.length (List.take (Prod.snd (true, List.length s) - Int.toNat (Int.ofNat (whN s))) (List.drop (Int.toNat (Int.ofNat (whN s))) s)))) (.node (decide (List.length [[Lf.s (List.take (Int.toNat (Int.ofNat (whN s)) - Prod.snd (false, 0)) (List.drop (Prod.snd (false, 0)) s))]] < 1048576)) (.node (decide (0 = 0 ∧ List.length [[Lf.s (List.take (Int.toNat (Int.ofNat (whN s)) - Prod.snd (false, 0)) (List.drop (Prod.snd (false, 0)) s))]] = List.length [[Lf.s (List.take (Int.toNat (Int.ofNat (whN s)) - Prod.snd (false, 0)) (List.drop (Prod.snd (false, 0)) s))]])) (.node (nn (Int.ofNat (whN (List.take (Prod.snd (true, List.length s) - Int.toNat (Int.ofNat (whN s))) (List.drop (Int.toNat (Int.ofNat (whN s))) s))))) (.node (decide (Int.toNat (Int.ofNat (whN (List.take (Prod.snd (true, List.length s) - Int.toNat (Int.ofNat (whN s))) (List.drop (Int.toNat (Int.ofNat (whN s))) s)))) ≤ Prod.snd (true, List.length (List.take (Prod.snd (true, List.length s) - Int.toNat (Int.ofNat (whN s))) (List.drop (Int.toNat (Int.ofNat (whN s))) s))) ∧ Prod.snd (true, List.length (List.take (Prod.snd (true, List.length s) - Int.toNat (Int.ofNat (whN s))) (List.drop (Int.toNat (Int.ofNat (whN s))) s))) ≤ List.length (List.take (Prod.snd (true, List.length s) - Int.toNat (Int.ofNat (whN s))) (List.drop (Int.toNat (Int.ofNat (whN s))) s)))) (.node (decide (Int.ofNat (List.length (List.take (Prod.snd (true, List.length (List.take (Prod.snd (true, List.length s) - Int.toNat (Int.ofNat (whN s))) (List.drop (Int.toNat (Int.ofNat (whN s))) s))) - Int.toNat (Int.ofNat (whN (List.take (Prod.snd (true, List.length s) - Int.toNat (Int.ofNat (whN s))) (List.drop (Int.toNat (Int.ofNat (whN s))) s))))) (List.drop (Int.toNat (Int.ofNat (whN (List.take (Prod.snd (true, List.length s) - Int.toNat (Int.ofNat (whN s))) (List.drop (Int.toNat (Int.ofNat (whN s))) s))))) (List.take (Prod.snd (true, List.length s) - Int.toNat (Int.ofNat (whN s))) (List.drop (Int.toNat (Int.ofNat (whN s))) s))))) < 20)) (.leaf lfF) (.node (decide (Prod.snd (false, 0) ≤ 20 ∧ 20 ≤ List.length (List.take (Prod.snd (true, List.length (List.take (Prod.snd (true, List.length s) - Int.toNat (Int.ofNat (whN s))) (List.drop (Int.toNat (Int.ofNat (whN s))) s))) - Int.toNat (Int.ofNat (whN (List.take (Prod.snd (true, List.length s) - Int.toNat (Int.ofNat (whN s))) (List.drop (Int.toNat (Int.ofNat (whN s))) s))))) (List.drop (Int.toNat (Int.ofNat (whN (List.take (Prod.snd (true, List.length s) - Int.toNat (Int.ofNat (whN s))) (List.drop (Int.toNat (Int.ofNat (whN s))) s))))) (List.take (Prod.snd (true, List.length s) - Int.toNat (Int.ofNat (whN s))) (List.drop (Int.toNat (Int.ofNat (whN s))) s)))))) (.node (decide (List.length ([[Lf.s (List.take (Int.toNat (Int.ofNat (whN s)) - Prod.snd (false, 0)) (List.drop (Prod.snd (false, 0)) s))]] ++ [[Lf.s (List.take (Int.toNat (Int.ofNat (whN (List.take (Prod.snd (true, List.length s) - Int.toNat (Int.ofNat (whN s))) (List.drop (Int.toNat (Int.ofNat (whN s))) s)))) - Prod.snd (false, 0)) (List.drop (Prod.snd (false, 0)) (List.take (Prod.snd (true, List.length s) - Int.toNat (Int.ofNat (whN s))) (List.drop (Int.toNat (Int.ofNat (whN s))) s))))]]) < 1048576)) (.node (decide (0 = 0 ∧ List.length ([[Lf.s (List.take (Int.toNat (Int.ofNat (whN s)) - Prod.snd (false, 0)) (List.drop (Prod.snd (false, 0)) s))]] ++ [[Lf.s (List.take (Int.toNat (Int.ofNat (whN (List.take (Prod.snd (true, List.length s) - Int.toNat (Int.ofNat (whN s))) (List.drop (Int.toNat (Int.ofNat (whN s))) s)))) - Prod.snd (false, 0)) (List.drop (Prod.snd (false, 0)) (List.take (Prod.snd (true, List.length s) - Int.toNat (Int.ofNat (whN s))) (List.drop (Int.toNat (Int.ofNat (whN s))) s))))]]) = List.length ([[Lf.s (List.take (Int.toNat (Int.ofNat (whN s)) - Prod.snd (false, 0)) (List.drop (Prod.snd (false, 0)) s))]] ++ [[Lf.s (List.take (Int.toNat (Int.ofNat (whN (List.take (Prod.snd (true, List.length s) - Int.toNat (Int.ofNat (whN s))) (List.drop (Int.toNat (Int.ofNat (whN s))) s)))) - Prod.snd (false, 0)) (List.drop (Prod.snd (false, 0)) (List.take (Prod.snd (true, List.length s) - Int.toNat (Int.ofNat (whN s))) (List.drop (Int.toNat (Int.ofNat (whN s))) s))))]]))) (.node (decide (20 ≤ Prod.snd (true, List.length (List.take (Prod.snd (true, List.length (List.take (Prod.snd (true, List.length s) - Int.toNat (Int.ofNat (whN s))) (List.drop (Int.toNat (Int.ofNat (whN s))) s))) - Int.toNat (Int.ofNat (whN (List.take (Prod.snd (true, List.length s) - Int.toNat (Int.ofNat (whN s))) (List.drop (Int.toNat (Int.ofNat (whN s))) s))))) (List.drop (Int.toNat (Int.ofNat (whN (List.take (Prod.snd (true, List.length s) - Int.toNat (Int.ofNat (whN s))) (List.drop (Int.toNat (Int.ofNat (whN s))) s))))) (List.take (Prod.snd (true, List.length s) - Int.toNat (Int.ofNat (whN s))) (List.drop (Int.toNat (Int.ofNat (whN s))) s))))) ∧ Prod.snd (true, List.length (List.take (Prod.snd (true, List.length (List.take (Prod.snd (true, List.length s) - Int.toNat (Int.ofNat (whN s))) (List.drop (Int.toNat (Int.ofNat (whN s))) s))) - Int.toNat (Int.ofNat (whN (List.take (Prod.snd (true, List.length s) - Int.toNat (Int.ofNat (whN s))) (List.drop (Int.toNat (Int.ofNat (whN s))) s))))) (List.drop (Int.toNat (Int.ofNat (whN (List.take (Prod.snd (true, List.length s) - Int.toNat (Int.ofNat (whN s))) (List.drop (Int.toNat (Int.ofNat (whN s))) s))))) (List.take (Prod.snd (true, List.length s) - Int.toNat (Int.ofNat (whN s))) (List.drop (Int.toNat (Int.ofNat (whN s))) s))))) ≤ List.length (List.take (Prod.snd (true, List.length (List.take (Prod.snd (true, List.length s) - Int.toNat (Int.ofNat (whN s))) (List.drop (Int.toNat (Int.ofNat (whN s))) s))) - Int.toNat (Int.ofNat (whN (List.take (Prod.snd (true, List.length s) - Int.toNat (Int.ofNat (whN s))) (List.drop (Int.toNat (Int.ofNat (whN s))) s))))) (List.drop (Int.toNat (Int.ofNat (whN (List.take (Prod.snd (true, List.length s) - Int.toNat (Int.ofNat (whN s))) (List.drop (Int.toNat (Int.ofNat (whN s))) s))))) (List.take (Prod.snd (true, List.length s) - Int.toNat (Int.ofNat (whN s))) (List.drop (Int.toNat (Int.ofNat (whN s))) s)))))) (.node (TB.c { o := true || false, c := decide (List.take (Prod.snd (true, List.length (List.take (Prod.snd (true, List.length (List.take (Prod.snd (true, List.length s) - Int.toNat (Int.ofNat (whN s))) (List.drop (Int.toNat (Int.ofNat (whN s))) s))) - Int.toNat (Int.ofNat (whN (List.take (Prod.snd (true, List.length s) - Int.toNat (Int.ofNat (whN s))) (List.drop (Int.toNat (Int.ofNat (whN s))) s))))) (List.drop (Int.toNat (Int.ofNat (whN (List.take (Prod.snd (true, List.length s) - Int.toNat (Int.ofNat (whN s))) (List.drop (Int.toNat (Int.ofNat (whN s))) s))))) (List.take (Prod.snd (true, List.length s) - Int.toNat (Int.ofNat (whN s))) (List.drop (Int.toNat (Int.ofNat (whN s))) s))))) - 20) (List.drop 20 (List.take (Prod.snd (true, List.length (List.take (Prod.snd (true, List.length s) - Int.toNat (Int.ofNat (whN s))) (List.drop (Int.toNat (Int.ofNat (whN s))) s))) - Int.toNat (Int.ofNat (whN (List.take (Prod.snd (true, List.length s) - Int.toNat (Int.ofNat (whN s))) (List.drop (Int.toNat (Int.ofNat (whN s))) s))))) (List.drop (Int.toNat (Int.ofNat (whN (List.take (Prod.snd (true, List.length s) - Int.toNat (Int.ofNat (whN s))) (List.drop (Int.toNat (Int.ofNat (whN s))) s))))) (List.take (Prod.snd (true, List.length s) - Int.toNat (Int.ofNat (whN s))) (List.drop (Int.toNat (Int.ofNat (whN s))) s))))) = []) }) (.leaf (some (SV.b true (decide (Int.ofNat (List.length s) ≤ 65535)), { objs := [], nm := 0 }))) (.leaf lfF)) .fail) .fail) .fail) .fail)) .fail) .fail) .fail) .fail) .fail) .fail)))) .fail) .fail) .fail) .fail) .fail)))) .fail) (.node (TB.c { o := true || false, c := decide (k = 16) }) (.node (decide (List.length s < 100000)) (.node (stB s) (.node (decide (Int.ofNat (List.length s) < 0)) (.leaf lfF) (.node (decide (Int.ofNat (List.length s) < Int.ofNat (List.length s))) (.leaf lfF) (.node (nn (Int.ofNat (List.length s))) (.node (decide (Prod.snd (false, 0) ≤ Int.toNat (Int.ofNat (List.length s)) ∧ Int.toNat (Int.ofNat (List.length s)) ≤ List.length s)) (.node (nn (Int.ofNat (List.length s))) (.node (decide (Int.toNat (Int.ofNat (List.length s)) ≤ Prod.snd (true, List.length s) ∧ Prod.snd (true, List.length s) ≤ List.length s)) (.node (TB.c { o := true || false, c := decide (List.take (Prod.snd (true, List.length s) - Int.toNat (Int.ofNat (List.length s))) (List.drop (Int.toNat (Int.ofNat (List.length s))) s) = []) }) (.leaf (some (SV.b true (decide (Int.ofNat (List.length s) ≤ 65535)), { objs := [], nm := 0 }))) (.leaf lfF)) .fail) .fail) .fail) .fail))) (.leaf lfF)) .fail) (.node (decide (Int.ofNat (List.length s) < 0)) (.leaf lfF) (.node (decide (Int.ofNat (List.length s) < Int.ofNat (List.length s))) (.leaf lfF) (.node (nn (Int.ofNat (List.length s))) (.node (decide (Prod.snd (false, 0) ≤ Int.toNat (Int.ofNat (List.length s)) ∧ Int.toNat (Int.ofNat (List.length s)) ≤ List.length s)) (.node (nn (Int.ofNat (List.length s))) (.node (decide (Int.toNat (Int.ofNat (List.length s)) ≤ Prod.snd (true, List.length s) ∧ Prod.snd (true, List.length s) ≤ List.length s)) (.node (TB.c { o := true || false, c := decide (List.take (Prod.snd (true, List.length s) - Int.toNat (Int.ofNat (List.length s))) (List.drop (Int.toNat (Int.ofNat (List.length s))) s) = []) }) (.leaf (some (SV.b true (decide (Int.ofNat (List.length s) ≤ 65535)), { objs := [], nm := 0 }))) (.leaf lfF)) .fail) .fail) .fail) .fail)))))))))) := by kernel_rfl
def QB (r : Option (SV × SH)) : Prop := ∃ o x, r = some (.b o x, ⟨[], 0⟩)
theorem tbc (o c : Bool) : TB.c { o := o, c := c } = c := rfl
theorem tot135 (k : Int) (s : List UInt8) (n : Nat) (hs : s.length < 60000) : Tot QB (seC Tryz.prog cW (n + 12) 135 [.i true .u16 k, .s true s] .empty) := by
  rw [t135]
  have whl : ∀ d : List UInt8, whN d < d.length + 300 := fun d => by
    have := skF_lt true d
    unfold whN
    split
    · omega
    · split <;> omega
  repeat' first
    | refine tot_leaf ⟨_, _, rfl⟩
    | refine tot_need ?_ ?_
    | refine tot_node (fun h => ?_) (fun h => ?_)
  all_goals
    simp only [nn, tbc, decide_eq_true_eq, decide_eq_false_iff_not, tn, Int.ofNat_eq_natCast, List.length_take, List.length_drop, List.length_append, List.length_cons, List.length_nil, and_self] at * <;> omega
def bOf (o : Option (Option (SV × SH))) : Bool := match o with | some (some (.b _ x, _)) => x | _ => false
/-- what may be data: as the program tells -/
noncomputable def mayD (k : Int) (s : List UInt8) : Bool := bOf (seC Tryz.prog cW (0 + 12) 135 [.i true .u16 k, .s true s] .empty).val
noncomputable def sp135 : Spec
  | [.i _ .u16 k, .s _ s], ⟨[], 0⟩ => .need (decide (s.length < 60000)) (.leaf (.b true (mayD k s), .empty))
  | _, _ => .fail
theorem mayD_eq (k : Int) (s : List UInt8) (n : Nat) (hs : s.length < 60000) : ∃ o, (seC Tryz.prog cW (n + 12) 135 [.i true .u16 k, .s true s] .empty).val = some (some (.b o (mayD k s), ⟨[], 0⟩)) := by
  have e : seC Tryz.prog cW (0 + 12) 135 [.i true .u16 k, .s true s] .empty = seC Tryz.prog cW (n + 12) 135 [.i true .u16 k, .s true s] .empty := (t135 k s 0).trans (t135 k s n).symm
  have ht := tot135 k s n hs
  generalize hd : seC Tryz.prog cW (n + 12) 135 [.i true .u16 k, .s true s] .empty = d at e ht
  obtain ⟨r0, h1, o, x, h2⟩ := tot_val d ht
  have h3 : mayD k s = bOf d.val := by unfold mayD; rw [e]
  rw [h3, h1, h2]
  exact ⟨o, rfl⟩
theorem sp135_ok : SpecOk Tryz.prog 135 13 sp135 := spec_ok cW_ok fun n args sh r hr => by
  unfold sp135 at hr
  split at hr
  · rename_i o1 k o2 s
    obtain ⟨hs, hr⟩ := need_some hr
    have hs := of_decide_eq_true hs
    rw [seC_open]
    show ∃ r1, (seC Tryz.prog cW (n + 12) 135 [.i true .u16 k, .s true s] .empty).val = _ ∧ _
    obtain ⟨o, h1⟩ := mayD_eq k s n hs
    exact ⟨_, h1, by rw [← leaf_some hr]; exact ⟨rfl, rfl⟩⟩
  · cases hr
noncomputable def cD : Cfg := cW.addS 135 13 (lift sp135)
theorem cD_ok : CfgOk Tryz.prog cD := cW_ok.addS (lift_ok sp135_ok)
end Go.Proofs.YtgemonlknehegaaGreatDoor.AI
namespace Go.Proofs.YtgemonlknehegaaGreatDoor.AI
open Go
set_option linter.unusedVariables false
set_option linter.unusedSimpArgs false
set_option maxRecDepth 100000
theorem tk_len {s : List UInt8} : ∀ (n : Nat) (x : TS) (r : List UInt8 × Int), x.out.length ≤ 255 → tk n s x = some r → r.1.length ≤ 256
  | 0, _, _, _, h => by cases h
  | n + 1, x, r, hx, h => by
    have h' : (match tstep s x with | .err => none | .more y => tk n s y | .done n b => some (n, b)) = some r := h
    cases hs : tstep s x with
    | err => rw [hs] at h'; cases h'
    | more y => rw [hs] at h'; exact tk_len n y r (tstep_mu hx hs).2 h'
    | done m b =>
      rw [hs] at h'
      cases h'
      unfold tstep at hs
      repeat' (split at hs)
      all_goals first | (cases hs; done) | skip
      all_goals
        cases hs
        show (x.out ++ one s x.a).length ≤ 256
        rw [List.length_append]
        show x.out.length + 1 ≤ 256
        omega
theorem nmA_len (s : List UInt8) (a : Int) : (nmA s a).length ≤ 256 := by
  unfold nmA nmOf
  cases h : nameAt s a a (-1) with
  | none => exact Nat.zero_le _
  | some r => exact tk_len _ _ r (Nat.zero_le _) h
def lfD : Option (SV × SH) := some (SV.tuple [SV.s false [], SV.i false IntKind.i64 2], { objs := [], nm := 0 })
def nil8 : List UInt8 := []
theorem t148 (s : List UInt8) (a m k : Int) (n : Nat) : seC Tryz.prog cD (n + 14) 148 [.s true s, .i true .i64 a, .i true .i64 m, .i true .u16 k] .empty = .node (short s) (.node (okSome s a m) (.node (TB.c { o := true || false, c := decide (k = 1) }) (.node (short s) (.node (okSome s a 4) (.node (decide (IntKind.wrap IntKind.i64 (a + m) < a + 4)) (.leaf lfD) (.node (decide (List.length nil8 + List.length (sub8 s a 4) < 9223372036854775808)) (.node (!TB.c { o := true || true, c := decide (a + 4 = IntKind.wrap IntKind.i64 (a + m)) }) (.leaf lfD) (.node (decide (List.length (nil8 ++ sub8 s a 4) < 60000)) (.node (!mayD k (nil8 ++ sub8 s a 4)) (.leaf lfD) (.leaf (some (SV.tuple [SV.s true (nil8 ++ sub8 s a 4), SV.i false IntKind.i64 0], { objs := [], nm := 0 })))) .fail)) .fail)) (.leaf lfD)) .fail) (.node (TB.c { o := true || false, c := decide (k = 28) }) (.node (short s) (.node (okSome s a 16) (.node (decide (IntKind.wrap IntKind.i64 (a + m) < a + 16)) (.leaf lfD) (.node (decide (List.length nil8 + List.length (sub8 s a 16) < 9223372036854775808)) (.node (!TB.c { o := true || true, c := decide (a + 16 = IntKind.wrap IntKind.i64 (a + m)) }) (.leaf lfD) (.node (decide (List.length (nil8 ++ sub8 s a 16) < 60000)) (.node (!mayD k (nil8 ++ sub8 s a 16)) (.leaf lfD) (.leaf (some (SV.tuple [SV.s true (nil8 ++ sub8 s a 16), SV.i false IntKind.i64 0], { objs := [], nm := 0 })))) .fail)) .fail)) (.leaf lfD)) .fail) (.node (TB.c { o := true || false, c := decide (k = 2) }) (.node (short s && decide (a < 50000)) (.node (okA s a) (.node (decide (IntKind.wrap IntKind.i64 (a + m) < nxA s a)) (.leaf lfD) (.node (decide (List.length nil8 + List.length (nmA s a) < 9223372036854775808)) (.node (!TB.c { o := true || true, c := decide (nxA s a = IntKind.wrap IntKind.i64 (a + m)) }) (.leaf lfD) (.node (decide (List.length (nil8 ++ nmA s a) < 60000)) (.node (!mayD k (nil8 ++ nmA s a)) (.leaf lfD) (.leaf (some (SV.tuple [SV.s true (nil8 ++ nmA s a), SV.i false IntKind.i64 0], { objs := [], nm := 0 })))) .fail)) .fail)) (.leaf lfD)) .fail) (.node (TB.c { o := true || false, c := decide (k = 5) }) (.node (short s && decide (a < 50000)) (.node (okA s a) (.node (decide (IntKind.wrap IntKind.i64 (a + m) < nxA s a)) (.leaf lfD) (.node (decide (List.length nil8 + List.length (nmA s a) < 9223372036854775808)) (.node (!TB.c { o := true || true, c := decide (nxA s a = IntKind.wrap IntKind.i64 (a + m)) }) (.leaf lfD) (.node (decide (List.length (nil8 ++ nmA s a) < 60000)) (.node (!mayD k (nil8 ++ nmA s a)) (.leaf lfD) (.leaf (some (SV.tuple [SV.s true (nil8 ++ nmA s a), SV.i false IntKind.i64 0], { objs := [], nm := 0 })))) .fail)) .fail)) (.leaf lfD)) .fail) (.node (TB.c { o := true || false, c := decide (k = 12) }) (.node (short s && decide (a < 50000)) (.node (okA s a) (.node (decide (IntKind.wrap IntKind.i64 (a + m) < nxA s a)) (.leaf lfD) (.node (decide (List.length nil8 + List.length (nmA s a) < 9223372036854775808)) (.node (!TB.c { o := true || true, c := decide (nxA s a = IntKind.wrap IntKind.i64 (a + m)) }) (.leaf lfD) (.node (decide (List.length (nil8 ++ nmA s a) < 60000)) (.node (!mayD k (nil8 ++ nmA s a)) (.leaf lfD) (.leaf (some (SV.tuple [SV.s true (nil8 ++ nmA s a), SV.i false IntKind.i64 0], { objs := [], nm := 0 })))) .fail)) .fail)) (.leaf lfD)) .fail) (.node (TB.c { o := true || false, c := decide (k = 15) }) (.node (short s) (.node (okSome s a 2) (.node (decide (IntKind.wrap IntKind.i64 (a + m) < a + 2)) (.leaf lfD) (.node (decide (List.length nil8 + List.length (sub8 s a 2) < 9223372036854775808)) (.node (short s && decide (a + 2 < 50000)) (.node (okA s (a + 2)) (.node (decide (IntKind.wrap IntKind.i64 (a + m) < nxA s (a + 2))) (.leaf lfD) (.node (decide (List.length (nil8 ++ sub8 s a 2) + List.length (nmA s (a + 2)) < 9223372036854775808)) (.node (!TB.c { o := true || true, c := decide (nxA s (a + 2) = IntKind.wrap IntKind.i64 (a + m)) }) (.leaf lfD) (.node (decide (List.length (nil8 ++ sub8 s a 2 ++ nmA s (a + 2)) < 60000)) (.node (!mayD k (nil8 ++ sub8 s a 2 ++ nmA s (a + 2))) (.leaf lfD) (.leaf (some (SV.tuple [SV.s true (nil8 ++ sub8 s a 2 ++ nmA s (a + 2)), SV.i false IntKind.i64 0], { objs := [], nm := 0 })))) .fail)) .fail)) (.leaf lfD)) .fail) .fail)) (.leaf lfD)) .fail) (.node (TB.c { o := true || false, c := decide (k = 6) }) (.node (short s && decide (a < 50000)) (.node (okA s a) (.node (decide (IntKind.wrap IntKind.i64 (a + m) < nxA s a)) (.leaf lfD) (.node (decide (List.length nil8 + List.length (nmA s a) < 9223372036854775808)) (.node (short s && decide (nxA s a < 50000)) (.node (okA s (nxA s a)) (.node (decide (IntKind.wrap IntKind.i64 (a + m) < nxA s (nxA s a))) (.leaf lfD) (.node (decide (List.length (nil8 ++ nmA s a) + List.length (nmA s (nxA s a)) < 9223372036854775808)) (.node (short s) (.node (okSome s (nxA s (nxA s a)) 20) (.node (decide (IntKind.wrap IntKind.i64 (a + m) < nxA s (nxA s a) + 20)) (.leaf lfD) (.node (decide (List.length (nil8 ++ nmA s a ++ nmA s (nxA s a)) + List.length (sub8 s (nxA s (nxA s a)) 20) < 9223372036854775808)) (.node (!TB.c { o := true || true, c := decide (nxA s (nxA s a) + 20 = IntKind.wrap IntKind.i64 (a + m)) }) (.leaf lfD) (.node (decide (List.length (nil8 ++ nmA s a ++ nmA s (nxA s a) ++ sub8 s (nxA s (nxA s a)) 20) < 60000)) (.node (!mayD k (nil8 ++ nmA s a ++ nmA s (nxA s a) ++ sub8 s (nxA s (nxA s a)) 20)) (.leaf lfD) (.leaf (some (SV.tuple [SV.s true (nil8 ++ nmA s a ++ nmA s (nxA s a) ++ sub8 s (nxA s (nxA s a)) 20), SV.i false IntKind.i64 0], { objs := [], nm := 0 })))) .fail)) .fail)) (.leaf lfD)) .fail) .fail)) (.leaf lfD)) .fail) .fail)) (.leaf lfD)) .fail) (.node (TB.c { o := true || false, c := decide (k = 16) }) (.node (short s) (.node (okSome s a (IntKind.wrap IntKind.i64 (IntKind.wrap IntKind.i64 (a + m) - a))) (.node (decide (IntKind.wrap IntKind.i64 (a + m) < a + IntKind.wrap IntKind.i64 (IntKind.wrap IntKind.i64 (a + m) - a))) (.leaf lfD) (.node (decide (List.length nil8 + List.length (sub8 s a (IntKind.wrap IntKind.i64 (IntKind.wrap IntKind.i64 (a + m) - a))) < 9223372036854775808)) (.node (!TB.c { o := true || true, c := decide (a + IntKind.wrap IntKind.i64 (IntKind.wrap IntKind.i64 (a + m) - a) = IntKind.wrap IntKind.i64 (a + m)) }) (.leaf lfD) (.node (decide (List.length (nil8 ++ sub8 s a (IntKind.wrap IntKind.i64 (IntKind.wrap IntKind.i64 (a + m) - a))) < 60000)) (.node (!mayD k (nil8 ++ sub8 s a (IntKind.wrap IntKind.i64 (IntKind.wrap IntKind.i64 (a + m) - a)))) (.leaf lfD) (.leaf (some (SV.tuple [SV.s true (nil8 ++ sub8 s a (IntKind.wrap IntKind.i64 (IntKind.wrap IntKind.i64 (a + m) - a))), SV.i false IntKind.i64 0], { objs := [], nm := 0 })))) .fail)) .fail)) (.leaf lfD)) .fail) (.node (short s) (.node (okSome s a (IntKind.wrap IntKind.i64 (IntKind.wrap IntKind.i64 (a + m) - a))) (.node (decide (IntKind.wrap IntKind.i64 (a + m) < a + IntKind.wrap IntKind.i64 (IntKind.wrap IntKind.i64 (a + m) - a))) (.leaf lfD) (.node (decide (List.length nil8 + List.length (sub8 s a (IntKind.wrap IntKind.i64 (IntKind.wrap IntKind.i64 (a + m) - a))) < 9223372036854775808)) (.node (!TB.c { o := true || true, c := decide (a + IntKind.wrap IntKind.i64 (IntKind.wrap IntKind.i64 (a + m) - a) = IntKind.wrap IntKind.i64 (a + m)) }) (.leaf lfD) (.node (decide (List.length (nil8 ++ sub8 s a (IntKind.wrap IntKind.i64 (IntKind.wrap IntKind.i64 (a + m) - a))) < 60000)) (.node (!mayD k (nil8 ++ sub8 s a (IntKind.wrap IntKind.i64 (IntKind.wrap IntKind.i64 (a + m) - a)))) (.leaf lfD) (.leaf (some (SV.tuple [SV.s true (nil8 ++ sub8 s a (IntKind.wrap IntKind.i64 (IntKind.wrap IntKind.i64 (a + m) - a))), SV.i false IntKind.i64 0], { objs := [], nm := 0 })))) .fail)) .fail)) (.leaf lfD)) .fail))))))))) (.leaf lfD)) .fail := by kernel_rfl
def QT (p : Bool) (r : Option (SV × SH)) : Prop := ∃ o x o' y, r = some (.tuple [.s o x, .i o' .i64 y], ⟨[], 0⟩) ∧ (y = 0 → p = true)
theorem tot148 (s : List UInt8) (a m k : Int) (n : Nat) (hs : s.length < 40000) : Tot (QT (okSome s a m)) (seC Tryz.prog cD (n + 14) 148 [.s true s, .i true .i64 a, .i true .i64 m, .i true .u16 k] .empty) := by
  rw [t148]
  have n1 := nmA_len s a
  have n2 := nmA_len s (nxA s a)
  have n3 := nmA_len s (a + 2)
  refine tot_need (decide_eq_true (by omega)) (tot_node (fun hok => ?_) (fun _ => tot_leaf ⟨_, _, _, _, rfl, fun e => absurd e (by decide)⟩))
  have hok' := of_decide_eq_true hok
  rw [wrap64 (x := a + m) (by omega) (by omega)]
  repeat' first
    | refine tot_leaf ⟨_, _, _, _, rfl, fun _ => hok⟩
    | refine tot_need ?_ ?_
    | refine tot_node (fun h => ?_) (fun h => ?_)
  all_goals
    simp only [nil8, nn, tbc, short, okSome, sub8, Bool.and_eq_true, decide_eq_true_eq, decide_eq_false_iff_not, tn, Int.ofNat_eq_natCast, List.length_take, List.length_drop, List.length_append, List.length_cons, List.length_nil, and_self] at * <;> first | omega | exact decide_eq_true (by omega)
def sOf (o : Option (Option (SV × SH))) : List UInt8 := match o with | some (some (.tuple [.s _ x, _], _)) => x | _ => []
def eOf (o : Option (Option (SV × SH))) : Int := match o with | some (some (.tuple [_, .i _ _ y], _)) => y | _ => 0
/-- data, and whether they are: as the program tells -/
noncomputable def dtS (s : List UInt8) (a m k : Int) : List UInt8 := sOf (seC Tryz.prog cD (0 + 14) 148 [.s true s, .i true .i64 a, .i true .i64 m, .i true .u16 k] .empty).val
noncomputable def dtE (s : List UInt8) (a m k : Int) : Int := eOf (seC Tryz.prog cD (0 + 14) 148 [.s true s, .i true .i64 a, .i true .i64 m, .i true .u16 k] .empty).val
noncomputable def sp148 : Spec
  | [.s _ s, .i _ .i64 a, .i _ .i64 m, .i _ .u16 k], ⟨[], 0⟩ => .need (decide (s.length < 40000)) (.leaf (.tuple [.s true (dtS s a m k), .i true .i64 (dtE s a m k)], .empty))
  | _, _ => .fail
theorem dt_eq (s : List UInt8) (a m k : Int) (n : Nat) (hs : s.length < 40000) : (dtE s a m k = 0 → okSome s a m = true) ∧ ∃ o o', (seC Tryz.prog cD (n + 14) 148 [.s true s, .i true .i64 a, .i true .i64 m, .i true .u16 k] .empty).val = some (some (.tuple [.s o (dtS s a m k), .i o' .i64 (dtE s a m k)], ⟨[], 0⟩)) := by
  have e : seC Tryz.prog cD (0 + 14) 148 [.s true s, .i true .i64 a, .i true .i64 m, .i true .u16 k] .empty = seC Tryz.prog cD (n + 14) 148 [.s true s, .i true .i64 a, .i true .i64 m, .i true .u16 k] .empty := (t148 s a m k 0).trans (t148 s a m k n).symm
  have ht := tot148 s a m k n hs
  generalize hd : seC Tryz.prog cD (n + 14) 148 [.s true s, .i true .i64 a, .i true .i64 m, .i true .u16 k] .empty = d at e ht
  obtain ⟨r0, h1, o, x, o', y, h2, h5⟩ := tot_val d ht
  have h3 : dtS s a m k = sOf d.val := by unfold dtS; rw [e]
  have h4 : dtE s a m k = eOf d.val := by unfold dtE; rw [e]
  rw [h3, h4, h1, h2]
  exact ⟨h5, o, o', rfl⟩
theorem sp148_ok : SpecOk Tryz.prog 148 15 sp148 := spec_ok cD_ok fun n args sh r hr => by
  unfold sp148 at hr
  split at hr
  · rename_i o1 s o2 a o3 m o4 k
    obtain ⟨hs, hr⟩ := need_some hr
    have hs := of_decide_eq_true hs
    rw [seC_open]
    show ∃ r1, (seC Tryz.prog cD (n + 14) 148 [.s true s, .i true .i64 a, .i true .i64 m, .i true .u16 k] .empty).val = _ ∧ _
    obtain ⟨_, o, o', h1⟩ := dt_eq s a m k n hs
    exact ⟨_, h1, by rw [← leaf_some hr]; exact ⟨rfl, rfl⟩⟩
  · cases hr
noncomputable def cDt : Cfg := cD.addS 148 15 (lift sp148)
theorem cDt_ok : CfgOk Tryz.prog cDt := cD_ok.addS (lift_ok sp148_ok)
end Go.Proofs.YtgemonlknehegaaGreatDoor.AI
namespace Go.Proofs.YtgemonlknehegaaGreatDoor.AI
open Go
set_option linter.unusedVariables false
set_option linter.unusedSimpArgs false
set_option maxRecDepth 100000
def lfQ : Option (SV × SH) := some (SV.tuple [SV.agg [SV.s false [], SV.i false IntKind.u16 0, SV.i false IntKind.u16 0], SV.i false IntKind.i64 0, SV.i false IntKind.i64 2], { objs := [], nm := 0 })
theorem t89 (s : List UInt8) (a : Int) (n : Nat) : seC Tryz.prog cDt (n + 16) 89 [.s true s, .i true .i64 a] .empty = .node (short s && decide (a < 50000)) (.node (okA s a) (.node (short s) (.node (okSome s (nxA s a) 2) (.node (short s) (.node (okSome s (nxA s a + 2) 2) (.node (decide (nxA s a + 2 + 2 = nxA s a + 2 + 2)) (.leaf (some (SV.tuple [SV.agg [SV.s true (nmA s a), SV.i true IntKind.u16 ↑(u16 s (Int.toNat (nxA s a))), SV.i true IntKind.u16 ↑(u16 s (Int.toNat (nxA s a + 2)))], SV.i true IntKind.i64 (nxA s a + 2 + 2), SV.i false IntKind.i64 0], { objs := [], nm := 0 }))) .fail) (.leaf lfQ)) .fail) (.node (short s) (.node (okSome s 0 2) (.leaf lfQ) (.leaf lfQ)) .fail)) .fail) (.node (short s) (.node (okSome s 0 2) (.node (short s) (.node (okSome s (0 + 2) 2) (.leaf lfQ) (.leaf lfQ)) .fail) (.node (short s) (.node (okSome s 0 2) (.leaf lfQ) (.leaf lfQ)) .fail)) .fail)) .fail := by kernel_rfl
/-- is there a question at a place? -/
def okQ (s : List UInt8) (a : Int) : Bool := okA s a && (okSome s (nxA s a) 2 && okSome s (nxA s a + 2) 2)
def gdQ (s : List UInt8) (a : Int) : Option (SV × SH) := some (SV.tuple [SV.agg [SV.s true (nmA s a), SV.i true IntKind.u16 ((u16 s (Int.toNat (nxA s a)) : Nat) : Int), SV.i true IntKind.u16 ((u16 s (Int.toNat (nxA s a + 2)) : Nat) : Int)], SV.i true IntKind.i64 (nxA s a + 2 + 2), SV.i false IntKind.i64 0], { objs := [], nm := 0 })
def QQ (s : List UInt8) (a : Int) (r : Option (SV × SH)) : Prop := (okQ s a = true ∧ r = gdQ s a) ∨ (okQ s a = false ∧ r = lfQ)
theorem tot89 (s : List UInt8) (a : Int) (n : Nat) (hs : short s = true) (ha : a < 50000) : Tot (QQ s a) (seC Tryz.prog cDt (n + 16) 89 [.s true s, .i true .i64 a] .empty) := by
  rw [t89]
  have h0 : (short s && decide (a < 50000)) = true := by rw [hs, decide_eq_true ha]; rfl
  repeat' first
    | refine tot_need h0 ?_
    | refine tot_need hs ?_
    | refine tot_need (decide_eq_true rfl) ?_
    | refine tot_node (fun h => ?_) (fun h => ?_)
  all_goals refine tot_leaf ?_
  all_goals unfold QQ okQ
  all_goals first
    | exact .inl ⟨by simp only [*, Bool.and_self, Bool.and_true, Bool.true_and], rfl⟩
    | exact .inr ⟨by simp only [*, Bool.and_self, Bool.and_true, Bool.true_and, Bool.and_false, Bool.false_and], rfl⟩
def sp89 : Spec
  | [.s _ s, .i _ .i64 a], ⟨[], 0⟩ => .need (short s && decide (a < 50000)) (.node (okQ s a)
      (.leaf (.tuple [.agg [.s true (nmA s a), .i true .u16 ((u16 s (Int.toNat (nxA s a)) : Nat) : Int), .i true .u16 ((u16 s (Int.toNat (nxA s a + 2)) : Nat) : Int)], .i true .i64 (nxA s a + 2 + 2), .i false .i64 0], .empty))
      (.leaf (.tuple [.agg [.s false [], .i false .u16 0, .i false .u16 0], .i false .i64 0, .i false .i64 2], .empty)))
  | _, _ => .fail
theorem sp89_ok : SpecOk Tryz.prog 89 17 sp89 := spec_ok cDt_ok fun n args sh r hr => by
  unfold sp89 at hr
  split at hr
  · rename_i o1 s o2 a
    obtain ⟨h1, hr⟩ := need_some hr
    rw [Bool.and_eq_true] at h1
    rw [seC_open]
    show ∃ r1, (seC Tryz.prog cDt (n + 16) 89 [.s true s, .i true .i64 a] .empty).val = _ ∧ _
    have ht := tot89 s a n h1.1 (of_decide_eq_true h1.2)
    generalize hd : seC Tryz.prog cDt (n + 16) 89 [.s true s, .i true .i64 a] .empty = d at ht
    obtain ⟨r0, h2, h3⟩ := tot_val d ht
    rcases h3 with ⟨e, rfl⟩ | ⟨e, rfl⟩
    · rcases node_some hr with ⟨e', hr⟩ | ⟨e', hr⟩
      · exact ⟨_, h2, by rw [← leaf_some hr]; exact ⟨rfl, rfl⟩⟩
      · rw [e] at e'; cases e'
    · rcases node_some hr with ⟨e', hr⟩ | ⟨e', hr⟩
      · rw [e] at e'; cases e'
      · exact ⟨_, h2, by rw [← leaf_some hr]; exact ⟨rfl, rfl⟩⟩
  · cases hr
attribute [local irreducible] dtS dtE mayD
def lfR : Option (SV × SH) := some (SV.tuple [SV.agg [SV.s false [], SV.i false IntKind.u16 0, SV.i false IntKind.u16 0, SV.i false IntKind.u32 0, SV.s false []], SV.i false IntKind.i64 0, SV.i false IntKind.i64 2], { objs := [], nm := 0 })
theorem t90 (s : List UInt8) (a : Int) (n : Nat) : seC Tryz.prog cDt (n + 16) 90 [.s true s, .i true .i64 a] .empty = .node (short s && decide (a < 50000)) (.node (okA s a) (.node (short s) (.node (okSome s (nxA s a) 2) (.node (short s) (.node (okSome s (nxA s a + 2) 2) (.node (short s) (.node (okSome s (nxA s a + 2 + 2) 4) (.node (short s) (.node (okSome s (nxA s a + 2 + 2 + 4) 2) (.node (decide (List.length s < 40000)) (.node (!TB.c { o := true || false, c := decide (dtE s (nxA s a + 2 + 2 + 4 + 2) (IntKind.wrap IntKind.i64 ↑(u16 s (Int.toNat (nxA s a + 2 + 2 + 4)))) ↑(u16 s (Int.toNat (nxA s a))) = 0) }) (.leaf (some (SV.tuple [SV.agg [SV.s false [], SV.i false IntKind.u16 0, SV.i false IntKind.u16 0, SV.i false IntKind.u32 0, SV.s false []], SV.i false IntKind.i64 0, SV.i true IntKind.i64 (dtE s (nxA s a + 2 + 2 + 4 + 2) (IntKind.wrap IntKind.i64 ↑(u16 s (Int.toNat (nxA s a + 2 + 2 + 4)))) ↑(u16 s (Int.toNat (nxA s a))))], { objs := [], nm := 0 }))) (.node (decide (nxA s a + 2 + 2 + 4 + 2 = nxA s a + 2 + 2 + 4 + 2)) (.leaf (some (SV.tuple [SV.agg [SV.s true (nmA s a), SV.i true IntKind.u16 ↑(u16 s (Int.toNat (nxA s a))), SV.i true IntKind.u16 ↑(u16 s (Int.toNat (nxA s a + 2))), SV.i true IntKind.u32 ↑(u32 s (Int.toNat (nxA s a + 2 + 2))), SV.s true (dtS s (nxA s a + 2 + 2 + 4 + 2) (IntKind.wrap IntKind.i64 ↑(u16 s (Int.toNat (nxA s a + 2 + 2 + 4)))) ↑(u16 s (Int.toNat (nxA s a))))], SV.i true IntKind.i64 (IntKind.wrap IntKind.i64 (nxA s a + 2 + 2 + 4 + 2 + IntKind.wrap IntKind.i64 ↑(u16 s (Int.toNat (nxA s a + 2 + 2 + 4))))), SV.i false IntKind.i64 0], { objs := [], nm := 0 }))) .fail)) .fail) (.leaf lfR)) .fail) (.node (short s) (.node (okSome s 0 2) (.leaf lfR) (.leaf lfR)) .fail)) .fail) (.node (short s) (.node (okSome s 0 4) (.node (short s) (.node (okSome s (0 + 4) 2) (.leaf lfR) (.leaf lfR)) .fail) (.node (short s) (.node (okSome s 0 2) (.leaf lfR) (.leaf lfR)) .fail)) .fail)) .fail) (.node (short s) (.node (okSome s 0 2) (.node (short s) (.node (okSome s (0 + 2) 4) (.node (short s) (.node (okSome s (0 + 2 + 4) 2) (.leaf lfR) (.leaf lfR)) .fail) (.node (short s) (.node (okSome s 0 2) (.leaf lfR) (.leaf lfR)) .fail)) .fail) (.node (short s) (.node (okSome s 0 4) (.node (short s) (.node (okSome s (0 + 4) 2) (.leaf lfR) (.leaf lfR)) .fail) (.node (short s) (.node (okSome s 0 2) (.leaf lfR) (.leaf lfR)) .fail)) .fail)) .fail)) .fail) (.node (short s) (.node (okSome s 0 2) (.node (short s) (.node (okSome s (0 + 2) 2) (.node (short s) (.node (okSome s (0 + 2 + 2) 4) (.node (short s) (.node (okSome s (0 + 2 + 2 + 4) 2) (.leaf lfR) (.leaf lfR)) .fail) (.node (short s) (.node (okSome s 0 2) (.leaf lfR) (.leaf lfR)) .fail)) .fail) (.node (short s) (.node (okSome s 0 4) (.node (short s) (.node (okSome s (0 + 4) 2) (.leaf lfR) (.leaf lfR)) .fail) (.node (short s) (.node (okSome s 0 2) (.leaf lfR) (.leaf lfR)) .fail)) .fail)) .fail) (.node (short s) (.node (okSome s 0 2) (.node (short s) (.node (okSome s (0 + 2) 4) (.node (short s) (.node (okSome s (0 + 2 + 4) 2) (.leaf lfR) (.leaf lfR)) .fail) (.node (short s) (.node (okSome s 0 2) (.leaf lfR) (.leaf lfR)) .fail)) .fail) (.node (short s) (.node (okSome s 0 4) (.node (short s) (.node (okSome s (0 + 4) 2) (.leaf lfR) (.leaf lfR)) .fail) (.node (short s) (.node (okSome s 0 2) (.leaf lfR) (.leaf lfR)) .fail)) .fail)) .fail)) .fail)) .fail := by kernel_rfl
/-- a record's outcome: its parts, what is behind it, whether it is one -/
def QR (s : List UInt8) (r : Option (SV × SH)) : Prop := ∃ o1 o2 o3 o4 o5 o6 o7 nm ty cl tt dt nx er, r = some (.tuple [.agg [.s o1 nm, .i o2 .u16 ty, .i o3 .u16 cl, .i o4 .u32 tt, .s o5 dt], .i o6 .i64 nx, .i o7 .i64 er], ⟨[], 0⟩) ∧ (er = 0 → 0 ≤ nx ∧ nx ≤ s.length)
theorem u16_lt (s : List UInt8) (i : Nat) : u16 s i < 65536 := by
  have h1 := at8_lt s i
  have h2 := at8_lt s (i + 1)
  unfold u16; omega
set_option maxHeartbeats 2000000 in
theorem tot90 (s : List UInt8) (a : Int) (n : Nat) (hl : s.length < 40000) (ha : a < 50000) : Tot (QR s) (seC Tryz.prog cDt (n + 16) 90 [.s true s, .i true .i64 a] .empty) := by
  rw [t90]
  have hs : short s = true := decide_eq_true (by omega)
  have h0 : (short s && decide (a < 50000)) = true := by rw [hs, decide_eq_true ha]; rfl
  have hu := u16_lt s (Int.toNat (nxA s a + 2 + 2 + 4))
  have hw : IntKind.wrap IntKind.i64 ((u16 s (Int.toNat (nxA s a + 2 + 2 + 4)) : Nat) : Int) = ((u16 s (Int.toNat (nxA s a + 2 + 2 + 4)) : Nat) : Int) := wrap64 (by omega) (by omega)
  rw [hw]
  have hd := dt_eq s (nxA s a + 2 + 2 + 4 + 2) ((u16 s (Int.toNat (nxA s a + 2 + 2 + 4)) : Nat) : Int) ((u16 s (Int.toNat (nxA s a)) : Nat) : Int) 0 hl
  repeat' first
    | refine tot_need h0 ?_
    | refine tot_need hs ?_
    | refine tot_need (decide_eq_true hl) ?_
    | refine tot_need (decide_eq_true rfl) ?_
    | refine tot_node (fun h => ?_) (fun h => ?_)
  all_goals refine tot_leaf ?_
  all_goals first
    | exact ⟨_, _, _, _, _, _, _, _, _, _, _, _, _, _, rfl, fun e => by omega⟩
    | (refine ⟨_, _, _, _, _, _, _, _, _, _, _, _, _, _, rfl, fun e => ?_⟩
       rename_i h
       first
         | (rw [tbc, decide_eq_true e] at h; cases h; done)
         | (have h2 : dtE s (nxA s a + 2 + 2 + 4 + 2) ((u16 s (Int.toNat (nxA s a + 2 + 2 + 4)) : Nat) : Int) ((u16 s (Int.toNat (nxA s a)) : Nat) : Int) = 0 := by
              apply Classical.byContradiction
              intro hn
              rw [tbc, decide_eq_false hn] at h; cases h
            have h3 := of_decide_eq_true (hd.1 h2)
            rw [wrap64 (by omega) (by omega)]
            omega))
structure RcT where
  nm : List UInt8
  ty : Int
  cl : Int
  tt : Int
  dt : List UInt8
  nx : Int
  er : Int
def rcOf (o : Option (Option (SV × SH))) : RcT := match o with | some (some (.tuple [.agg [.s _ a, .i _ _ b, .i _ _ c, .i _ _ d, .s _ e], .i _ _ f, .i _ _ g], _)) => ⟨a, b, c, d, e, f, g⟩ | _ => ⟨[], 0, 0, 0, [], 0, 0⟩
/-- the record at a place: as the program tells -/
noncomputable def rcA (s : List UInt8) (a : Int) : RcT := rcOf (seC Tryz.prog cDt (0 + 16) 90 [.s true s, .i true .i64 a] .empty).val
def rcV (r : RcT) : SV := .tuple [.agg [.s true r.nm, .i true .u16 r.ty, .i true .u16 r.cl, .i true .u32 r.tt, .s true r.dt], .i true .i64 r.nx, .i true .i64 r.er]
theorem rc_eq (s : List UInt8) (a : Int) (n : Nat) (hl : s.length < 40000) (ha : a < 50000) : ((rcA s a).er = 0 → 0 ≤ (rcA s a).nx ∧ (rcA s a).nx ≤ s.length) ∧ ∃ v, (seC Tryz.prog cDt (n + 16) 90 [.s true s, .i true .i64 a] .empty).val = some (some (v, ⟨[], 0⟩)) ∧ v.opened = (rcV (rcA s a)).opened := by
  have e : seC Tryz.prog cDt (0 + 16) 90 [.s true s, .i true .i64 a] .empty = seC Tryz.prog cDt (n + 16) 90 [.s true s, .i true .i64 a] .empty := (t90 s a 0).trans (t90 s a n).symm
  have ht := tot90 s a n hl ha
  generalize hd : seC Tryz.prog cDt (n + 16) 90 [.s true s, .i true .i64 a] .empty = d at e ht
  obtain ⟨r0, h1, o1, o2, o3, o4, o5, o6, o7, nm, ty, cl, tt, dt, nx, er, h2, h5⟩ := tot_val d ht
  have h3 : rcA s a = rcOf d.val := by unfold rcA; rw [e]
  rw [h3, h1, h2]
  exact ⟨h5, _, rfl, rfl⟩
noncomputable def sp90 : Spec
  | [.s _ s, .i _ .i64 a], ⟨[], 0⟩ => .need (decide (s.length < 40000) && decide (a < 50000)) (.leaf (rcV (rcA s a), .empty))
  | _, _ => .fail
theorem sp90_ok : SpecOk Tryz.prog 90 17 sp90 := spec_ok cDt_ok fun n args sh r hr => by
  unfold sp90 at hr
  split at hr
  · rename_i o1 s o2 a
    obtain ⟨h1, hr⟩ := need_some hr
    rw [Bool.and_eq_true] at h1
    rw [seC_open]
    show ∃ r1, (seC Tryz.prog cDt (n + 16) 90 [.s true s, .i true .i64 a] .empty).val = _ ∧ _
    obtain ⟨_, v, h2, h3⟩ := rc_eq s a n (of_decide_eq_true h1.1) (of_decide_eq_true h1.2)
    exact ⟨_, h2, by rw [← leaf_some hr]; exact ⟨h3, rfl⟩⟩
  · cases hr
noncomputable def cR : Cfg := (cDt.addS 89 17 (lift sp89)).addS 90 17 (lift sp90)
theorem cR_ok : CfgOk Tryz.prog cR := (cDt_ok.addS (lift_ok sp89_ok)).addS (lift_ok sp90_ok)
end Go.Proofs.YtgemonlknehegaaGreatDoor.AI
