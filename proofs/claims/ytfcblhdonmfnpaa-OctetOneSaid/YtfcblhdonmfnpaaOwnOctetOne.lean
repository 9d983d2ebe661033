/- OctetOne: a part of one byte is that byte, and a part of no byte is nothing, wherever it begins in the string or at its end; for every string (2000 bytes at most) and place. -/
import Derived.Test.YtfcblhdonmfnpaaOwnOctet
namespace Go.Proofs.Ytfcblhdonmfnpaa.OwnOne
open Go.RowKit Go.Proofs.Ytfcblhdonmfnpaa.POctetTells Go.Proofs.Ytfcblhdonmfnpaa.Own Go.Proofs.YtfcblhdonmfnpaaW.PrintWords Go.Proofs.YtfcblhdonmfnpaaW.PrintLast Go.Proofs.YtfcblhdonmfnpaaW.PrintMore
set_option linter.unusedVariables false
set_option maxHeartbeats 400000 in
theorem one_long (k : Nat) (s : ByteArray) (a : Int) (w : World) (hs : 2000 < s.size) (A4 : Aside0 (derricklaw01_shown.f k = some true)) :
    Calls Try.prog 5 #[.string s, .int .u8 a] w fun e w' => e = .returned (.bool true) ∧ Below w.heap.size w w' := by
  have g0 : decide (2000 < (s.size : Int)) = true := decide_eq_true (by omega)
  go_enter Try.func5, Try.ntmps5
  go_wp2_with (go_at_call 8; refine (derricklaw01_shown.calls k true _ A4.out).mono ?_; rintro e w1 ⟨rfl, hb1⟩)
  go_ret
  exact ⟨rfl, by repeat (first | exact hb1 | apply pw_below_drewN | apply below_drew1)⟩
set_option maxHeartbeats 400000 in
theorem one_in (k : Nat) (s : ByteArray) (a n : Int) (w : World) (hs : s.size ≤ 2000) (h0 : 0 ≤ a) (h1 : a ≤ 255) (h2 : a < (s.size : Int))
    (A4 : Aside0 (derricklaw01_shown.f k = some true)) (A5 : Aside0 (octet_Some.f s a 1 = some (strOfNums [n], a + 1, 0))) (A6 : Aside0 (octet_U8.f k s a = some (n, a + 1, 0))) (A7 : Aside0 (octet_Some.f s a 0 = some (⟨#[]⟩, a, 0))) :
    Calls Try.prog 5 #[.string s, .int .u8 a] w fun e w' => e = .returned (.bool true) ∧ Below w.heap.size w w' := by
  have HB := Aside0.mk (Below.refl w.heap.size w)
  have g0 : decide (2000 < (s.size : Int)) = false := decide_eq_false (by omega)
  have g1 : decide (a ≤ (s.size : Int)) = true := decide_eq_true (by omega)
  clear hs h2
  go_enter Try.func5, Try.ntmps5
  go_wp2_with (first | (go_at_call 8; refine (derricklaw01_shown.calls k true _ A4.out).mono ?_; rintro e w1 ⟨rfl, hb1⟩; have n0_ := Aside0.mk (below_step HB.out hb1); clear HB; have HB := n0_; clear n0_ hb1) | (go_at_call 9; (with_reducible refine (octet_Some.calls s a 1 (strOfNums [n]) (a + 1) 0 _ A5.out).mono ?_); rintro e w2 ⟨rfl, ⟨n2, rfl⟩⟩) | (go_at_call 12; (with_reducible refine (octet_U8.calls k s a n (a + 1) 0 _ A6.out).mono ?_); rintro e w2 ⟨rfl, ⟨n2, rfl⟩⟩) | (go_at_call 9; (with_reducible refine (octet_Some.calls s a 0 ⟨#[]⟩ a 0 _ A7.out).mono ?_); rintro e w2 ⟨rfl, ⟨n2, rfl⟩⟩) | ((with_reducible refine gate_dst (N := 61) rfl ?_); (try (refine gate_guard (by rfl) ?_; dsimp only)); refine Kd.R_lit (Kd.int .u8) _ 5 ?hg (N := 61) ?hd (xs := ([n] : List Int)) (inner := [.int .u8 n]) (ok := fun _ => True) (okp := fun _ => True) ?hr ?hp (fun _ hk => hk) trivial (Below.refl _ _) (Nat.le_refl _) (by simp) ?_; (case hd => rfl); (case hg => rfl); (case hr => first | (go_simp; done) | (go_simp; rfl)); (case hp => exact (Reps.one (show Kd.M (Kd.int .u8) _ _ _ n [.int .u8 n] from rfl) (Reps.none _ _))); intro v133 w22 ho23 hb hg_ hnew_; clear hg_ hnew_; have n0_ := Aside0.mk (Kd.R_lower ho23 (below_size (by repeat (first | (with_reducible first | exact HB.out | apply below_alloc | apply pw_below_drewN | apply below_drew1) | exact HB.out)))); have n1_ := Aside0.mk (below_step (by repeat (first | (with_reducible first | exact HB.out | apply below_alloc | apply pw_below_drewN | apply below_drew1) | exact HB.out)) hb); clear HB; have HO134 := n0_; have HB := n1_; clear n0_ n1_; clear hb ho23; have hcv24 := own_string (P := Try.prog) Try.underlying36 Try.underlying5 Try.underlying9 (Kd.own_of_R HO134.out)))
  go_ret
  exact ⟨by first | rfl | (simp [*] <;> rfl), by repeat (first | (with_reducible first | exact HB.out | apply below_alloc | apply pw_below_drewN | apply below_drew1) | exact HB.out)⟩
set_option maxHeartbeats 400000 in
theorem one_edge (k : Nat) (s : ByteArray) (a : Int) (w : World) (hs : s.size ≤ 2000) (h0 : 0 ≤ a) (h1 : a ≤ 255) (h2 : a = (s.size : Int))
    (A4 : Aside0 (derricklaw01_shown.f k = some true)) (A5 : Aside0 (octet_Some.f s a 1 = some (⟨#[]⟩, 0, 2))) (A6 : Aside0 (octet_U8.f k s a = some (0, 0, 2))) (A7 : Aside0 (octet_Some.f s a 0 = some (⟨#[]⟩, a, 0))) :
    Calls Try.prog 5 #[.string s, .int .u8 a] w fun e w' => e = .returned (.bool true) ∧ Below w.heap.size w w' := by
  have g0 : decide (2000 < (s.size : Int)) = false := decide_eq_false (by omega)
  have g1 : decide (a ≤ (s.size : Int)) = true := decide_eq_true (by omega)
  clear hs h2
  go_enter Try.func5, Try.ntmps5
  go_wp2_with (first | (go_at_call 8; refine (derricklaw01_shown.calls k true _ A4.out).mono ?_; rintro e w1 ⟨rfl, hb1⟩) | (go_at_call 9; (with_reducible refine (octet_Some.calls s a 1 ⟨#[]⟩ 0 2 _ A5.out).mono ?_); rintro e w2 ⟨rfl, ⟨n2, rfl⟩⟩) | (go_at_call 12; (with_reducible refine (octet_U8.calls k s a 0 0 2 _ A6.out).mono ?_); rintro e w2 ⟨rfl, ⟨n2, rfl⟩⟩) | (go_at_call 9; (with_reducible refine (octet_Some.calls s a 0 ⟨#[]⟩ a 0 _ A7.out).mono ?_); rintro e w2 ⟨rfl, ⟨n2, rfl⟩⟩))
  go_ret
  exact ⟨by first | rfl | (simp [*] <;> rfl), by repeat (first | exact hb1 | apply pw_below_drewN | apply below_drew1)⟩
set_option maxHeartbeats 400000 in
theorem one_out (k : Nat) (s : ByteArray) (a : Int) (w : World) (hs : s.size ≤ 2000) (h0 : 0 ≤ a) (h1 : a ≤ 255) (h2 : (s.size : Int) < a)
    (A4 : Aside0 (derricklaw01_shown.f k = some true)) (A5 : Aside0 (octet_Some.f s a 1 = some (⟨#[]⟩, 0, 2))) (A6 : Aside0 (octet_U8.f k s a = some (0, 0, 2))) (A7 : Aside0 (octet_Some.f s a 0 = some (⟨#[]⟩, 0, 2))) :
    Calls Try.prog 5 #[.string s, .int .u8 a] w fun e w' => e = .returned (.bool true) ∧ Below w.heap.size w w' := by
  have g0 : decide (2000 < (s.size : Int)) = false := decide_eq_false (by omega)
  have g1 : decide (a ≤ (s.size : Int)) = false := decide_eq_false (by omega)
  clear hs h2
  go_enter Try.func5, Try.ntmps5
  go_wp2_with (first | (go_at_call 8; refine (derricklaw01_shown.calls k true _ A4.out).mono ?_; rintro e w1 ⟨rfl, hb1⟩) | (go_at_call 9; (with_reducible refine (octet_Some.calls s a 1 ⟨#[]⟩ 0 2 _ A5.out).mono ?_); rintro e w2 ⟨rfl, ⟨n2, rfl⟩⟩) | (go_at_call 12; (with_reducible refine (octet_U8.calls k s a 0 0 2 _ A6.out).mono ?_); rintro e w2 ⟨rfl, ⟨n2, rfl⟩⟩) | (go_at_call 9; (with_reducible refine (octet_Some.calls s a 0 ⟨#[]⟩ 0 2 _ A7.out).mono ?_); rintro e w2 ⟨rfl, ⟨n2, rfl⟩⟩))
  go_ret
  exact ⟨by first | rfl | (simp [*] <;> rfl), by repeat (first | exact hb1 | apply pw_below_drewN | apply below_drew1)⟩

theorem nums_one (s : ByteArray) (a : Int) (h0 : 0 ≤ a) (h : a < (s.size : Int)) : s.extract a.toNat (a + 1).toNat = strOfNums [by_ s a.toNat] := by
  have r := by_range s a.toNat
  have hl : a.toNat < s.size := by omega
  have e : by_ s a.toNat = ((s[a.toNat]'hl).toNat : Int) := by_get s _ hl
  rw [e]
  apply ByteArray.ext
  rw [show (a + 1).toNat = a.toNat + 1 by omega]
  simp only [strOfNums, List.map_cons, List.map_nil, Int.toNat_natCast, UInt8.ofNat_toNat, ByteArray.data_extract]
  apply Array.ext
  · simp; omega
  · intro i h1 h2
    have : i = 0 := by simp at h2; omega
    subst this
    simp [ByteArray.getElem_eq_getElem_data]
theorem nums_none (s : ByteArray) (a : Int) : s.extract a.toNat (a + 0).toNat = ⟨#[]⟩ := by
  rw [Int.add_zero]
  apply ByteArray.ext
  simp

theorem walk (s : ByteArray) (a : Int) (w : World) (ws : s.size ≤ 140737488351232) (wa : (Lit.int .u8 a).wf = true) :
    Calls Try.prog 5 #[.string s, .int .u8 a] w fun e w' => e = .returned (.bool true) ∧ Below w.heap.size w w' := by
  have hr := u8_of wa
  have A4 : Aside0 (derricklaw01_shown.f 9 = some true) := ⟨shown_is 9 (by decide)⟩
  by_cases hs : 2000 < s.size
  · exact one_long 9 s a w hs A4
  · have hs' : s.size ≤ 2000 := by omega
    by_cases h : a < (s.size : Int)
    · have A5 := some_yes s (by omega) a 1 (by unfold fits; omega)
      rw [nums_one s a hr.1 h] at A5
      have A7 := some_yes s (by omega) a 0 (by unfold fits; omega)
      rw [nums_none s a, Int.add_zero] at A7
      exact one_in 9 s a _ w hs' hr.1 hr.2 h A4 ⟨A5⟩ ⟨u8_yes s (by omega) a 9 (by decide) (by unfold fits; omega)⟩ ⟨A7⟩
    · have A5 := some_no s (by omega) a 1 (by unfold fits; omega)
      have A6 := u8_no s (by omega) a 9 (by decide) (by unfold fits; omega)
      by_cases h2 : a = (s.size : Int)
      · have A7 := some_yes s (by omega) a 0 (by unfold fits; omega)
        rw [nums_none s a, Int.add_zero] at A7
        exact one_edge 9 s a w hs' hr.1 hr.2 h2 A4 ⟨A5⟩ ⟨A6⟩ ⟨A7⟩
      · exact one_out 9 s a w hs' hr.1 hr.2 (by omega) A4 ⟨A5⟩ ⟨A6⟩ ⟨some_no s (by omega) a 0 (by unfold fits; omega)⟩
end Go.Proofs.Ytfcblhdonmfnpaa.OwnOne
