/- OctetEnds: where there are not so many bytes from a place on, Some and U8 tell nothing, and where there are they tell that part; for every string (2000 bytes at most), place and number. -/
import Derived.Test.YtfcblhdonmfnpaaOwnOctet
namespace Go.Proofs.Ytfcblhdonmfnpaa.OwnEnds
open Go.RowKit Go.Proofs.Ytfcblhdonmfnpaa.POctetTells Go.Proofs.Ytfcblhdonmfnpaa.Own Go.Proofs.YtfcblhdonmfnpaaW.PrintWords Go.Proofs.YtfcblhdonmfnpaaW.PrintLast Go.Proofs.YtfcblhdonmfnpaaW.PrintMore
set_option linter.unusedVariables false
set_option maxHeartbeats 400000 in
theorem ends_long (k : Nat) (s : ByteArray) (a m : Int) (w : World) (hs : 2000 < s.size) (A4 : Aside0 (derricklaw01_shown.f k = some true)) :
    Calls Try.prog 4 #[.string s, .int .i64 a, .int .i64 m] w fun e w' => e = .returned (.bool true) ∧ Below w.heap.size w w' := by
  have g0 : decide (2000 < (s.size : Int)) = true := decide_eq_true (by omega)
  go_enter Try.func4, Try.ntmps4
  go_wp2_with (go_at_call 8; refine (derricklaw01_shown.calls k true _ A4.out).mono ?_; rintro e w1 ⟨rfl, hb1⟩)
  go_ret
  exact ⟨rfl, by repeat (first | exact hb1 | apply pw_below_drewN | apply below_drew1)⟩
set_option maxHeartbeats 400000 in
theorem ends_yes (k : Nat) (s : ByteArray) (a m : Int) (x : ByteArray) (b c : Int) (w : World) (hs : s.size ≤ 2000) (hr : -9223372036854775808 ≤ a ∧ a ≤ 9223372036854775807) (hm : -9223372036854775808 ≤ m ∧ m ≤ 9223372036854775807) (h0 : 0 ≤ a) (h1 : 0 ≤ m) (h2 : a < (s.size : Int)) (h3 : m ≤ (s.size : Int) - a) (hx : (x.size : Int) = m)
    (A4 : Aside0 (derricklaw01_shown.f k = some true)) (A7 : Aside0 (octet_Some.f s a m = some (x, (a + m), 0))) (A8 : Aside0 (octet_U8.f k s a = some (b, c, 0))) :
    Calls Try.prog 4 #[.string s, .int .i64 a, .int .i64 m] w fun e w' => e = .returned (.bool true) ∧ Below w.heap.size w w' := by
  have g0 : decide (2000 < (s.size : Int)) = false := decide_eq_false (by omega)
  have g1 : decide (0 ≤ a) = true := decide_eq_true h0
  have g2 : decide (0 ≤ m) = true := decide_eq_true h1
  have g3 : decide (a ≤ (s.size : Int)) = true := decide_eq_true (by omega)
  have g4 : wrap64 ((s.size : Int) - a) = (s.size : Int) - a := wrap_in (by omega) (by omega)
  have g5 : decide (m ≤ (s.size : Int) - a) = true := decide_eq_true (by omega)
  have g8 : decide (a < (s.size : Int)) = true := decide_eq_true h2
  have g6 : ((x.size : Int) == m) = true := beq_iff_eq.mpr hx
  have g7 : wrap64 (a + m) = a + m := wrap_in (by omega) (by omega)
  clear hs hr hm hx
  go_enter Try.func4, Try.ntmps4
  go_wp2_with (first | (go_at_call 8; refine (derricklaw01_shown.calls k true _ A4.out).mono ?_; rintro e w1 ⟨rfl, hb1⟩) | (go_at_call 9; refine (octet_Some.calls s a m x (a + m) 0 _ A7.out).mono ?_; rintro e w2 ⟨rfl, ⟨n2, rfl⟩⟩) | (go_at_call 12; refine (octet_U8.calls k s a b c 0 _ A8.out).mono ?_; rintro e w3 ⟨rfl, ⟨n3, rfl⟩⟩))
  go_ret
  exact ⟨by first | rfl | (simp [*] <;> rfl), by repeat (first | exact hb1 | apply pw_below_drewN | apply below_drew1)⟩
set_option maxHeartbeats 400000 in
theorem ends_edge (k : Nat) (s : ByteArray) (a m : Int) (x : ByteArray) (w : World) (hs : s.size ≤ 2000) (hr : -9223372036854775808 ≤ a ∧ a ≤ 9223372036854775807) (hm : -9223372036854775808 ≤ m ∧ m ≤ 9223372036854775807) (h0 : 0 ≤ a) (h1 : 0 ≤ m) (h2 : a = (s.size : Int)) (h3 : m ≤ (s.size : Int) - a) (hx : (x.size : Int) = m)
    (A4 : Aside0 (derricklaw01_shown.f k = some true)) (A7 : Aside0 (octet_Some.f s a m = some (x, (a + m), 0))) (A8 : Aside0 (octet_U8.f k s a = some (0, 0, 2))) :
    Calls Try.prog 4 #[.string s, .int .i64 a, .int .i64 m] w fun e w' => e = .returned (.bool true) ∧ Below w.heap.size w w' := by
  have g0 : decide (2000 < (s.size : Int)) = false := decide_eq_false (by omega)
  have g1 : decide (0 ≤ a) = true := decide_eq_true h0
  have g2 : decide (0 ≤ m) = true := decide_eq_true h1
  have g3 : decide (a ≤ (s.size : Int)) = true := decide_eq_true (by omega)
  have g4 : wrap64 ((s.size : Int) - a) = (s.size : Int) - a := wrap_in (by omega) (by omega)
  have g5 : decide (m ≤ (s.size : Int) - a) = true := decide_eq_true (by omega)
  have g8 : decide (a < (s.size : Int)) = false := decide_eq_false (by omega)
  have g6 : ((x.size : Int) == m) = true := beq_iff_eq.mpr hx
  have g7 : wrap64 (a + m) = a + m := wrap_in (by omega) (by omega)
  clear hs hr hm hx h2
  go_enter Try.func4, Try.ntmps4
  go_wp2_with (first | (go_at_call 8; refine (derricklaw01_shown.calls k true _ A4.out).mono ?_; rintro e w1 ⟨rfl, hb1⟩) | (go_at_call 9; refine (octet_Some.calls s a m x (a + m) 0 _ A7.out).mono ?_; rintro e w2 ⟨rfl, ⟨n2, rfl⟩⟩) | (go_at_call 12; refine (octet_U8.calls k s a 0 0 2 _ A8.out).mono ?_; rintro e w3 ⟨rfl, ⟨n3, rfl⟩⟩))
  go_ret
  exact ⟨by first | rfl | (simp [*] <;> rfl), by repeat (first | exact hb1 | apply pw_below_drewN | apply below_drew1)⟩
set_option maxHeartbeats 400000 in
theorem ends_below (k : Nat) (s : ByteArray) (a m : Int) (w : World) (hs : s.size ≤ 2000) (hr : -9223372036854775808 ≤ a ∧ a ≤ 9223372036854775807) (hm : -9223372036854775808 ≤ m ∧ m ≤ 9223372036854775807) (h0 : a < 0)
    (A4 : Aside0 (derricklaw01_shown.f k = some true)) (A7 : Aside0 (octet_Some.f s a m = some (⟨#[]⟩, 0, 2))) (A8 : Aside0 (octet_U8.f k s a = some (0, 0, 2))) :
    Calls Try.prog 4 #[.string s, .int .i64 a, .int .i64 m] w fun e w' => e = .returned (.bool true) ∧ Below w.heap.size w w' := by
  have g0 : decide (2000 < (s.size : Int)) = false := decide_eq_false (by omega)
  have g1 : decide (0 ≤ a) = false := decide_eq_false (by omega)
  have g8 : decide (a < (s.size : Int)) = true := decide_eq_true (by omega)
  clear hs hr hm
  go_enter Try.func4, Try.ntmps4
  go_wp2_with (first | (go_at_call 8; refine (derricklaw01_shown.calls k true _ A4.out).mono ?_; rintro e w1 ⟨rfl, hb1⟩) | (go_at_call 9; refine (octet_Some.calls s a m ⟨#[]⟩ 0 2 _ A7.out).mono ?_; rintro e w2 ⟨rfl, ⟨n2, rfl⟩⟩) | (go_at_call 12; refine (octet_U8.calls k s a 0 0 2 _ A8.out).mono ?_; rintro e w3 ⟨rfl, ⟨n3, rfl⟩⟩))
  go_ret
  exact ⟨by first | rfl | (simp [*] <;> rfl), by repeat (first | exact hb1 | apply pw_below_drewN | apply below_drew1)⟩
set_option maxHeartbeats 400000 in
theorem ends_less_in (k : Nat) (s : ByteArray) (a m : Int) (b c : Int) (w : World) (hs : s.size ≤ 2000) (hr : -9223372036854775808 ≤ a ∧ a ≤ 9223372036854775807) (hm : -9223372036854775808 ≤ m ∧ m ≤ 9223372036854775807) (h0 : 0 ≤ a) (h1 : m < 0) (h2 : a < (s.size : Int))
    (A4 : Aside0 (derricklaw01_shown.f k = some true)) (A7 : Aside0 (octet_Some.f s a m = some (⟨#[]⟩, 0, 2))) (A8 : Aside0 (octet_U8.f k s a = some (b, c, 0))) :
    Calls Try.prog 4 #[.string s, .int .i64 a, .int .i64 m] w fun e w' => e = .returned (.bool true) ∧ Below w.heap.size w w' := by
  have g0 : decide (2000 < (s.size : Int)) = false := decide_eq_false (by omega)
  have g1 : decide (0 ≤ a) = true := decide_eq_true h0
  have g2 : decide (0 ≤ m) = false := decide_eq_false (by omega)
  have g8 : decide (a < (s.size : Int)) = true := decide_eq_true h2
  clear hs hr hm
  go_enter Try.func4, Try.ntmps4
  go_wp2_with (first | (go_at_call 8; refine (derricklaw01_shown.calls k true _ A4.out).mono ?_; rintro e w1 ⟨rfl, hb1⟩) | (go_at_call 9; refine (octet_Some.calls s a m ⟨#[]⟩ 0 2 _ A7.out).mono ?_; rintro e w2 ⟨rfl, ⟨n2, rfl⟩⟩) | (go_at_call 12; refine (octet_U8.calls k s a b c 0 _ A8.out).mono ?_; rintro e w3 ⟨rfl, ⟨n3, rfl⟩⟩))
  go_ret
  exact ⟨by first | rfl | (simp [*] <;> rfl), by repeat (first | exact hb1 | apply pw_below_drewN | apply below_drew1)⟩
set_option maxHeartbeats 400000 in
theorem ends_less_out (k : Nat) (s : ByteArray) (a m : Int) (w : World) (hs : s.size ≤ 2000) (hr : -9223372036854775808 ≤ a ∧ a ≤ 9223372036854775807) (hm : -9223372036854775808 ≤ m ∧ m ≤ 9223372036854775807) (h0 : 0 ≤ a) (h1 : m < 0) (h2 : (s.size : Int) ≤ a)
    (A4 : Aside0 (derricklaw01_shown.f k = some true)) (A7 : Aside0 (octet_Some.f s a m = some (⟨#[]⟩, 0, 2))) (A8 : Aside0 (octet_U8.f k s a = some (0, 0, 2))) :
    Calls Try.prog 4 #[.string s, .int .i64 a, .int .i64 m] w fun e w' => e = .returned (.bool true) ∧ Below w.heap.size w w' := by
  have g0 : decide (2000 < (s.size : Int)) = false := decide_eq_false (by omega)
  have g1 : decide (0 ≤ a) = true := decide_eq_true h0
  have g2 : decide (0 ≤ m) = false := decide_eq_false (by omega)
  have g8 : decide (a < (s.size : Int)) = false := decide_eq_false (by omega)
  clear hs hr hm
  go_enter Try.func4, Try.ntmps4
  go_wp2_with (first | (go_at_call 8; refine (derricklaw01_shown.calls k true _ A4.out).mono ?_; rintro e w1 ⟨rfl, hb1⟩) | (go_at_call 9; refine (octet_Some.calls s a m ⟨#[]⟩ 0 2 _ A7.out).mono ?_; rintro e w2 ⟨rfl, ⟨n2, rfl⟩⟩) | (go_at_call 12; refine (octet_U8.calls k s a 0 0 2 _ A8.out).mono ?_; rintro e w3 ⟨rfl, ⟨n3, rfl⟩⟩))
  go_ret
  exact ⟨by first | rfl | (simp [*] <;> rfl), by repeat (first | exact hb1 | apply pw_below_drewN | apply below_drew1)⟩
set_option maxHeartbeats 400000 in
theorem ends_beyond (k : Nat) (s : ByteArray) (a m : Int) (w : World) (hs : s.size ≤ 2000) (hr : -9223372036854775808 ≤ a ∧ a ≤ 9223372036854775807) (hm : -9223372036854775808 ≤ m ∧ m ≤ 9223372036854775807) (h0 : 0 ≤ a) (h1 : 0 ≤ m) (h2 : (s.size : Int) < a)
    (A4 : Aside0 (derricklaw01_shown.f k = some true)) (A7 : Aside0 (octet_Some.f s a m = some (⟨#[]⟩, 0, 2))) (A8 : Aside0 (octet_U8.f k s a = some (0, 0, 2))) :
    Calls Try.prog 4 #[.string s, .int .i64 a, .int .i64 m] w fun e w' => e = .returned (.bool true) ∧ Below w.heap.size w w' := by
  have g0 : decide (2000 < (s.size : Int)) = false := decide_eq_false (by omega)
  have g1 : decide (0 ≤ a) = true := decide_eq_true h0
  have g2 : decide (0 ≤ m) = true := decide_eq_true h1
  have g3 : decide (a ≤ (s.size : Int)) = false := decide_eq_false (by omega)
  have g8 : decide (a < (s.size : Int)) = false := decide_eq_false (by omega)
  clear hs hr hm
  go_enter Try.func4, Try.ntmps4
  go_wp2_with (first | (go_at_call 8; refine (derricklaw01_shown.calls k true _ A4.out).mono ?_; rintro e w1 ⟨rfl, hb1⟩) | (go_at_call 9; refine (octet_Some.calls s a m ⟨#[]⟩ 0 2 _ A7.out).mono ?_; rintro e w2 ⟨rfl, ⟨n2, rfl⟩⟩) | (go_at_call 12; refine (octet_U8.calls k s a 0 0 2 _ A8.out).mono ?_; rintro e w3 ⟨rfl, ⟨n3, rfl⟩⟩))
  go_ret
  exact ⟨by first | rfl | (simp [*] <;> rfl), by repeat (first | exact hb1 | apply pw_below_drewN | apply below_drew1)⟩
set_option maxHeartbeats 400000 in
theorem ends_more_in (k : Nat) (s : ByteArray) (a m : Int) (b c : Int) (w : World) (hs : s.size ≤ 2000) (hr : -9223372036854775808 ≤ a ∧ a ≤ 9223372036854775807) (hm : -9223372036854775808 ≤ m ∧ m ≤ 9223372036854775807) (h0 : 0 ≤ a) (h1 : 0 ≤ m) (h2 : a < (s.size : Int)) (h3 : (s.size : Int) - a < m)
    (A4 : Aside0 (derricklaw01_shown.f k = some true)) (A7 : Aside0 (octet_Some.f s a m = some (⟨#[]⟩, 0, 2))) (A8 : Aside0 (octet_U8.f k s a = some (b, c, 0))) :
    Calls Try.prog 4 #[.string s, .int .i64 a, .int .i64 m] w fun e w' => e = .returned (.bool true) ∧ Below w.heap.size w w' := by
  have g0 : decide (2000 < (s.size : Int)) = false := decide_eq_false (by omega)
  have g1 : decide (0 ≤ a) = true := decide_eq_true h0
  have g2 : decide (0 ≤ m) = true := decide_eq_true h1
  have g3 : decide (a ≤ (s.size : Int)) = true := decide_eq_true (by omega)
  have g4 : wrap64 ((s.size : Int) - a) = (s.size : Int) - a := wrap_in (by omega) (by omega)
  have g5 : decide (m ≤ (s.size : Int) - a) = false := decide_eq_false (by omega)
  have g8 : decide (a < (s.size : Int)) = true := decide_eq_true h2
  clear hs hr hm
  go_enter Try.func4, Try.ntmps4
  go_wp2_with (first | (go_at_call 8; refine (derricklaw01_shown.calls k true _ A4.out).mono ?_; rintro e w1 ⟨rfl, hb1⟩) | (go_at_call 9; refine (octet_Some.calls s a m ⟨#[]⟩ 0 2 _ A7.out).mono ?_; rintro e w2 ⟨rfl, ⟨n2, rfl⟩⟩) | (go_at_call 12; refine (octet_U8.calls k s a b c 0 _ A8.out).mono ?_; rintro e w3 ⟨rfl, ⟨n3, rfl⟩⟩))
  go_ret
  exact ⟨by first | rfl | (simp [*] <;> rfl), by repeat (first | exact hb1 | apply pw_below_drewN | apply below_drew1)⟩
set_option maxHeartbeats 400000 in
theorem ends_more_out (k : Nat) (s : ByteArray) (a m : Int) (w : World) (hs : s.size ≤ 2000) (hr : -9223372036854775808 ≤ a ∧ a ≤ 9223372036854775807) (hm : -9223372036854775808 ≤ m ∧ m ≤ 9223372036854775807) (h0 : 0 ≤ a) (h1 : 0 ≤ m) (h2 : a = (s.size : Int)) (h3 : (s.size : Int) - a < m)
    (A4 : Aside0 (derricklaw01_shown.f k = some true)) (A7 : Aside0 (octet_Some.f s a m = some (⟨#[]⟩, 0, 2))) (A8 : Aside0 (octet_U8.f k s a = some (0, 0, 2))) :
    Calls Try.prog 4 #[.string s, .int .i64 a, .int .i64 m] w fun e w' => e = .returned (.bool true) ∧ Below w.heap.size w w' := by
  have g0 : decide (2000 < (s.size : Int)) = false := decide_eq_false (by omega)
  have g1 : decide (0 ≤ a) = true := decide_eq_true h0
  have g2 : decide (0 ≤ m) = true := decide_eq_true h1
  have g3 : decide (a ≤ (s.size : Int)) = true := decide_eq_true (by omega)
  have g4 : wrap64 ((s.size : Int) - a) = (s.size : Int) - a := wrap_in (by omega) (by omega)
  have g5 : decide (m ≤ (s.size : Int) - a) = false := decide_eq_false (by omega)
  have g8 : decide (a < (s.size : Int)) = false := decide_eq_false (by omega)
  clear hs hr hm h2
  go_enter Try.func4, Try.ntmps4
  go_wp2_with (first | (go_at_call 8; refine (derricklaw01_shown.calls k true _ A4.out).mono ?_; rintro e w1 ⟨rfl, hb1⟩) | (go_at_call 9; refine (octet_Some.calls s a m ⟨#[]⟩ 0 2 _ A7.out).mono ?_; rintro e w2 ⟨rfl, ⟨n2, rfl⟩⟩) | (go_at_call 12; refine (octet_U8.calls k s a 0 0 2 _ A8.out).mono ?_; rintro e w3 ⟨rfl, ⟨n3, rfl⟩⟩))
  go_ret
  exact ⟨by first | rfl | (simp [*] <;> rfl), by repeat (first | exact hb1 | apply pw_below_drewN | apply below_drew1)⟩

theorem walk (s : ByteArray) (a m : Int) (w : World) (ws : s.size ≤ 140737488351232) (wa : (Lit.int .i64 a).wf = true) (wm : (Lit.int .i64 m).wf = true) :
    Calls Try.prog 4 #[.string s, .int .i64 a, .int .i64 m] w fun e w' => e = .returned (.bool true) ∧ Below w.heap.size w w' := by
  have hr := i64_of wa
  have hm := i64_of wm
  have A4 : Aside0 (derricklaw01_shown.f 9 = some true) := ⟨shown_is 9 (by decide)⟩
  by_cases hs : 2000 < s.size
  · exact ends_long 9 s a m w hs A4
  · have hs' : s.size ≤ 2000 := by omega
    have u1 (h : 0 ≤ a ∧ a < (s.size : Int)) : Aside0 (octet_U8.f 9 s a = some (by_ s a.toNat, a + 1, 0)) := ⟨u8_yes s (by omega) a 9 (by decide) (by unfold fits; omega)⟩
    have u0 (h : ¬ (0 ≤ a ∧ a < (s.size : Int))) : Aside0 (octet_U8.f 9 s a = some (0, 0, 2)) := ⟨u8_no s (by omega) a 9 (by decide) (by unfold fits; omega)⟩
    by_cases hf : fits s a m
    · have A7 : Aside0 (octet_Some.f s a m = some (s.extract a.toNat (a + m).toNat, a + m, 0)) := ⟨some_yes s (by omega) a m hf⟩
      have hx : ((s.extract a.toNat (a + m).toNat).size : Int) = m := by rw [ext_size s a m hf]; unfold fits at hf; omega
      unfold fits at hf
      by_cases h : a < (s.size : Int)
      · exact ends_yes 9 s a m _ _ _ w hs' hr hm hf.1 hf.2.1 h hf.2.2.2 hx A4 A7 (u1 ⟨hf.1, h⟩)
      · exact ends_edge 9 s a m _ w hs' hr hm hf.1 hf.2.1 (by omega) hf.2.2.2 hx A4 A7 (u0 (by omega))
    · have A7 : Aside0 (octet_Some.f s a m = some (⟨#[]⟩, 0, 2)) := ⟨some_no s (by omega) a m hf⟩
      unfold fits at hf
      by_cases h0 : a < 0
      · exact ends_below 9 s a m w hs' hr hm h0 A4 A7 (u0 (by omega))
      · by_cases h1 : m < 0
        · by_cases h2 : a < (s.size : Int)
          · exact ends_less_in 9 s a m _ _ w hs' hr hm (by omega) h1 h2 A4 A7 (u1 (by omega))
          · exact ends_less_out 9 s a m w hs' hr hm (by omega) h1 (by omega) A4 A7 (u0 (by omega))
        · by_cases h2 : a < (s.size : Int)
          · exact ends_more_in 9 s a m _ _ w hs' hr hm (by omega) (by omega) h2 (by omega) A4 A7 (u1 (by omega))
          · by_cases h3 : a = (s.size : Int)
            · exact ends_more_out 9 s a m w hs' hr hm (by omega) (by omega) h3 (by omega) A4 A7 (u0 (by omega))
            · exact ends_beyond 9 s a m w hs' hr hm (by omega) (by omega) (by omega) A4 A7 (u0 (by omega))
end Go.Proofs.Ytfcblhdonmfnpaa.OwnEnds
