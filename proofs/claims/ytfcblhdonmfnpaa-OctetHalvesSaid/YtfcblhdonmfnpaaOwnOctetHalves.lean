/- OctetHalves: a part is its two parts, one behind the other, and four bytes are two and two; for every string (2000 bytes at most), place and numbers of bytes. -/
import Derived.Test.YtfcblhdonmfnpaaOwnOctet
namespace Go.Proofs.Ytfcblhdonmfnpaa.OwnHalves
open Go.RowKit Go.Proofs.Ytfcblhdonmfnpaa.POctetTells Go.Proofs.Ytfcblhdonmfnpaa.Own Go.Proofs.YtfcblhdonmfnpaaW.PrintWords Go.Proofs.YtfcblhdonmfnpaaW.PrintLast Go.Proofs.YtfcblhdonmfnpaaW.PrintMore
set_option linter.unusedVariables false
set_option maxHeartbeats 400000 in
theorem halves_long (k : Nat) (s : ByteArray) (c a b : Int) (w : World) (hs : 2000 < s.size) (A4 : Aside0 (derricklaw01_shown.f k = some true)) :
    Calls Try.prog 3 #[.string s, .int .u8 c, .int .u8 a, .int .u8 b] w fun e w' => e = .returned (.bool true) ∧ Below w.heap.size w w' := by
  have g0 : decide (2000 < (s.size : Int)) = true := decide_eq_true (by omega)
  go_enter Try.func3, Try.ntmps3
  go_wp2_with (go_at_call 8; refine (derricklaw01_shown.calls k true _ A4.out).mono ?_; rintro e w1 ⟨rfl, hb1⟩)
  go_ret
  exact ⟨rfl, by repeat (first | exact hb1 | apply pw_below_drewN | apply below_drew1)⟩
set_option maxHeartbeats 400000 in
theorem halves_part_num (k : Nat) (s : ByteArray) (c a b : Int) (p r : ByteArray) (hi lo m1 m2 : Int) (w : World) (hs : s.size ≤ 2000) (hc0 : 0 ≤ c) (hc1 : c ≤ 255) (ha0 : 0 ≤ a) (ha1 : a ≤ 255) (hb0 : 0 ≤ b) (hb1 : b ≤ 255) (hp : p.size + r.size ≤ 2000) (hh0 : 0 ≤ hi) (hh1 : hi ≤ 65535) (hl0 : 0 ≤ lo) (hl1 : lo ≤ 65535) (hn : c + 4 ≤ (s.size : Int))
    (A4 : Aside0 (derricklaw01_shown.f k = some true)) (A5 : Aside0 (octet_Some.f s c (a + b) = some ((p ++ r), (c + (a + b)), 0))) (A6 : Aside0 (octet_Some.f s c a = some (p, (c + a), 0))) (A7 : Aside0 (octet_Some.f s (c + a) b = some (r, (c + (a + b)), 0)))
    (A8 : Aside0 (octet_U32.f k s c = some ((hi * 65536 + lo), (c + 4), 0))) (A9 : Aside0 (octet_U16.f k s (c + 2) = some (lo, m1, 0))) (A10 : Aside0 (octet_U16.f k s c = some (hi, m2, 0))) :
    Calls Try.prog 3 #[.string s, .int .u8 c, .int .u8 a, .int .u8 b] w fun e w' => e = .returned (.bool true) ∧ Below w.heap.size w w' := by
  have HB := Aside0.mk (Below.refl w.heap.size w)
  have g0 : decide (2000 < (s.size : Int)) = false := decide_eq_false (by omega)
  have g1 : decide (c + 4 ≤ (s.size : Int)) = true := decide_eq_true (by omega)
  clear hs hn
  go_enter Try.func3, Try.ntmps3
  go_wp2_with (first | (go_at_call 8; refine (derricklaw01_shown.calls k true _ A4.out).mono ?_; rintro e w1 ⟨rfl, hbw⟩; have n0_ := Aside0.mk (below_step HB.out hbw); clear HB; have HB := n0_; clear n0_ hbw) | (go_at_call 9; (with_reducible refine (octet_Some.calls s c (a + b) (p ++ r) (c + (a + b)) 0 _ A5.out).mono ?_); rintro e w2 ⟨rfl, ⟨n2, rfl⟩⟩) | (go_at_call 9; (with_reducible refine (octet_Some.calls s c a p (c + a) 0 _ A6.out).mono ?_); rintro e w2 ⟨rfl, ⟨n2, rfl⟩⟩) | (go_at_call 9; (with_reducible refine (octet_Some.calls s (c + a) b r (c + (a + b)) 0 _ A7.out).mono ?_); rintro e w2 ⟨rfl, ⟨n2, rfl⟩⟩) | (go_at_call 10; (with_reducible refine (octet_U32.calls k s c (hi * 65536 + lo) (c + 4) 0 _ A8.out).mono ?_); rintro e w2 ⟨rfl, ⟨n2, rfl⟩⟩) | (go_at_call 11; (with_reducible refine (octet_U16.calls k s (c + 2) lo m1 0 _ A9.out).mono ?_); rintro e w2 ⟨rfl, ⟨n2, rfl⟩⟩) | (go_at_call 11; (with_reducible refine (octet_U16.calls k s c hi m2 0 _ A10.out).mono ?_); rintro e w2 ⟨rfl, ⟨n2, rfl⟩⟩))
  go_ret
  exact ⟨by first | rfl | (simp [*] <;> rfl), by repeat (first | (with_reducible first | exact HB.out | apply below_alloc | apply pw_below_drewN | apply below_drew1) | exact HB.out)⟩
set_option maxHeartbeats 400000 in
theorem halves_part_nan (k : Nat) (s : ByteArray) (c a b : Int) (p r : ByteArray) (hi lo m1 m2 j l : Int) (w : World) (hs : s.size ≤ 2000) (hc0 : 0 ≤ c) (hc1 : c ≤ 255) (ha0 : 0 ≤ a) (ha1 : a ≤ 255) (hb0 : 0 ≤ b) (hb1 : b ≤ 255) (hp : p.size + r.size ≤ 2000) (hn : (s.size : Int) < c + 4)
    (A4 : Aside0 (derricklaw01_shown.f k = some true)) (A5 : Aside0 (octet_Some.f s c (a + b) = some ((p ++ r), (c + (a + b)), 0))) (A6 : Aside0 (octet_Some.f s c a = some (p, (c + a), 0))) (A7 : Aside0 (octet_Some.f s (c + a) b = some (r, (c + (a + b)), 0)))
    (A8 : Aside0 (octet_U32.f k s c = some (0, 0, 2))) (A9 : Aside0 (octet_U16.f k s (c + 2) = some (lo, m1, j))) (A10 : Aside0 (octet_U16.f k s c = some (hi, m2, l))) :
    Calls Try.prog 3 #[.string s, .int .u8 c, .int .u8 a, .int .u8 b] w fun e w' => e = .returned (.bool true) ∧ Below w.heap.size w w' := by
  have HB := Aside0.mk (Below.refl w.heap.size w)
  have g0 : decide (2000 < (s.size : Int)) = false := decide_eq_false (by omega)
  have g1 : decide (c + 4 ≤ (s.size : Int)) = false := decide_eq_false (by omega)
  clear hs hn
  go_enter Try.func3, Try.ntmps3
  go_wp2_with (first | (go_at_call 8; refine (derricklaw01_shown.calls k true _ A4.out).mono ?_; rintro e w1 ⟨rfl, hbw⟩; have n0_ := Aside0.mk (below_step HB.out hbw); clear HB; have HB := n0_; clear n0_ hbw) | (go_at_call 9; (with_reducible refine (octet_Some.calls s c (a + b) (p ++ r) (c + (a + b)) 0 _ A5.out).mono ?_); rintro e w2 ⟨rfl, ⟨n2, rfl⟩⟩) | (go_at_call 9; (with_reducible refine (octet_Some.calls s c a p (c + a) 0 _ A6.out).mono ?_); rintro e w2 ⟨rfl, ⟨n2, rfl⟩⟩) | (go_at_call 9; (with_reducible refine (octet_Some.calls s (c + a) b r (c + (a + b)) 0 _ A7.out).mono ?_); rintro e w2 ⟨rfl, ⟨n2, rfl⟩⟩) | (go_at_call 10; (with_reducible refine (octet_U32.calls k s c 0 0 2 _ A8.out).mono ?_); rintro e w2 ⟨rfl, ⟨n2, rfl⟩⟩) | (go_at_call 11; (with_reducible refine (octet_U16.calls k s (c + 2) lo m1 j _ A9.out).mono ?_); rintro e w2 ⟨rfl, ⟨n2, rfl⟩⟩) | (go_at_call 11; (with_reducible refine (octet_U16.calls k s c hi m2 l _ A10.out).mono ?_); rintro e w2 ⟨rfl, ⟨n2, rfl⟩⟩))
  go_ret
  exact ⟨by first | rfl | (simp [*] <;> rfl), by repeat (first | (with_reducible first | exact HB.out | apply below_alloc | apply pw_below_drewN | apply below_drew1) | exact HB.out)⟩
set_option maxHeartbeats 400000 in
theorem halves_none_num (k : Nat) (s : ByteArray) (c a b : Int) (p r : ByteArray) (q f t g : Int) (hi lo m1 m2 : Int) (w : World) (hs : s.size ≤ 2000) (hc0 : 0 ≤ c) (hc1 : c ≤ 255) (ha0 : 0 ≤ a) (ha1 : a ≤ 255) (hb0 : 0 ≤ b) (hb1 : b ≤ 255) (hh0 : 0 ≤ hi) (hh1 : hi ≤ 65535) (hl0 : 0 ≤ lo) (hl1 : lo ≤ 65535) (hn : c + 4 ≤ (s.size : Int))
    (A4 : Aside0 (derricklaw01_shown.f k = some true)) (A5 : Aside0 (octet_Some.f s c (a + b) = some (⟨#[]⟩, 0, 2))) (A6 : Aside0 (octet_Some.f s c a = some (p, q, f))) (A7 : Aside0 (octet_Some.f s q b = some (r, t, g)))
    (A8 : Aside0 (octet_U32.f k s c = some ((hi * 65536 + lo), (c + 4), 0))) (A9 : Aside0 (octet_U16.f k s (c + 2) = some (lo, m1, 0))) (A10 : Aside0 (octet_U16.f k s c = some (hi, m2, 0))) :
    Calls Try.prog 3 #[.string s, .int .u8 c, .int .u8 a, .int .u8 b] w fun e w' => e = .returned (.bool true) ∧ Below w.heap.size w w' := by
  have HB := Aside0.mk (Below.refl w.heap.size w)
  have g0 : decide (2000 < (s.size : Int)) = false := decide_eq_false (by omega)
  have g1 : decide (c + 4 ≤ (s.size : Int)) = true := decide_eq_true (by omega)
  clear hs hn
  go_enter Try.func3, Try.ntmps3
  go_wp2_with (first | (go_at_call 8; refine (derricklaw01_shown.calls k true _ A4.out).mono ?_; rintro e w1 ⟨rfl, hbw⟩; have n0_ := Aside0.mk (below_step HB.out hbw); clear HB; have HB := n0_; clear n0_ hbw) | (go_at_call 9; (with_reducible refine (octet_Some.calls s c (a + b) ⟨#[]⟩ 0 2 _ A5.out).mono ?_); rintro e w2 ⟨rfl, ⟨n2, rfl⟩⟩) | (go_at_call 9; (with_reducible refine (octet_Some.calls s c a p q f _ A6.out).mono ?_); rintro e w2 ⟨rfl, ⟨n2, rfl⟩⟩) | (go_at_call 9; (with_reducible refine (octet_Some.calls s q b r t g _ A7.out).mono ?_); rintro e w2 ⟨rfl, ⟨n2, rfl⟩⟩) | (go_at_call 10; (with_reducible refine (octet_U32.calls k s c (hi * 65536 + lo) (c + 4) 0 _ A8.out).mono ?_); rintro e w2 ⟨rfl, ⟨n2, rfl⟩⟩) | (go_at_call 11; (with_reducible refine (octet_U16.calls k s (c + 2) lo m1 0 _ A9.out).mono ?_); rintro e w2 ⟨rfl, ⟨n2, rfl⟩⟩) | (go_at_call 11; (with_reducible refine (octet_U16.calls k s c hi m2 0 _ A10.out).mono ?_); rintro e w2 ⟨rfl, ⟨n2, rfl⟩⟩))
  go_ret
  exact ⟨by first | rfl | (simp [*] <;> rfl), by repeat (first | (with_reducible first | exact HB.out | apply below_alloc | apply pw_below_drewN | apply below_drew1) | exact HB.out)⟩
set_option maxHeartbeats 400000 in
theorem halves_none_nan (k : Nat) (s : ByteArray) (c a b : Int) (p r : ByteArray) (q f t g : Int) (hi lo m1 m2 j l : Int) (w : World) (hs : s.size ≤ 2000) (hc0 : 0 ≤ c) (hc1 : c ≤ 255) (ha0 : 0 ≤ a) (ha1 : a ≤ 255) (hb0 : 0 ≤ b) (hb1 : b ≤ 255) (hn : (s.size : Int) < c + 4)
    (A4 : Aside0 (derricklaw01_shown.f k = some true)) (A5 : Aside0 (octet_Some.f s c (a + b) = some (⟨#[]⟩, 0, 2))) (A6 : Aside0 (octet_Some.f s c a = some (p, q, f))) (A7 : Aside0 (octet_Some.f s q b = some (r, t, g)))
    (A8 : Aside0 (octet_U32.f k s c = some (0, 0, 2))) (A9 : Aside0 (octet_U16.f k s (c + 2) = some (lo, m1, j))) (A10 : Aside0 (octet_U16.f k s c = some (hi, m2, l))) :
    Calls Try.prog 3 #[.string s, .int .u8 c, .int .u8 a, .int .u8 b] w fun e w' => e = .returned (.bool true) ∧ Below w.heap.size w w' := by
  have HB := Aside0.mk (Below.refl w.heap.size w)
  have g0 : decide (2000 < (s.size : Int)) = false := decide_eq_false (by omega)
  have g1 : decide (c + 4 ≤ (s.size : Int)) = false := decide_eq_false (by omega)
  clear hs hn
  go_enter Try.func3, Try.ntmps3
  go_wp2_with (first | (go_at_call 8; refine (derricklaw01_shown.calls k true _ A4.out).mono ?_; rintro e w1 ⟨rfl, hbw⟩; have n0_ := Aside0.mk (below_step HB.out hbw); clear HB; have HB := n0_; clear n0_ hbw) | (go_at_call 9; (with_reducible refine (octet_Some.calls s c (a + b) ⟨#[]⟩ 0 2 _ A5.out).mono ?_); rintro e w2 ⟨rfl, ⟨n2, rfl⟩⟩) | (go_at_call 9; (with_reducible refine (octet_Some.calls s c a p q f _ A6.out).mono ?_); rintro e w2 ⟨rfl, ⟨n2, rfl⟩⟩) | (go_at_call 9; (with_reducible refine (octet_Some.calls s q b r t g _ A7.out).mono ?_); rintro e w2 ⟨rfl, ⟨n2, rfl⟩⟩) | (go_at_call 10; (with_reducible refine (octet_U32.calls k s c 0 0 2 _ A8.out).mono ?_); rintro e w2 ⟨rfl, ⟨n2, rfl⟩⟩) | (go_at_call 11; (with_reducible refine (octet_U16.calls k s (c + 2) lo m1 j _ A9.out).mono ?_); rintro e w2 ⟨rfl, ⟨n2, rfl⟩⟩) | (go_at_call 11; (with_reducible refine (octet_U16.calls k s c hi m2 l _ A10.out).mono ?_); rintro e w2 ⟨rfl, ⟨n2, rfl⟩⟩))
  go_ret
  exact ⟨by first | rfl | (simp [*] <;> rfl), by repeat (first | (with_reducible first | exact HB.out | apply below_alloc | apply pw_below_drewN | apply below_drew1) | exact HB.out)⟩

theorem ext_join (s : ByteArray) (i j k : Nat) (h1 : i ≤ j) (h2 : j ≤ k) : s.extract i k = s.extract i j ++ s.extract j k := by
  apply ByteArray.ext
  simp only [ByteArray.data_append, ByteArray.data_extract]
  rw [Array.extract_append_extract, Nat.min_eq_left (by omega), Nat.max_eq_right (by omega)]

theorem some_any (s : ByteArray) (hs : s.size ≤ 2000) (a m : Int) : ∃ x p e, octet_Some.f s a m = some (x, p, e) := by
  by_cases h : fits s a m
  · exact ⟨_, _, _, some_yes s (by omega) a m h⟩
  · exact ⟨_, _, _, some_no s (by omega) a m h⟩
theorem u16_any (s : ByteArray) (hs : s.size ≤ 2000) (a : Int) : ∃ x p e, octet_U16.f 9 s a = some (x, p, e) := by
  by_cases h : fits s a 2
  · exact ⟨_, _, _, u16_yes s (by omega) a 9 (by decide) h⟩
  · exact ⟨_, _, _, u16_no s (by omega) a 9 (by decide) h⟩

theorem walk (s : ByteArray) (c a b : Int) (w : World) (ws : s.size ≤ 140737488351232) (wc : (Lit.int .u8 c).wf = true) (wa : (Lit.int .u8 a).wf = true) (wb : (Lit.int .u8 b).wf = true) :
    Calls Try.prog 3 #[.string s, .int .u8 c, .int .u8 a, .int .u8 b] w fun e w' => e = .returned (.bool true) ∧ Below w.heap.size w w' := by
  have hc := u8_of wc
  have ha := u8_of wa
  have hb := u8_of wb
  have A4 : Aside0 (derricklaw01_shown.f 9 = some true) := ⟨shown_is 9 (by decide)⟩
  by_cases hs : 2000 < s.size
  · exact halves_long 9 s c a b w hs A4
  · have hs' : s.size ≤ 2000 := by omega
    by_cases hf : fits s c (a + b)
    · have e5 := some_yes s (by omega) c (a + b) hf
      have hf2 : fits s c a := by unfold fits at *; omega
      have hf3 : fits s (c + a) b := by unfold fits at *; omega
      have e6 := some_yes s (by omega) c a hf2
      have e7 := some_yes s (by omega) (c + a) b hf3
      rw [ext_join s c.toNat (c + a).toNat (c + (a + b)).toNat (by omega) (by omega)] at e5
      rw [Int.add_assoc c a b] at e7
      have z6 := ext_size s c a hf2
      have z7 := ext_size s (c + a) b hf3
      rw [Int.add_assoc c a b] at z7
      have hp : (s.extract c.toNat (c + a).toNat).size + (s.extract (c + a).toNat (c + (a + b)).toNat).size ≤ 2000 := by
        rw [z6, z7]; unfold fits at hf; omega
      by_cases hn : fits s c 4
      · have e8 := u32_yes s (by omega) c 9 (by decide) hn
        have e9 := u16_yes s (by omega) (c + 2) 9 (by decide) (by unfold fits at *; omega)
        have e10 := u16_yes s (by omega) c 9 (by decide) (by unfold fits at *; omega)
        rw [show (c + 2).toNat = c.toNat + 2 by omega, Nat.add_assoc] at e9
        have r0 := by_range s c.toNat
        have r1 := by_range s (c.toNat + 1)
        have r2 := by_range s (c.toNat + 2)
        have r3 := by_range s (c.toNat + 3)
        rw [show ((by_ s c.toNat * 256 + by_ s (c.toNat + 1)) * 256 + by_ s (c.toNat + 2)) * 256 + by_ s (c.toNat + 3) = (by_ s c.toNat * 256 + by_ s (c.toNat + 1)) * 65536 + (by_ s (c.toNat + 2) * 256 + by_ s (c.toNat + 3)) by omega] at e8
        exact halves_part_num 9 s c a b _ _ _ _ _ _ w hs' hc.1 hc.2 ha.1 ha.2 hb.1 hb.2 hp (by omega) (by omega) (by omega) (by omega) (by unfold fits at hn; omega) A4 ⟨e5⟩ ⟨e6⟩ ⟨e7⟩ ⟨e8⟩ ⟨e9⟩ ⟨e10⟩
      · obtain ⟨lo, m1, j, e9⟩ := u16_any s hs' (c + 2)
        obtain ⟨hi, m2, l, e10⟩ := u16_any s hs' c
        exact halves_part_nan 9 s c a b _ _ hi lo m1 m2 j l w hs' hc.1 hc.2 ha.1 ha.2 hb.1 hb.2 hp (by unfold fits at hn; omega) A4 ⟨e5⟩ ⟨e6⟩ ⟨e7⟩ ⟨u32_no s (by omega) c 9 (by decide) hn⟩ ⟨e9⟩ ⟨e10⟩
    · have e5 := some_no s (by omega) c (a + b) hf
      obtain ⟨p, q, f, e6⟩ := some_any s hs' c a
      obtain ⟨r, t, g, e7⟩ := some_any s hs' q b
      by_cases hn : fits s c 4
      · have e8 := u32_yes s (by omega) c 9 (by decide) hn
        have e9 := u16_yes s (by omega) (c + 2) 9 (by decide) (by unfold fits at *; omega)
        have e10 := u16_yes s (by omega) c 9 (by decide) (by unfold fits at *; omega)
        rw [show (c + 2).toNat = c.toNat + 2 by omega, Nat.add_assoc] at e9
        have r0 := by_range s c.toNat
        have r1 := by_range s (c.toNat + 1)
        have r2 := by_range s (c.toNat + 2)
        have r3 := by_range s (c.toNat + 3)
        rw [show ((by_ s c.toNat * 256 + by_ s (c.toNat + 1)) * 256 + by_ s (c.toNat + 2)) * 256 + by_ s (c.toNat + 3) = (by_ s c.toNat * 256 + by_ s (c.toNat + 1)) * 65536 + (by_ s (c.toNat + 2) * 256 + by_ s (c.toNat + 3)) by omega] at e8
        exact halves_none_num 9 s c a b p r q f t g _ _ _ _ w hs' hc.1 hc.2 ha.1 ha.2 hb.1 hb.2 (by omega) (by omega) (by omega) (by omega) (by unfold fits at hn; omega) A4 ⟨e5⟩ ⟨e6⟩ ⟨e7⟩ ⟨e8⟩ ⟨e9⟩ ⟨e10⟩
      · obtain ⟨lo, m1, j, e9⟩ := u16_any s hs' (c + 2)
        obtain ⟨hi, m2, l, e10⟩ := u16_any s hs' c
        exact halves_none_nan 9 s c a b p r q f t g hi lo m1 m2 j l w hs' hc.1 hc.2 ha.1 ha.2 hb.1 hb.2 (by unfold fits at hn; omega) A4 ⟨e5⟩ ⟨e6⟩ ⟨e7⟩ ⟨u32_no s (by omega) c 9 (by decide) hn⟩ ⟨e9⟩ ⟨e10⟩
end Go.Proofs.Ytfcblhdonmfnpaa.OwnHalves
