/- OctetTells: bytes of a number, numbers of bytes and parts of a string are what the reference answers, from any place on; for every number, string (2000 bytes at most), place and number of bytes. -/
import Derived.Test.YtfcblhdonmfnpaaOwnOctet
import Derived.Test.YtfcblhdonmfnpaaOwnRefs
namespace Go.Proofs.Ytfcblhdonmfnpaa.OwnTells
open Go.RowKit Go.Proofs.Ytfcblhdonmfnpaa.OwnRefs Go.Proofs.Ytfcblhdonmfnpaa.POctetTells Go.Proofs.Ytfcblhdonmfnpaa.Own Go.Proofs.YtfcblhdonmfnpaaW.PrintWords Go.Proofs.YtfcblhdonmfnpaaW.PrintLast Go.Proofs.YtfcblhdonmfnpaaW.PrintMore
set_option linter.unusedVariables false

theorem bt_at_ (s : ByteArray) (a : Int) (h : 0 ≤ a) : bt s a = by_ s a.toNat := bt_by s a h
theorem there_is (s : ByteArray) (hs : s.size ≤ 2000) (a m : Int) : derrickref01_there.f s a m = some (decide (fits s a m)) := by
  unfold derrickref01_there.f fits
  by_cases h0 : a ≥ 0
  · by_cases h1 : a ≤ (s.size : Int)
    · by_cases h2 : m ≥ 0
      · by_cases h3 : m ≤ (s.size : Int)
        · rw [if_pos h0, if_pos h1, if_pos h2, if_pos h3, wrap_in (by omega) (by omega)]
          congr 1
          exact decide_eq_decide.mpr (by omega)
        · rw [if_pos h0, if_pos h1, if_pos h2, if_neg h3]
          congr 1
          exact (decide_eq_false (by omega)).symm
      · rw [if_pos h0, if_pos h1, if_neg h2]
        congr 1
        exact (decide_eq_false (by omega)).symm
    · rw [if_pos h0, if_neg h1]
      congr 1
      exact (decide_eq_false (by omega)).symm
  · rw [if_neg h0]
    congr 1
    exact (decide_eq_false (by omega)).symm
theorem ref8_yes (s : ByteArray) (hs : s.size ≤ 2000) (a : Int) (h : fits s a 1) : derrickref01_U8.f s a = some (by_ s a.toNat, a + 1, 0) := by
  unfold derrickref01_U8.f
  rw [there_is s hs, decide_eq_true h]
  simp only [Option.bind_some]
  unfold fits at h
  rw [if_pos trivial, if_pos (by omega), if_pos (by omega), wrap_in (by omega) (by omega), bt_by s a (by omega)]
theorem ref8_no (s : ByteArray) (hs : s.size ≤ 2000) (a : Int) (h : ¬ fits s a 1) : derrickref01_U8.f s a = some (0, 0, 2) := by
  unfold derrickref01_U8.f
  rw [there_is s hs, decide_eq_false h]
  simp only [Option.bind_some]
  rw [if_neg (by decide)]
theorem ref16_yes (s : ByteArray) (hs : s.size ≤ 2000) (a : Int) (h : fits s a 2) : derrickref01_U16.f s a = some (by_ s a.toNat * 256 + by_ s (a.toNat + 1), a + 2, 0) := by
  unfold derrickref01_U16.f
  rw [there_is s hs, decide_eq_true h]
  simp only [Option.bind_some]
  unfold fits at h
  have r0 := by_range s a.toNat
  have r1 := by_range s (a.toNat + 1)
  rw [if_pos trivial, wrap_in (n := a + 1) (by omega) (by omega), wrap_in (n := a + 2) (by omega) (by omega), if_pos (by omega), if_pos (by omega), if_pos (by omega), if_pos (by omega), bt_by s a (by omega), bt_by s (a + 1) (by omega)]
  rw [show (a + 1).toNat = a.toNat + 1 by omega]
  simp only [wrap_u16]
  rw [show (256 * (by_ s a.toNat % 65536) % 65536 + by_ s (a.toNat + 1) % 65536) % 65536 = by_ s a.toNat * 256 + by_ s (a.toNat + 1) by omega]
theorem ref16_no (s : ByteArray) (hs : s.size ≤ 2000) (a : Int) (h : ¬ fits s a 2) : derrickref01_U16.f s a = some (0, 0, 2) := by
  unfold derrickref01_U16.f
  rw [there_is s hs, decide_eq_false h]
  simp only [Option.bind_some]
  rw [if_neg (by decide)]
theorem ref32_yes (s : ByteArray) (hs : s.size ≤ 2000) (a : Int) (h : fits s a 4) :
    derrickref01_U32.f s a = some (((by_ s a.toNat * 256 + by_ s (a.toNat + 1)) * 256 + by_ s (a.toNat + 2)) * 256 + by_ s (a.toNat + 3), a + 4, 0) := by
  unfold derrickref01_U32.f
  rw [there_is s hs, decide_eq_true h]
  simp only [Option.bind_some]
  unfold fits at h
  have r0 := by_range s a.toNat
  have r1 := by_range s (a.toNat + 1)
  have r2 := by_range s (a.toNat + 2)
  have r3 := by_range s (a.toNat + 3)
  rw [if_pos trivial, ref16_yes s hs a (by unfold fits; omega)]
  simp only [Option.bind_some]
  rw [ref16_yes s hs (a + 2) (by unfold fits; omega)]
  simp only [Option.bind_some]
  rw [show (a + 2).toNat = a.toNat + 2 by omega, show a + 2 + 2 = a + 4 by omega, show a.toNat + 2 + 1 = a.toNat + 3 from rfl]
  congr 2
  omega
theorem ref32_no (s : ByteArray) (hs : s.size ≤ 2000) (a : Int) (h : ¬ fits s a 4) : derrickref01_U32.f s a = some (0, 0, 2) := by
  unfold derrickref01_U32.f
  rw [there_is s hs, decide_eq_false h]
  simp only [Option.bind_some]
  rw [if_neg (by decide)]
/-- the bytes from a place on, so many -/
def bytesOf (s : ByteArray) (a i : Nat) : List Int := (List.range i).map fun j => by_ s (a + j)
theorem bytesOf_succ (s : ByteArray) (a i : Nat) : bytesOf s a (i + 1) = bytesOf s a i ++ [by_ s (a + i)] := by
  simp [bytesOf, List.range_succ]
theorem bytesOf_length (s : ByteArray) (a i : Nat) : (bytesOf s a i).length = i := by simp [bytesOf]
theorem refSome_loop (s : ByteArray) (hs : s.size ≤ 2000) (a m : Int) (h : fits s a m) (d : Nat) : ∀ (k i : Nat), (i : Int) + d = m → d < k →
    derrickref01_Some.l0 k s a m (bytesOf s a.toNat i) (i : Int) = some (strOfNums (bytesOf s a.toNat m.toNat), a + m, 0) := by
  have hf := h
  unfold fits at hf
  induction d with
  | zero =>
    intro k i hi hk
    obtain ⟨k, rfl⟩ : ∃ m, k = m + 1 := ⟨k - 1, by omega⟩
    simp only [derrickref01_Some.l0]
    rw [if_neg (by omega), wrap_in (by omega) (by omega), show m.toNat = i by omega]
  | succ d ih =>
    intro k i hi hk
    obtain ⟨k, rfl⟩ : ∃ m, k = m + 1 := ⟨k - 1, by omega⟩
    have hl := bytesOf_length s a.toNat i
    simp only [derrickref01_Some.l0]
    rw [wrap_in (n := a + (i : Int)) (by omega) (by omega), wrap_in (n := (i : Int) + 1) (by omega) (by omega), bt_by s _ (by omega)]
    rw [if_pos (by omega), if_pos (by omega), if_pos (by omega), if_pos (by omega)]
    rw [show (a + (i : Int)).toNat = a.toNat + i by omega, ← bytesOf_succ, show ((i : Int) + 1) = ((i + 1 : Nat) : Int) by omega]
    exact ih k (i + 1) (by omega) (by omega)
theorem nums_extract (s : ByteArray) (a m : Int) (h : fits s a m) : strOfNums (bytesOf s a.toNat m.toNat) = s.extract a.toNat (a + m).toNat := by
  have hf := h
  unfold fits at hf
  apply ByteArray.ext
  apply Array.ext
  · rw [show (s.extract a.toNat (a + m).toNat).data.size = (s.extract a.toNat (a + m).toNat).size from rfl, ext_size s a m h]
    simp [strOfNums, bytesOf]
  · intro i h1 h2
    have hi : i < m.toNat := by rw [show (s.extract a.toNat (a + m).toNat).data.size = (s.extract a.toNat (a + m).toNat).size from rfl, ext_size s a m h] at h2; exact h2
    have e := by_get s (a.toNat + i) (by omega)
    simp only [strOfNums, bytesOf, List.map_map, List.getElem_toArray, List.getElem_map, List.getElem_range, Function.comp, e, Int.toNat_natCast, UInt8.ofNat_toNat, ByteArray.data_extract, Array.getElem_extract]
    rfl
theorem refSome_yes (s : ByteArray) (hs : s.size ≤ 2000) (a m : Int) (h : fits s a m) (k : Nat) (hk : 2000 < k) : derrickref01_Some.f k s a m = some (s.extract a.toNat (a + m).toNat, a + m, 0) := by
  unfold derrickref01_Some.f
  rw [there_is s hs, decide_eq_true h]
  simp only [Option.bind_some]
  rw [if_pos trivial, ← nums_extract s a m h]
  have hf := h
  unfold fits at hf
  exact refSome_loop s hs a m h m.toNat k 0 (by omega) (by omega)
theorem refSome_no (s : ByteArray) (hs : s.size ≤ 2000) (a m : Int) (h : ¬ fits s a m) (k : Nat) : derrickref01_Some.f k s a m = some (⟨#[]⟩, 0, 2) := by
  unfold derrickref01_Some.f
  rw [there_is s hs, decide_eq_false h]
  simp only [Option.bind_some]
  rw [if_neg (by decide)]
theorem tdiv_pos (a b : Int) (h : 0 ≤ a) : Int.tdiv a b = a / b := Int.tdiv_eq_ediv_of_nonneg h
theorem tmod_pos (a b : Int) (h : 0 ≤ a) : Int.tmod a b = a % b := Int.tmod_eq_emod_of_nonneg h
theorem refPut16_is (n : Int) (hn : 0 ≤ n ∧ n ≤ 65535) : derrickref01_Put16.f n = some (strOfNums [n / 256, n % 256]) := by
  unfold derrickref01_Put16.f
  rw [tdiv_pos _ _ hn.1, tmod_pos _ _ hn.1, wrap_u16]
  rw [show n / 256 % 65536 % 256 = n / 256 by omega, show n % 256 % 256 = n % 256 by omega]
theorem refPut32_is (n : Int) (hn : 0 ≤ n ∧ n ≤ 4294967295) : derrickref01_Put32.f n = some (strOfNums [n / 16777216, n / 65536 % 256, n / 256 % 256, n % 256]) := by
  unfold derrickref01_Put32.f
  rw [tdiv_pos _ _ hn.1, tmod_pos _ _ hn.1]
  simp only [wrap_u16]
  rw [refPut16_is _ (by omega), refPut16_is _ (by omega)]
  simp only [Option.bind_some]
  rw [if_pos (by rw [strOfNums_size, strOfNums_size]; simp)]
  rw [show n / 65536 % 4294967296 % 65536 / 256 = n / 16777216 by omega, show n / 65536 % 4294967296 % 65536 % 256 = n / 65536 % 256 by omega, show n % 65536 % 65536 / 256 = n / 256 % 256 by omega, show n % 65536 % 65536 % 256 = n % 256 by omega]
  congr 1
theorem put32_is (k : Nat) (n : Int) (hn : 0 ≤ n ∧ n ≤ 4294967295) (hk : 4 < k) : octet_Put32.f k n = some (strOfNums [n / 16777216, n / 65536 % 256, n / 256 % 256, n % 256]) := by
  unfold octet_Put32.f
  rw [bytes_4 _ _ hk, show n / 16777216 % 256 = n / 16777216 by omega]
  rfl
set_option maxHeartbeats 400000 in
set_option maxRecDepth 100000 in
theorem tells_long (k : Nat) (n : Int) (s : ByteArray) (a m : Int) (w : World) (hs : 2000 < s.size) (A4 : Aside0 (derricklaw01_shown.f k = some true)) :
    Calls Try.prog 6 #[.int .u32 n, .string s, .int .i64 a, .int .i64 m] w fun e w' => e = .returned (.bool true) ∧ Below w.heap.size w w' := by
  have g0 : decide (2000 < (s.size : Int)) = true := decide_eq_true (by omega)
  go_enter Try.func6, Try.ntmps6
  go_wp2_with (go_at_call 8; refine (derricklaw01_shown.calls k true _ A4.out).mono ?_; rintro e w1 ⟨rfl, hb1⟩)
  go_ret
  exact ⟨rfl, by repeat (first | exact hb1 | apply pw_below_drewN | apply below_drew1)⟩
set_option maxHeartbeats 1000000 in
set_option maxRecDepth 100000 in
theorem tells_same (k : Nat) (n : Int) (s : ByteArray) (a m : Int) (x1 y1 e1 x2 y2 e2 x3 y3 e3 : Int) (x4 : ByteArray) (y4 e4 : Int) (p q : ByteArray) (w : World) (hs : s.size ≤ 2000) (hn0 : 0 ≤ n) (hn1 : n ≤ 4294967295)
    (f1 : 0 ≤ e1) (g1 : e1 ≤ 2) (f2 : 0 ≤ e2) (g2 : e2 ≤ 2) (f3 : 0 ≤ e3) (g3 : e3 ≤ 2) (f4 : 0 ≤ e4) (g4 : e4 ≤ 2)
    (A4 : Aside0 (derricklaw01_shown.f k = some true))
    (B1 : Aside0 (octet_U8.f k s a = some (x1, y1, e1))) (C1 : Aside0 (derrickref01_U8.f s a = some (x1, y1, e1)))
    (B2 : Aside0 (octet_U16.f k s a = some (x2, y2, e2))) (C2 : Aside0 (derrickref01_U16.f s a = some (x2, y2, e2)))
    (B3 : Aside0 (octet_U32.f k s a = some (x3, y3, e3))) (C3 : Aside0 (derrickref01_U32.f s a = some (x3, y3, e3)))
    (B4 : Aside0 (octet_Some.f s a m = some (x4, y4, e4))) (C4 : Aside0 (derrickref01_Some.f k s a m = some (x4, y4, e4)))
    (B5 : Aside0 (octet_Put16.f k (n % 65536) = some p)) (C5 : Aside0 (derrickref01_Put16.f (n % 65536) = some p))
    (B6 : Aside0 (octet_Put32.f k n = some q)) (C6 : Aside0 (derrickref01_Put32.f n = some q)) :
    Calls Try.prog 6 #[.int .u32 n, .string s, .int .i64 a, .int .i64 m] w fun e w' => e = .returned (.bool true) ∧ Below w.heap.size w w' := by
  have HB := Aside0.mk (Below.refl w.heap.size w)
  have g0 : decide (2000 < (s.size : Int)) = false := decide_eq_false (by omega)
  have gw : IntKind.u16.wrap n = n % 65536 := wrap_u16 n
  clear hs
  go_enter Try.func6, Try.ntmps6
  go_wp2_with (first | (go_at_call 8; (with_reducible refine (derricklaw01_shown.calls k true _ A4.out).mono ?_); rintro e w1 ⟨rfl, hbw⟩; have n0_ := Aside0.mk (below_step (by repeat (first | (with_reducible first | exact HB.out | apply below_alloc | apply pw_below_drewN | apply below_drew1) | exact HB.out)) hbw); clear HB; have HB := n0_; clear n0_ hbw) | (go_at_call 12; (with_reducible refine (octet_U8.calls k s a x1 y1 e1 _ B1.out).mono ?_); rintro e w2 ⟨rfl, ⟨n2, rfl⟩⟩) | (go_at_call 13; (with_reducible refine (derrickref01_U8.calls s a x1 y1 e1 _ C1.out).mono ?_); rintro e w2 ⟨rfl, ⟨n2, rfl⟩⟩) | (go_at_call 11; (with_reducible refine (octet_U16.calls k s a x2 y2 e2 _ B2.out).mono ?_); rintro e w2 ⟨rfl, ⟨n2, rfl⟩⟩) | (go_at_call 14; (with_reducible refine (derrickref01_U16.calls s a x2 y2 e2 _ C2.out).mono ?_); rintro e w2 ⟨rfl, ⟨n2, rfl⟩⟩) | (go_at_call 10; (with_reducible refine (octet_U32.calls k s a x3 y3 e3 _ B3.out).mono ?_); rintro e w2 ⟨rfl, ⟨n2, rfl⟩⟩) | (go_at_call 15; (with_reducible refine (derrickref01_U32.calls s a x3 y3 e3 _ C3.out).mono ?_); rintro e w2 ⟨rfl, ⟨n2, rfl⟩⟩) | (go_at_call 9; (with_reducible refine (octet_Some.calls s a m x4 y4 e4 _ B4.out).mono ?_); rintro e w2 ⟨rfl, ⟨n2, rfl⟩⟩) | (go_at_call 16; (with_reducible refine (derrickref01_Some.calls k s a m x4 y4 e4 _ C4.out).mono ?_); rintro e w1 ⟨rfl, hbw⟩; have n0_ := Aside0.mk (below_step (by repeat (first | (with_reducible first | exact HB.out | apply below_alloc | apply pw_below_drewN | apply below_drew1) | exact HB.out)) hbw); clear HB; have HB := n0_; clear n0_ hbw) | (go_at_call 17; (with_reducible refine (octet_Put16.calls k (n % 65536) p _ B5.out).mono ?_); rintro e w1 ⟨rfl, hbw⟩; have n0_ := Aside0.mk (below_step (by repeat (first | (with_reducible first | exact HB.out | apply below_alloc | apply pw_below_drewN | apply below_drew1) | exact HB.out)) hbw); clear HB; have HB := n0_; clear n0_ hbw) | (go_at_call 18; (with_reducible refine (derrickref01_Put16.calls (n % 65536) p _ C5.out).mono ?_); rintro e w1 ⟨rfl, hbw⟩; have n0_ := Aside0.mk (below_step (by repeat (first | (with_reducible first | exact HB.out | apply below_alloc | apply pw_below_drewN | apply below_drew1) | exact HB.out)) hbw); clear HB; have HB := n0_; clear n0_ hbw) | (go_at_call 19; (with_reducible refine (octet_Put32.calls k n q _ B6.out).mono ?_); rintro e w1 ⟨rfl, hbw⟩; have n0_ := Aside0.mk (below_step (by repeat (first | (with_reducible first | exact HB.out | apply below_alloc | apply pw_below_drewN | apply below_drew1) | exact HB.out)) hbw); clear HB; have HB := n0_; clear n0_ hbw) | (go_at_call 20; (with_reducible refine (derrickref01_Put32.calls n q _ C6.out).mono ?_); rintro e w1 ⟨rfl, hbw⟩; have n0_ := Aside0.mk (below_step (by repeat (first | (with_reducible first | exact HB.out | apply below_alloc | apply pw_below_drewN | apply below_drew1) | exact HB.out)) hbw); clear HB; have HB := n0_; clear n0_ hbw))
  go_ret
  exact ⟨by first | rfl | (simp [*] <;> rfl), by repeat (first | (with_reducible first | exact HB.out | apply below_alloc | apply pw_below_drewN | apply below_drew1) | exact HB.out)⟩

theorem walk (n : Int) (s : ByteArray) (a m : Int) (w : World) (wn : (Lit.int .u32 n).wf = true) (ws : s.size ≤ 140737488351232) (wa : (Lit.int .i64 a).wf = true) (wm : (Lit.int .i64 m).wf = true) :
    Calls Try.prog 6 #[.int .u32 n, .string s, .int .i64 a, .int .i64 m] w fun e w' => e = .returned (.bool true) ∧ Below w.heap.size w w' := by
  have hn := u32_of wn
  have A4 : Aside0 (derricklaw01_shown.f 2001 = some true) := ⟨shown_is 2001 (by decide)⟩
  by_cases hs : 2000 < s.size
  · exact tells_long 2001 n s a m w hs A4
  · have hs' : s.size ≤ 2000 := by omega
    have t1 : ∃ x y e, octet_U8.f 2001 s a = some (x, y, e) ∧ derrickref01_U8.f s a = some (x, y, e) ∧ 0 ≤ e ∧ e ≤ 2 := by
      by_cases h : fits s a 1
      · exact ⟨_, _, _, u8_yes s (by omega) a _ (by decide) h, ref8_yes s hs' a h, by decide, by decide⟩
      · exact ⟨_, _, _, u8_no s (by omega) a _ (by decide) h, ref8_no s hs' a h, by decide, by decide⟩
    have t2 : ∃ x y e, octet_U16.f 2001 s a = some (x, y, e) ∧ derrickref01_U16.f s a = some (x, y, e) ∧ 0 ≤ e ∧ e ≤ 2 := by
      by_cases h : fits s a 2
      · exact ⟨_, _, _, u16_yes s (by omega) a _ (by decide) h, ref16_yes s hs' a h, by decide, by decide⟩
      · exact ⟨_, _, _, u16_no s (by omega) a _ (by decide) h, ref16_no s hs' a h, by decide, by decide⟩
    have t3 : ∃ x y e, octet_U32.f 2001 s a = some (x, y, e) ∧ derrickref01_U32.f s a = some (x, y, e) ∧ 0 ≤ e ∧ e ≤ 2 := by
      by_cases h : fits s a 4
      · exact ⟨_, _, _, u32_yes s (by omega) a _ (by decide) h, ref32_yes s hs' a h, by decide, by decide⟩
      · exact ⟨_, _, _, u32_no s (by omega) a _ (by decide) h, ref32_no s hs' a h, by decide, by decide⟩
    have t4 : ∃ x y e, octet_Some.f s a m = some (x, y, e) ∧ derrickref01_Some.f 2001 s a m = some (x, y, e) ∧ 0 ≤ e ∧ e ≤ 2 := by
      by_cases h : fits s a m
      · exact ⟨_, _, _, some_yes s (by omega) a m h, refSome_yes s hs' a m h 2001 (by decide), by decide, by decide⟩
      · exact ⟨_, _, _, some_no s (by omega) a m h, refSome_no s hs' a m h 2001, by decide, by decide⟩
    obtain ⟨x1, y1, e1, b1, c1, f1, g1⟩ := t1
    obtain ⟨x2, y2, e2, b2, c2, f2, g2⟩ := t2
    obtain ⟨x3, y3, e3, b3, c3, f3, g3⟩ := t3
    obtain ⟨x4, y4, e4, b4, c4, f4, g4⟩ := t4
    exact tells_same 2001 n s a m x1 y1 e1 x2 y2 e2 x3 y3 e3 x4 y4 e4 _ _ w hs' hn.1 hn.2 f1 g1 f2 g2 f3 g3 f4 g4 A4 ⟨b1⟩ ⟨c1⟩ ⟨b2⟩ ⟨c2⟩ ⟨b3⟩ ⟨c3⟩ ⟨b4⟩ ⟨c4⟩
      ⟨put16_is 2001 _ (by omega) (by decide)⟩ ⟨refPut16_is _ (by omega)⟩ ⟨put32_is 2001 n hn (by decide)⟩ ⟨refPut32_is n hn⟩
end Go.Proofs.Ytfcblhdonmfnpaa.OwnTells
