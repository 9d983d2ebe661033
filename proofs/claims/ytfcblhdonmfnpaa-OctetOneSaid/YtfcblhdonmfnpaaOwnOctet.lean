/- What the octet functions answer, in closed words, over their printed plain forms: a part of a string, one, two and four bytes as a number, two bytes of a number. -/
import Derived.Test.YtfcblhdonmfnpaaPOctetTellsx1
namespace Go.Proofs.Ytfcblhdonmfnpaa.Own
open Go.RowKit Go.Proofs.Ytfcblhdonmfnpaa.POctetTells Go.Proofs.YtfcblhdonmfnpaaW.PrintWords Go.Proofs.YtfcblhdonmfnpaaW.PrintLast Go.Proofs.YtfcblhdonmfnpaaW.PrintMore

theorem wrap_in {n : Int} (h0 : -9223372036854775808 ≤ n) (h1 : n ≤ 9223372036854775807) : wrap64 n = n := by unfold wrap64; omega
theorem wrap_u16 (n : Int) : IntKind.u16.wrap n = n % 65536 := by simp [IntKind.wrap, IntKind.bits, IntKind.signed]
theorem u8_of {c : Int} (h : (Lit.int .u8 c).wf = true) : 0 ≤ c ∧ c ≤ 255 := by
  have a : IntKind.u8.min = 0 := by decide
  have b : IntKind.u8.max = 255 := by decide
  simpa [Lit.wf, a, b] using h
theorem u32_of {c : Int} (h : (Lit.int .u32 c).wf = true) : 0 ≤ c ∧ c ≤ 4294967295 := by
  have a : IntKind.u32.min = 0 := by decide
  have b : IntKind.u32.max = 4294967295 := by decide
  simpa [Lit.wf, a, b] using h
theorem i64_of {c : Int} (h : (Lit.int .i64 c).wf = true) : -9223372036854775808 ≤ c ∧ c ≤ 9223372036854775807 := by
  have a : IntKind.i64.min = -9223372036854775808 := by decide
  have b : IntKind.i64.max = 9223372036854775807 := by decide
  simpa [Lit.wf, a, b] using h
theorem or_join (n c : Int) (hn : 0 ≤ n) (hn1 : n < 16777216) (hc : 0 ≤ c ∧ c ≤ 255) : Go.bits .or .u32 ((n * 256) % 4294967296) (c % 4294967296) = n * 256 + c := by
  rw [Int.emod_eq_of_lt (by omega) (by omega), Int.emod_eq_of_lt (by omega) (by omega)]
  exact bits_join .u32 32 (by decide) (fun n h0 h1 => by rw [IntKind.wrap_u32]; omega) 8 _ _ (by omega) (by omega) (by omega) (by omega) (by omega) (by omega)

/-- a byte by its place -/
def by_ (s : ByteArray) (i : Nat) : Int := bt s (i : Int)
theorem by_range (s : ByteArray) (i : Nat) : 0 ≤ by_ s i ∧ by_ s i ≤ 255 := bt_range s _
theorem bt_by (s : ByteArray) (i : Int) (h : 0 ≤ i) : bt s i = by_ s i.toNat := by
  unfold by_; rw [Int.toNat_of_nonneg h]
theorem by_get (s : ByteArray) (i : Nat) (h : i < s.size) : by_ s i = ((s[i]'h).toNat : Int) := by
  have h' : ((i : Int)).toNat < s.size := by simpa using h
  simp only [by_, bt, dif_pos h']
  rfl
theorem by_extract (s : ByteArray) (a b i : Nat) (hb : b ≤ s.size) (hi : a + i < b) : by_ (s.extract a b) i = by_ s (a + i) := by
  rw [by_get _ _ (by rw [ByteArray.size_extract]; omega), by_get _ _ (by omega)]
  congr 1
  exact congrArg UInt8.toNat (by simp [ByteArray.getElem_extract])
theorem by_nums (l : List Int) (i : Nat) (h : i < l.length) (hr : 0 ≤ l[i] ∧ l[i] ≤ 255) : by_ (strOfNums l) i = l[i] := by
  rw [by_get _ _ (by rw [strOfNums_size]; exact h)]
  have e : (strOfNums l)[i]'(by rw [strOfNums_size]; exact h) = UInt8.ofNat (l[i]).toNat := by
    simp [strOfNums, ByteArray.getElem_eq_getElem_data]
  rw [e, UInt8.toNat_ofNat']
  omega
theorem by_append_left (s t : ByteArray) (i : Nat) (h : i < s.size) : by_ (s ++ t) i = by_ s i := by
  rw [by_get _ _ (by rw [ByteArray.size_append]; omega), by_get _ _ h, ByteArray.getElem_append_left h]
theorem by_append_right (s t : ByteArray) (i : Nat) (h : i < t.size) : by_ (s ++ t) (s.size + i) = by_ t i := by
  rw [by_get _ _ (by rw [ByteArray.size_append]; omega), by_get _ _ h, ByteArray.getElem_append_right (by omega)]
  simp

/-- are there so many bytes from a place on? -/
def fits (s : ByteArray) (at_ many : Int) : Prop := 0 ≤ at_ ∧ 0 ≤ many ∧ at_ ≤ (s.size : Int) ∧ many ≤ (s.size : Int) - at_
instance (s : ByteArray) (a m : Int) : Decidable (fits s a m) := by unfold fits; infer_instance
theorem some_yes (s : ByteArray) (hs : s.size ≤ 140737488355327) (a m : Int) (h : fits s a m) : octet_Some.f s a m = some (s.extract a.toNat (a + m).toNat, a + m, 0) := by
  obtain ⟨h0, h1, h2, h3⟩ := h
  unfold octet_Some.f
  rw [wrap_in (n := a + m) (by omega) (by omega), wrap_in (n := (s.size : Int) - a) (by omega) (by omega)]
  rw [if_neg (by omega), if_neg (by omega), if_neg (by omega), if_neg (by omega), if_pos (by omega), if_pos (by omega), if_pos (by omega)]
theorem some_no (s : ByteArray) (hs : s.size ≤ 140737488355327) (a m : Int) (h : ¬ fits s a m) : octet_Some.f s a m = some (⟨#[]⟩, 0, 2) := by
  unfold octet_Some.f
  by_cases h0 : a < 0
  · rw [if_pos h0]
  · by_cases h1 : m < 0
    · rw [if_neg h0, if_pos h1]
    · by_cases h2 : a > (s.size : Int)
      · rw [if_neg h0, if_neg h1, if_pos h2]
      · have h3 : m > (s.size : Int) - a := by unfold fits at h; omega
        rw [if_neg h0, if_neg h1, if_neg h2, wrap_in (n := (s.size : Int) - a) (by omega) (by omega), if_pos h3]
theorem ext_size (s : ByteArray) (a m : Int) (h : fits s a m) : (s.extract a.toNat (a + m).toNat).size = m.toNat := by
  obtain ⟨h0, h1, h2, h3⟩ := h
  rw [ByteArray.size_extract]
  omega
theorem ext_by (s : ByteArray) (a m : Int) (h : fits s a m) (i : Nat) (hi : (i : Int) < m) : by_ (s.extract a.toNat (a + m).toNat) i = by_ s (a.toNat + i) := by
  obtain ⟨h0, h1, h2, h3⟩ := h
  exact by_extract _ _ _ _ (by omega) (by omega)
theorem l0_none (k : Nat) : 0 < k + 1 := Nat.succ_pos k
theorem loop16_2 (x : ByteArray) (k : Nat) (p e : Int) (hx : x.size = 2) (hk : 2 < k) : octet_number_uint16.l0 k x p e 0 (x.size : Int) 0 = some (IntKind.u16.wrap (by_ x 0 * 256 + by_ x 1), p, e) := by
  obtain ⟨k, rfl⟩ : ∃ m, k = m + 3 := ⟨k - 3, by omega⟩
  have r0 := by_range x 0
  have r1 := by_range x 1
  simp only [octet_number_uint16.l0]
  rw [hx]
  rw [if_pos (by decide), if_pos (by decide), if_pos (by decide), bt_by x 0 (by decide), or_join _ _ (by decide) (by decide) (by_range _ _)]
  rw [wrap_in (n := 0 + 1) (by decide) (by decide)]
  rw [if_pos (by decide), if_pos (by decide), if_pos (by decide), bt_by x (0 + 1) (by decide), or_join _ _ (by show 0 ≤ 0 * 256 + by_ x 0; omega) (by show 0 * 256 + by_ x 0 < _; omega) (by_range _ _)]
  rw [wrap_in (n := 0 + 1 + 1) (by decide) (by decide)]
  rw [if_neg (by decide)]
  simp
theorem u16_yes (s : ByteArray) (hs : s.size ≤ 140737488355327) (a : Int) (k : Nat) (hk : 2 < k) (h : fits s a 2) : octet_U16.f k s a = some (by_ s a.toNat * 256 + by_ s (a.toNat + 1), a + 2, 0) := by
  unfold octet_U16.f octet_number_uint16.f
  rw [some_yes s hs a 2 h]
  simp only [Option.bind_some]
  rw [loop16_2 _ k _ _ (ext_size s a 2 h) hk]
  simp only [Option.bind_some]
  have r0 := by_range s a.toNat
  have r1 := by_range s (a.toNat + 1)
  rw [ext_by s a 2 h 0 (by decide), ext_by s a 2 h 1 (by decide), wrap_u16, Int.emod_eq_of_lt (by show 0 ≤ by_ s a.toNat * 256 + by_ s (a.toNat + 1); omega) (by show by_ s a.toNat * 256 + by_ s (a.toNat + 1) < _; omega)]
  rfl
theorem u16_no (s : ByteArray) (hs : s.size ≤ 140737488355327) (a : Int) (k : Nat) (hk : 2 < k) (h : ¬ fits s a 2) : octet_U16.f k s a = some (0, 0, 2) := by
  obtain ⟨k, rfl⟩ : ∃ m, k = m + 1 := ⟨k - 1, by omega⟩
  unfold octet_U16.f octet_number_uint16.f
  rw [some_no s hs a 2 h]
  rfl
theorem loop8_1 (x : ByteArray) (k : Nat) (p e : Int) (hx : x.size = 1) (hk : 1 < k) : octet_number_uint8.l0 k x p e 0 (x.size : Int) 0 = some ((by_ x 0) % 256, p, e) := by
  obtain ⟨k, rfl⟩ : ∃ m, k = m + 2 := ⟨k - 2, by omega⟩
  have r0 := by_range x 0
  simp only [octet_number_uint8.l0]
  rw [hx]
  rw [if_pos (by decide), if_pos (by decide), if_pos (by decide), bt_by x 0 (by decide), or_join _ _ (by decide) (by decide) (by_range _ _)]
  rw [wrap_in (n := 0 + 1) (by decide) (by decide)]
  rw [if_neg (by decide)]
  simp
theorem u8_yes (s : ByteArray) (hs : s.size ≤ 140737488355327) (a : Int) (k : Nat) (hk : 1 < k) (h : fits s a 1) : octet_U8.f k s a = some (by_ s a.toNat, a + 1, 0) := by
  unfold octet_U8.f octet_number_uint8.f
  rw [some_yes s hs a 1 h]
  simp only [Option.bind_some]
  rw [loop8_1 _ k _ _ (ext_size s a 1 h) hk]
  simp only [Option.bind_some]
  rw [ext_by s a 1 h 0 (by decide), Int.emod_eq_of_lt (by_range _ _).1 (by have := by_range s (a.toNat + 0); omega)]
  rfl
theorem u8_no (s : ByteArray) (hs : s.size ≤ 140737488355327) (a : Int) (k : Nat) (hk : 1 < k) (h : ¬ fits s a 1) : octet_U8.f k s a = some (0, 0, 2) := by
  obtain ⟨k, rfl⟩ : ∃ m, k = m + 1 := ⟨k - 1, by omega⟩
  unfold octet_U8.f octet_number_uint8.f
  rw [some_no s hs a 1 h]
  rfl
theorem loop32_4 (x : ByteArray) (k : Nat) (p e : Int) (hx : x.size = 4) (hk : 4 < k) : octet_number_uint32.l0 k x p e 0 (x.size : Int) 0 = some (((by_ x 0 * 256 + by_ x 1) * 256 + by_ x 2) * 256 + by_ x 3, p, e) := by
  obtain ⟨k, rfl⟩ : ∃ m, k = m + 5 := ⟨k - 5, by omega⟩
  have r0 := by_range x 0
  have r1 := by_range x 1
  have r2 := by_range x 2
  have r3 := by_range x 3
  simp only [octet_number_uint32.l0]
  rw [hx]
  rw [if_pos (by decide), if_pos (by decide), if_pos (by decide), bt_by x 0 (by decide), or_join _ _ (by decide) (by decide) (by_range _ _)]
  rw [wrap_in (n := 0 + 1) (by decide) (by decide)]
  rw [if_pos (by decide), if_pos (by decide), if_pos (by decide), bt_by x (0 + 1) (by decide), or_join _ _ (by show 0 ≤ 0 * 256 + by_ x 0; omega) (by show 0 * 256 + by_ x 0 < _; omega) (by_range _ _)]
  rw [wrap_in (n := 0 + 1 + 1) (by decide) (by decide)]
  rw [if_pos (by decide), if_pos (by decide), if_pos (by decide), bt_by x (0 + 1 + 1) (by decide), or_join _ _ (by show 0 ≤ (0 * 256 + by_ x 0) * 256 + by_ x 1; omega) (by show (0 * 256 + by_ x 0) * 256 + by_ x 1 < _; omega) (by_range _ _)]
  rw [wrap_in (n := 0 + 1 + 1 + 1) (by decide) (by decide)]
  rw [if_pos (by decide), if_pos (by decide), if_pos (by decide), bt_by x (0 + 1 + 1 + 1) (by decide), or_join _ _ (by show 0 ≤ ((0 * 256 + by_ x 0) * 256 + by_ x 1) * 256 + by_ x 2; omega) (by show ((0 * 256 + by_ x 0) * 256 + by_ x 1) * 256 + by_ x 2 < _; omega) (by_range _ _)]
  rw [wrap_in (n := 0 + 1 + 1 + 1 + 1) (by decide) (by decide)]
  rw [if_neg (by decide)]
  simp
theorem u32_yes (s : ByteArray) (hs : s.size ≤ 140737488355327) (a : Int) (k : Nat) (hk : 4 < k) (h : fits s a 4) :
    octet_U32.f k s a = some (((by_ s a.toNat * 256 + by_ s (a.toNat + 1)) * 256 + by_ s (a.toNat + 2)) * 256 + by_ s (a.toNat + 3), a + 4, 0) := by
  unfold octet_U32.f octet_number_uint32.f
  rw [some_yes s hs a 4 h]
  simp only [Option.bind_some]
  rw [loop32_4 _ k _ _ (ext_size s a 4 h) hk]
  simp only [Option.bind_some]
  rw [ext_by s a 4 h 0 (by decide), ext_by s a 4 h 1 (by decide), ext_by s a 4 h 2 (by decide), ext_by s a 4 h 3 (by decide)]
  rfl
theorem u32_no (s : ByteArray) (hs : s.size ≤ 140737488355327) (a : Int) (k : Nat) (hk : 4 < k) (h : ¬ fits s a 4) : octet_U32.f k s a = some (0, 0, 2) := by
  obtain ⟨k, rfl⟩ : ∃ m, k = m + 1 := ⟨k - 1, by omega⟩
  unfold octet_U32.f octet_number_uint32.f
  rw [some_no s hs a 4 h]
  rfl
theorem shr_at (x : Int) (j : Nat) (hj : j ≤ 32) : shr .u32 x (j : Int) = x / 2 ^ j := by
  unfold shr
  rw [show min ((j : Int)).toNat IntKind.u32.bits = j by simp only [Int.toNat_natCast, IntKind.bits]; omega]
theorem bytes_2 (k : Nat) (n : Int) (hk : 2 < k) : octet_bytes.f k n 2 = some (strOfNums [n / 256 % 256, n % 256]) := by
  obtain ⟨k, rfl⟩ : ∃ m, k = m + 3 := ⟨k - 3, by omega⟩
  unfold octet_bytes.f
  rw [if_pos (by decide), if_pos (by decide)]
  simp only [octet_bytes.l0]
  rw [wrap_in (n := 2 - 1) (by decide) (by decide), wrap_in (n := 8 * 0) (by decide) (by decide), wrap_in (n := 2 - 1 - 0) (by decide) (by decide)]
  rw [if_pos (by decide), if_pos (by decide), if_pos (by decide), if_pos (by simp)]
  rw [wrap_in (n := 0 + 1) (by decide) (by decide), wrap_in (n := 8 * (0 + 1)) (by decide) (by decide), wrap_in (n := 2 - 1 - (0 + 1)) (by decide) (by decide)]
  rw [if_pos (by decide), if_pos (by decide), if_pos (by decide), if_pos (by simp)]
  rw [wrap_in (n := 0 + 1 + 1) (by decide) (by decide)]
  rw [if_neg (by decide), show (8 * 0 : Int) = ((0 : Nat) : Int) by decide, show (8 * (0 + 1) : Int) = ((8 : Nat) : Int) by decide, shr_at _ _ (by decide), shr_at _ _ (by decide)]
  simp
theorem bytes_4 (k : Nat) (n : Int) (hk : 4 < k) : octet_bytes.f k n 4 = some (strOfNums [n / 16777216 % 256, n / 65536 % 256, n / 256 % 256, n % 256]) := by
  obtain ⟨k, rfl⟩ : ∃ m, k = m + 5 := ⟨k - 5, by omega⟩
  unfold octet_bytes.f
  rw [if_pos (by decide), if_pos (by decide)]
  simp only [octet_bytes.l0]
  rw [wrap_in (n := 4 - 1) (by decide) (by decide), wrap_in (n := 8 * 0) (by decide) (by decide), wrap_in (n := 4 - 1 - 0) (by decide) (by decide)]
  rw [if_pos (by decide), if_pos (by decide), if_pos (by decide), if_pos (by simp)]
  rw [wrap_in (n := 0 + 1) (by decide) (by decide), wrap_in (n := 8 * (0 + 1)) (by decide) (by decide), wrap_in (n := 4 - 1 - (0 + 1)) (by decide) (by decide)]
  rw [if_pos (by decide), if_pos (by decide), if_pos (by decide), if_pos (by simp)]
  rw [wrap_in (n := 0 + 1 + 1) (by decide) (by decide), wrap_in (n := 8 * (0 + 1 + 1)) (by decide) (by decide), wrap_in (n := 4 - 1 - (0 + 1 + 1)) (by decide) (by decide)]
  rw [if_pos (by decide), if_pos (by decide), if_pos (by decide), if_pos (by simp)]
  rw [wrap_in (n := 0 + 1 + 1 + 1) (by decide) (by decide), wrap_in (n := 8 * (0 + 1 + 1 + 1)) (by decide) (by decide), wrap_in (n := 4 - 1 - (0 + 1 + 1 + 1)) (by decide) (by decide)]
  rw [if_pos (by decide), if_pos (by decide), if_pos (by decide), if_pos (by simp)]
  rw [wrap_in (n := 0 + 1 + 1 + 1 + 1) (by decide) (by decide)]
  rw [if_neg (by decide), show (8 * 0 : Int) = ((0 : Nat) : Int) by decide, show (8 * (0 + 1) : Int) = ((8 : Nat) : Int) by decide, show (8 * (0 + 1 + 1) : Int) = ((16 : Nat) : Int) by decide, show (8 * (0 + 1 + 1 + 1) : Int) = ((24 : Nat) : Int) by decide, shr_at _ _ (by decide), shr_at _ _ (by decide), shr_at _ _ (by decide), shr_at _ _ (by decide)]
  simp
theorem put16_is (k : Nat) (n : Int) (hn : 0 ≤ n ∧ n ≤ 65535) (hk : 2 < k) : octet_Put16.f k n = some (strOfNums [n / 256, n % 256]) := by
  unfold octet_Put16.f
  rw [Int.emod_eq_of_lt (by omega) (by omega), bytes_2 _ _ hk, show n / 256 % 256 = n / 256 by omega]
  rfl
theorem shown_is (k : Nat) (hk : 2 < k) : derricklaw01_shown.f k = some true := by
  unfold derricklaw01_shown.f
  rw [u16_yes _ (by decide) 1 k hk (by decide), put16_is k 258 (by decide) hk]
  simp only [Option.bind_some]
  rw [if_pos (by decide +kernel), if_pos (by decide +kernel), if_pos (by decide +kernel)]
  decide +kernel

end Go.Proofs.Ytfcblhdonmfnpaa.Own
