/- What the functions of package hash and of its reference answer, in closed words over their printed plain forms: a text's sum, a question's key and shard, whether there are few questions, whether two lists of numbers are the same, how questions are spread. -/
import Derived.Test.YtefijphihplblaaOwnHashP
namespace Go.Proofs.Ytefijphihplblaa.OwnHash
open Go.RowKit Go.Proofs.Ytefijphihplblaa.PHashTells Go.Proofs.Ytefijphihplblaa.OwnHashP Go.Proofs.YtefijphihplblaaW.PrintWords Go.Proofs.YtefijphihplblaaW.PrintLast Go.Proofs.YtefijphihplblaaW.PrintMore

theorem wrap_in {n : Int} (h0 : -9223372036854775808 ≤ n) (h1 : n ≤ 9223372036854775807) : wrap64 n = n := by unfold wrap64; omega
theorem wrap_u16 (n : Int) : IntKind.u16.wrap n = n % 65536 := by simp [IntKind.wrap, IntKind.bits, IntKind.signed]
theorem wrap_u64 (n : Int) : IntKind.u64.wrap n = n % 18446744073709551616 := by simp [IntKind.wrap, IntKind.bits, IntKind.signed]
theorem u16_of {c : Int} (h : (Lit.int .u16 c).wf = true) : 0 ≤ c ∧ c ≤ 65535 := by
  have a : IntKind.u16.min = 0 := by decide
  have b : IntKind.u16.max = 65535 := by decide
  simpa [Lit.wf, a, b] using h
theorem u8_of {c : Int} (h : (Lit.int .u8 c).wf = true) : 0 ≤ c ∧ c ≤ 255 := by
  have a : IntKind.u8.min = 0 := by decide
  have b : IntKind.u8.max = 255 := by decide
  simpa [Lit.wf, a, b] using h

/-- one byte's step -/
def stepH (h c : Int) : Int := (Go.bits .xor .u32 h (c % 4294967296) * 16777619) % 4294967296
def sumL (h : Int) (l : List UInt8) : Int := l.foldl (fun h c => stepH h (c.toNat : Int)) h
/-- a text's sum -/
def sumOf (s : ByteArray) : Int := sumL 2166136261 s.data.toList
theorem stepH_range (h c : Int) : 0 ≤ stepH h c ∧ stepH h c < 4294967296 := by unfold stepH; omega
theorem sumL_range (l : List UInt8) : ∀ h, 0 ≤ h → h < 4294967296 → 0 ≤ sumL h l ∧ sumL h l < 4294967296 := by
  induction l with
  | nil => intro h h0 h1; exact ⟨h0, h1⟩
  | cons c l ih => intro h h0 h1; exact ih _ (stepH_range _ _).1 (stepH_range _ _).2
theorem sumOf_range (s : ByteArray) : 0 ≤ sumOf s ∧ sumOf s < 4294967296 := sumL_range _ _ (by decide) (by decide)

theorem bt_list (s : ByteArray) (i : Nat) (h : i < s.size) : ∃ c, s.data.toList.drop i = c :: s.data.toList.drop (i + 1) ∧ bt s (i : Int) = (c.toNat : Int) := by
  have hl : i < s.data.toList.length := by simpa using h
  refine ⟨s.data.toList[i], List.drop_eq_getElem_cons hl, ?_⟩
  have h' : ((i : Int)).toNat < s.size := by simpa using h
  simp only [bt, dif_pos h']
  rfl

theorem of_loop (s : ByteArray) (hs : s.size ≤ 9223372036854775806) (d : Nat) : ∀ (k i : Nat) (h : Int), i + d = s.size → d < k →
    hash_Of.l0 k s h (s.size : Int) (i : Int) = some (sumL h (s.data.toList.drop i)) := by
  induction d with
  | zero =>
    intro k i h hi hk
    obtain ⟨k, rfl⟩ : ∃ m, k = m + 1 := ⟨k - 1, by omega⟩
    simp only [hash_Of.l0]
    rw [if_neg (by omega), List.drop_of_length_le (by simp; omega)]
    rfl
  | succ d ih =>
    intro k i h hi hk
    obtain ⟨k, rfl⟩ : ∃ m, k = m + 1 := ⟨k - 1, by omega⟩
    obtain ⟨c, hc, hb⟩ := bt_list s i (by omega)
    simp only [hash_Of.l0]
    rw [if_pos (by omega), if_pos (by omega), if_pos (by omega), wrap_in (by omega) (by omega), hb]
    have := ih k (i + 1) (stepH h (c.toNat : Int)) (by omega) (by omega)
    rw [show ((i : Int) + 1) = ((i + 1 : Nat) : Int) by omega]
    unfold stepH at this
    rw [this, hc]
    rfl
theorem of_is (s : ByteArray) (hs : s.size ≤ 9223372036854775806) (k : Nat) (hk : s.size < k) : hash_Of.f k s = some (sumOf s) := by
  have := of_loop s hs s.size k 0 2166136261 (by omega) hk
  simpa [hash_Of.f, sumOf] using this
theorem shown_is (k : Nat) (hk : 1 < k) : derricklaw09_shown.f k = some true := by
  unfold derricklaw09_shown.f
  rw [of_is _ (by decide) k (by show 0 < k; omega)]
  simp only [Option.bind_some]
  rw [if_pos (by decide +kernel), of_is _ (by decide) k (by show 1 < k; omega)]
  simp only [Option.bind_some]
  decide +kernel

/-- the reference's step, in 64 bits, is the same -/
theorem xor64 (h c : Int) (hh : 0 ≤ h ∧ h < 4294967296) (hc : 0 ≤ c ∧ c ≤ 255) : Go.bits .xor .u64 h (IntKind.u64.wrap c) = Go.bits .xor .u32 h (c % 4294967296) := by
  obtain ⟨a, rfl⟩ := Int.eq_ofNat_of_zero_le hh.1
  obtain ⟨b, rfl⟩ := Int.eq_ofNat_of_zero_le hc.1
  have ha : a < 2 ^ 32 := by omega
  have hb : b < 2 ^ 32 := by omega
  rw [wrap_u64, Int.emod_eq_of_lt (by omega) (by omega), Int.emod_eq_of_lt (by omega) (by omega)]
  unfold Go.bits
  rw [wrap_u64, IntKind.wrap_u32]
  have e1 : ((BitVec.ofInt IntKind.u64.bits (a : Int)) ^^^ (BitVec.ofInt IntKind.u64.bits (b : Int))).toNat = a ^^^ b := by
    rw [BitVec.toNat_xor, BitVec.ofInt_natCast, BitVec.ofInt_natCast, BitVec.toNat_ofNat, BitVec.toNat_ofNat]
    rw [Nat.mod_eq_of_lt (Nat.lt_trans ha (by decide)), Nat.mod_eq_of_lt (Nat.lt_trans hb (by decide))]
  have e2 : ((BitVec.ofInt IntKind.u32.bits (a : Int)) ^^^ (BitVec.ofInt IntKind.u32.bits (b : Int))).toNat = a ^^^ b := by
    rw [BitVec.toNat_xor, BitVec.ofInt_natCast, BitVec.ofInt_natCast, BitVec.toNat_ofNat, BitVec.toNat_ofNat]
    rw [Nat.mod_eq_of_lt (by exact ha), Nat.mod_eq_of_lt (by exact hb)]
  have hx : a ^^^ b < 2 ^ 32 := Nat.xor_lt_two_pow ha hb
  simp only [e1, e2]
  omega
theorem xor_range (x y : Int) : 0 ≤ Go.bits .xor .u32 x y ∧ Go.bits .xor .u32 x y < 4294967296 := by
  unfold Go.bits
  rw [IntKind.wrap_u32]
  omega
theorem refStep (h c : Int) (hh : 0 ≤ h ∧ h < 4294967296) (hc : 0 ≤ c ∧ c ≤ 255) :
    Int.tmod (IntKind.u64.wrap ((Go.bits .xor .u64 h (IntKind.u64.wrap c)) * 16777619)) 4294967296 = stepH h c := by
  have r := xor_range h (c % 4294967296)
  rw [xor64 h c hh hc, wrap_u64, Int.emod_eq_of_lt (by omega) (by omega), Int.tmod_eq_emod_of_nonneg (by omega)]
  rfl
theorem refOf_loop (s : ByteArray) (hs : s.size ≤ 9223372036854775806) (d : Nat) : ∀ (k i : Nat) (h : Int), 0 ≤ h → h < 4294967296 → i + d = s.size → d < k →
    derrickref09_Of.l0 k s h (i : Int) = some (sumL h (s.data.toList.drop i)) := by
  induction d with
  | zero =>
    intro k i h h0 h1 hi hk
    obtain ⟨k, rfl⟩ : ∃ m, k = m + 1 := ⟨k - 1, by omega⟩
    simp only [derrickref09_Of.l0]
    rw [if_neg (by omega), List.drop_of_length_le (by simp; omega), Int.emod_eq_of_lt h0 h1]
    rfl
  | succ d ih =>
    intro k i h h0 h1 hi hk
    obtain ⟨k, rfl⟩ : ∃ m, k = m + 1 := ⟨k - 1, by omega⟩
    obtain ⟨c, hc, hb⟩ := bt_list s i (by omega)
    have hr := bt_range s (i : Int)
    simp only [derrickref09_Of.l0]
    rw [if_pos (by omega), if_pos (by omega), wrap_in (by omega) (by omega), refStep h _ ⟨h0, h1⟩ hr, hb]
    rw [show ((i : Int) + 1) = ((i + 1 : Nat) : Int) by omega]
    rw [ih k (i + 1) _ (stepH_range _ _).1 (stepH_range _ _).2 (by omega) (by omega), hc]
    rfl
theorem refOf_is (s : ByteArray) (hs : s.size ≤ 9223372036854775806) (k : Nat) (hk : s.size < k) : derrickref09_Of.f k s = some (sumOf s) := by
  have := refOf_loop s hs s.size k 0 2166136261 (by decide) (by decide) (by omega) hk
  simpa [derrickref09_Of.f, sumOf] using this

/-- two bytes of a number -/
def put2 (n : Int) : ByteArray := strOfNums [n / 256, n % 256]
theorem put2_size (n : Int) : (put2 n).size = 2 := strOfNums_size _
theorem shr_at (x : Int) (j : Nat) (hj : j ≤ 32) : shr .u32 x (j : Int) = x / 2 ^ j := by
  unfold shr
  rw [show min ((j : Int)).toNat IntKind.u32.bits = j by simp only [Int.toNat_natCast, IntKind.bits]; omega]
theorem bytes_2 (k : Nat) (n : Int) (hk : 2 < k) : octet_bytes.f k n 2 = some (strOfNums [n / 256 % 256, n % 256]) := by
  obtain ⟨k, rfl⟩ : ∃ m, k = m + 3 := ⟨k - 3, by omega⟩
  unfold octet_bytes.f
  rw [if_pos (by decide), if_pos (by decide)]
  simp only [octet_bytes.l0]
  rw [wrap_in (n := 2 - 1) (by decide) (by decide), wrap_in (n := 8 * 0) (by decide) (by decide), wrap_in (n := 2 - 1 - 0) (by decide) (by decide)]
  rw [if_pos (by decide), if_pos (by decide), if_pos (by decide), if_pos (by simp)]
  rw [wrap_in (n := 0 + 1) (by decide) (by decide), wrap_in (n := 8 * (0 + 1)) (by decide) (by decide), wrap_in (n := 2 - 1 - (0 + 1)) (by decide) (by decide)]
  rw [if_pos (by decide), if_pos (by decide), if_pos (by decide), if_pos (by simp)]
  rw [wrap_in (n := 0 + 1 + 1) (by decide) (by decide)]
  rw [if_neg (by decide), show (8 * 0 : Int) = ((0 : Nat) : Int) by decide, show (8 * (0 + 1) : Int) = ((8 : Nat) : Int) by decide, shr_at _ _ (by decide), shr_at _ _ (by decide)]
  simp
theorem put16_is (k : Nat) (n : Int) (hn : 0 ≤ n ∧ n ≤ 65535) (hk : 2 < k) : octet_Put16.f k n = some (put2 n) := by
  unfold octet_Put16.f put2
  rw [Int.emod_eq_of_lt (by omega) (by omega), bytes_2 _ _ hk, show n / 256 % 256 = n / 256 by omega]
  rfl
theorem refPut16_is (n : Int) (hn : 0 ≤ n ∧ n ≤ 65535) : derrickref01_Put16.f n = some (put2 n) := by
  unfold derrickref01_Put16.f put2
  rw [Int.tdiv_eq_ediv_of_nonneg hn.1, Int.tmod_eq_emod_of_nonneg hn.1, wrap_u16]
  rw [show n / 256 % 65536 % 256 = n / 256 by omega, show n % 256 % 256 = n % 256 by omega]

/-- a question, whose numbers are of their kind -/
structure GoodQ (x : S29) : Prop where
  small : x.f0.size ≤ 300
  t0 : 0 ≤ x.f1 ∧ x.f1 ≤ 65535
  c0 : 0 ≤ x.f2 ∧ x.f2 ≤ 65535
/-- a question's key -/
def keyB (x : S29) : ByteArray := (x.f0 ++ put2 x.f1) ++ put2 x.f2
theorem keyB_size (x : S29) : (keyB x).size = x.f0.size + 4 := by
  unfold keyB
  rw [ByteArray.size_append, ByteArray.size_append, put2_size, put2_size]
theorem key_is (x : S29) (hx : GoodQ x) (k : Nat) (hk : 2 < k) : hash_Key.f k x.f0 x.f1 x.f2 = some (keyB x) := by
  have := hx.small
  unfold hash_Key.f keyB
  rw [put16_is k _ hx.t0 hk, put16_is k _ hx.c0 hk]
  simp only [Option.bind_some]
  rw [if_pos (by rw [put2_size]; omega), if_pos (by rw [ByteArray.size_append, put2_size, put2_size]; omega)]
theorem refKey_is (x : S29) (hx : GoodQ x) : derrickref09_Key.f x.f0 x.f1 x.f2 = some (keyB x) := by
  have := hx.small
  unfold derrickref09_Key.f keyB
  rw [refPut16_is _ hx.t0, refPut16_is _ hx.c0]
  simp only [Option.bind_some]
  rw [if_pos (by rw [put2_size]; omega), if_pos (by rw [ByteArray.size_append, put2_size, put2_size]; omega)]

/-- a question's shard -/
def shardOf (x : S29) (m : Int) : Int := if 1 ≤ m ∧ m ≤ 16 then sumOf (keyB x) % m else 0
theorem shardOf_range (x : S29) (m : Int) (h : 1 ≤ m) : 0 ≤ shardOf x m ∧ shardOf x m < m := by
  unfold shardOf
  split
  · exact ⟨Int.emod_nonneg _ (by omega), Int.emod_lt_of_pos _ (by omega)⟩
  · omega
theorem shards_is (m : Int) : hash_shards.f m = some (decide (1 ≤ m ∧ m ≤ 16)) := by
  unfold hash_shards.f
  by_cases h : m ≥ 1
  · rw [if_pos h]
    congr 1
    exact decide_eq_decide.mpr (by omega)
  · rw [if_neg h]
    congr 1
    exact (decide_eq_false (by omega)).symm
theorem shard_is (x : S29) (hx : GoodQ x) (m : Int) (k : Nat) (hk : 310 < k) : hash_Shard.f k x.f0 x.f1 x.f2 m = some (shardOf x m) := by
  have hs := hx.small
  have hz := keyB_size x
  have hr := sumOf_range (keyB x)
  unfold hash_Shard.f shardOf
  rw [shards_is]
  simp only [Option.bind_some]
  by_cases h : 1 ≤ m ∧ m ≤ 16
  · rw [if_pos (decide_eq_true h), if_pos h, key_is x hx k (by omega)]
    simp only [Option.bind_some]
    rw [of_is _ (by omega) k (by omega)]
    simp only [Option.bind_some]
    have hm0 := Int.emod_nonneg (sumOf (keyB x)) (b := m) (by omega)
    have hm1 := Int.emod_lt_of_pos (sumOf (keyB x)) (b := m) (by omega)
    rw [Int.emod_eq_of_lt (a := m) (by omega) (by omega), if_neg (by omega), Int.tmod_eq_emod_of_nonneg hr.1, wrap_in (by omega) (by omega)]
  · rw [if_neg (by simp only [decide_eq_true_eq]; exact h), if_neg h]
theorem refShard_is (x : S29) (hx : GoodQ x) (m : Int) (hm : m ≤ 9223372036854775807) (k : Nat) (hk : 310 < k) : derrickref09_Shard.f k x.f0 x.f1 x.f2 m = some (shardOf x m) := by
  obtain ⟨k, rfl⟩ : ∃ j, k = j + 1 := ⟨k - 1, by omega⟩
  have hs := hx.small
  have hz := keyB_size x
  have hr := sumOf_range (keyB x)
  unfold derrickref09_Shard.f shardOf
  by_cases h : m < 1
  · rw [if_pos h, if_neg (by omega)]
    rfl
  · rw [if_neg h]
    by_cases h2 : m > 16
    · rw [decide_eq_true h2, if_neg (by omega)]
      rfl
    · rw [decide_eq_false h2, if_pos (by omega)]
      simp only [derrickref09_Shard.j0]
      rw [if_neg (by decide), refKey_is x hx]
      simp only [Option.bind_some]
      rw [refOf_is _ (by omega) k (by omega)]
      simp only [Option.bind_some]
      have hm0 := Int.emod_nonneg (sumOf (keyB x)) (b := m) (by omega)
      have hm1 := Int.emod_lt_of_pos (sumOf (keyB x)) (b := m) (by omega)
      rw [wrap_u64, wrap_u64, Int.emod_eq_of_lt (a := m) (by omega) (by omega), Int.emod_eq_of_lt (a := sumOf (keyB x)) (by omega) (by omega), if_neg (by omega), Int.tmod_eq_emod_of_nonneg hr.1, wrap_in (by omega) (by omega)]

theorem rd_at (l : List S29) (i : Nat) (h : i < l.length) : rd_T29 l (i : Int) = l[i] := by
  simp [rd_T29, List.getD_eq_getElem?_getD, h]

/-- few questions, of short names -/
def Few (l : List S29) : Prop := l.length ≤ 200 ∧ ∀ x ∈ l, x.f0.size ≤ 300
theorem few_yes_loop (l : List S29) (h : Few l) (d : Nat) : ∀ k i : Nat, i + d = l.length → derricklaw09_few.l0 (k + 2 * d + 2) l (i : Int) = some true := by
  obtain ⟨hl, ha⟩ := h
  induction d with
  | zero =>
    intro k i hi
    simp only [derricklaw09_few.l0]
    rw [if_neg (by omega)]
    simp only [derricklaw09_few.j1]
    rw [if_neg (by decide), decide_eq_true (by omega)]
  | succ d ih =>
    intro k i hi
    have e : k + 2 * (d + 1) + 2 = (k + 2 * d + 2) + 2 := by omega
    rw [e]
    simp only [derricklaw09_few.l0]
    rw [if_pos (by omega), decide_eq_true (by omega)]
    simp only [derricklaw09_few.j1]
    have hx := ha l[i] (List.getElem_mem (by omega))
    rw [if_pos trivial, if_pos (by omega), if_pos (by omega), rd_at l i (by omega), if_neg (by omega), wrap_in (by omega) (by omega)]
    rw [show ((i : Int) + 1) = ((i + 1 : Nat) : Int) by omega]
    exact ih k (i + 1) (by omega)
theorem few_yes (l : List S29) (h : Few l) (k : Nat) (hk : 402 ≤ k) : derricklaw09_few.f k l = some true := by
  have e : k = (k - 2 * l.length - 2) + 2 * l.length + 2 := by have := h.1; omega
  unfold derricklaw09_few.f
  rw [e]
  exact few_yes_loop l h l.length _ 0 (by omega)
theorem few_no_loop (l : List S29) (h : ¬ Few l) (hs : l.length ≤ 9223372036854775806) (d : Nat) : ∀ k i : Nat, i + d = 201 → (∀ j, j < i → ∀ hj : j < l.length, (l[j]).f0.size ≤ 300) → derricklaw09_few.l0 (k + 2 * d + 2) l (i : Int) = some false := by
  induction d with
  | zero =>
    intro k i hi ha
    have hn : ¬ (l.length : Int) ≤ 200 := by
      intro hl
      apply h
      refine ⟨by omega, fun x hx => ?_⟩
      obtain ⟨j, hj, rfl⟩ := List.getElem_of_mem hx
      exact ha j (by omega) hj
    simp only [derricklaw09_few.l0]
    rw [decide_eq_false (by omega)]
    simp only [ite_self, derricklaw09_few.j1]
    rw [if_neg (by decide), decide_eq_false hn]
  | succ d ih =>
    intro k i hi ha
    have e : k + 2 * (d + 1) + 2 = (k + 2 * d + 2) + 2 := by omega
    rw [e]
    by_cases hl : i < l.length
    · simp only [derricklaw09_few.l0]
      rw [if_pos (by omega), decide_eq_true (by omega)]
      simp only [derricklaw09_few.j1]
      rw [if_pos trivial, if_pos (by omega), if_pos (by omega), rd_at l i hl, wrap_in (by omega) (by omega)]
      by_cases hx : ((l[i]).f0.size : Int) > 300
      · rw [if_pos hx]
      · rw [if_neg hx, show ((i : Int) + 1) = ((i + 1 : Nat) : Int) by omega]
        refine ih k (i + 1) (by omega) (fun j hj hjl => ?_)
        by_cases hji : j = i
        · subst hji
          omega
        · exact ha j (by omega) hjl
    · have hn : ¬ (l.length : Int) ≤ 200 := by
        intro hl'
        apply h
        refine ⟨by omega, fun x hx => ?_⟩
        obtain ⟨j, hj, rfl⟩ := List.getElem_of_mem hx
        exact ha j (by omega) hj
      simp only [derricklaw09_few.l0]
      rw [if_neg (by omega)]
      simp only [derricklaw09_few.j1]
      rw [if_neg (by decide), decide_eq_false hn]
theorem few_no (l : List S29) (h : ¬ Few l) (hs : l.length ≤ 9223372036854775806) (k : Nat) (hk : 404 ≤ k) : derricklaw09_few.f k l = some false := by
  have e : k = (k - 404) + 2 * 201 + 2 := by omega
  unfold derricklaw09_few.f
  rw [e]
  exact few_no_loop l h hs 201 _ 0 (by omega) (fun j hj => by omega)

theorem ints_loop (a b : List Int) (hl : a.length = b.length) (hs : a.length ≤ 9223372036854775806) (d : Nat) : ∀ k i : Nat, i + d = a.length → d < k → derrickref09_Ints.l0 k a b (i : Int) = some (decide (a.drop i = b.drop i)) := by
  induction d with
  | zero =>
    intro k i hi hk
    obtain ⟨k, rfl⟩ : ∃ m, k = m + 1 := ⟨k - 1, by omega⟩
    simp only [derrickref09_Ints.l0]
    rw [if_neg (by omega), List.drop_of_length_le (by omega), List.drop_of_length_le (by omega)]
    rfl
  | succ d ih =>
    intro k i hi hk
    obtain ⟨k, rfl⟩ : ∃ m, k = m + 1 := ⟨k - 1, by omega⟩
    have ra : rd a (i : Int) = a[i] := by simp [rd, List.getD_eq_getElem?_getD, show i < a.length by omega]
    have rb : rd b (i : Int) = b[i] := by simp [rd, List.getD_eq_getElem?_getD, show i < b.length by omega]
    simp only [derrickref09_Ints.l0]
    rw [if_pos (by omega), if_pos (by omega), if_pos (by omega), ra, rb, wrap_in (by omega) (by omega)]
    rw [List.drop_eq_getElem_cons (show i < a.length by omega), List.drop_eq_getElem_cons (show i < b.length by omega)]
    by_cases h : a[i] = b[i]
    · rw [if_pos h, show ((i : Int) + 1) = ((i + 1 : Nat) : Int) by omega, ih k (i + 1) (by omega) (by omega)]
      congr 1
      exact decide_eq_decide.mpr ⟨fun e => by rw [h, e], fun e => (List.cons.inj e).2⟩
    · rw [if_neg h, decide_eq_false (fun e => h (List.cons.inj e).1)]
theorem ints_is (a b : List Int) (hs : a.length ≤ 9223372036854775806) (k : Nat) (hk : a.length < k) : derrickref09_Ints.f k a b = some (decide (a = b)) := by
  unfold derrickref09_Ints.f
  by_cases h : a.length = b.length
  · rw [if_pos (by omega)]
    exact ints_loop a b h hs a.length k 0 (by omega) hk
  · rw [if_neg (by omega), decide_eq_false (fun e => h (by rw [e]))]

/-- how many of the questions stand in a shard -/
def countOf (l : List S29) (m j : Int) : Int := ((l.countP fun x => decide (shardOf x m = j) : Nat) : Int)
theorem countOf_nil (m j : Int) : countOf [] m j = 0 := rfl
theorem countOf_cons (x : S29) (l : List S29) (m j : Int) : countOf (x :: l) m j = (if shardOf x m = j then 1 else 0) + countOf l m j := by
  unfold countOf
  rw [List.countP_cons]
  by_cases h : shardOf x m = j
  · simp [h]; omega
  · simp [h]
theorem countOf_range (l : List S29) (m j : Int) : 0 ≤ countOf l m j ∧ countOf l m j ≤ l.length := by
  unfold countOf
  have := List.countP_le_length (p := fun x => decide (shardOf x m = j)) (l := l)
  omega
theorem countOf_append (l k : List S29) (m j : Int) : countOf (l ++ k) m j = countOf l m j + countOf k m j := by
  unfold countOf
  rw [List.countP_append]
  omega
/-- all shards' counts, from the first one on -/
def countsTo (l : List S29) (m : Int) (i : Nat) : List Int := (List.range i).map fun (j : Nat) => countOf l m (j : Int)
theorem countsTo_succ (l : List S29) (m : Int) (i : Nat) : countsTo l m (i + 1) = countsTo l m i ++ [countOf l m (i : Int)] := by simp [countsTo, List.range_succ]
theorem countsTo_length (l : List S29) (m : Int) (i : Nat) : (countsTo l m i).length = i := by simp [countsTo]
/-- how the questions are spread -/
def spreadOf (l : List S29) (m : Int) : List Int := if 1 ≤ m ∧ m ≤ 16 then countsTo l m m.toNat else []

theorem refInner (l : List S29) (hg : ∀ x ∈ l, GoodQ x) (hlen : l.length ≤ 200) (m : Int) (hm : m ≤ 16) (acc : List Int) (ha : acc.length ≤ 16) (j : Int) (hj : 0 ≤ j ∧ j ≤ 16) (d : Nat) :
    ∀ (k i : Nat) (n : Int), 310 < k → 0 ≤ n → n ≤ i → i + d = l.length → derrickref09_Spread.l1 (k + d + 1) l m acc j n (i : Int) = derrickref09_Spread.l0 k l m (acc ++ [n + countOf (l.drop i) m j]) (j + 1) := by
  induction d with
  | zero =>
    intro k i n hk h0 h1 hi
    simp only [derrickref09_Spread.l1]
    rw [if_neg (by omega), if_pos (by omega), wrap_in (by omega) (by omega), List.drop_of_length_le (by omega), countOf_nil, Int.add_zero]
  | succ d ih =>
    intro k i n hk h0 h1 hi
    obtain ⟨K, hK⟩ : ∃ K, K = k + d + 1 := ⟨_, rfl⟩
    have e : k + (d + 1) + 1 = K + 1 := by omega
    have hx : i < l.length := by omega
    rw [e]
    simp only [derrickref09_Spread.l1]
    rw [if_pos (by omega), if_pos (by omega), rd_at l i hx, refShard_is l[i] (hg _ (List.getElem_mem hx)) m (by omega) _ (by omega)]
    simp only [Option.bind_some]
    rw [wrap_in (n := (i : Int) + 1) (by omega) (by omega), wrap_in (n := n + 1) (by omega) (by omega), List.drop_eq_getElem_cons hx, countOf_cons]
    rw [show ((i : Int) + 1) = ((i + 1 : Nat) : Int) by omega]
    by_cases h : shardOf l[i] m = j
    · rw [if_pos h, if_pos h, hK, ih k (i + 1) (n + 1) hk (by omega) (by omega) (by omega), Int.add_assoc]
    · rw [if_neg h, if_neg h, hK, ih k (i + 1) n hk h0 (by omega) (by omega), Int.zero_add]

theorem refSpread_loop (l : List S29) (hg : ∀ x ∈ l, GoodQ x) (hlen : l.length ≤ 200) (m : Int) (h1 : 1 ≤ m) (hm : m ≤ 16) (d : Nat) :
    ∀ (k i : Nat), 320 < k → (i : Int) + d = m → derrickref09_Spread.l0 (k + d * (l.length + 3)) l m (countsTo l m i) (i : Int) = some (spreadOf l m) := by
  induction d with
  | zero =>
    intro k i hk hi
    obtain ⟨k, rfl⟩ : ∃ j, k = j + 2 := ⟨k - 2, by omega⟩
    simp only [Nat.zero_mul, Nat.add_zero, derrickref09_Spread.l0]
    rw [if_neg (by omega)]
    simp only [derrickref09_Spread.j1]
    rw [if_neg (by decide)]
    unfold spreadOf
    rw [if_pos ⟨h1, hm⟩, show m.toNat = i by omega]
  | succ d ih =>
    intro k i hk hi
    have e : k + (d + 1) * (l.length + 3) = ((k + d * (l.length + 3)) + l.length + 1) + 2 := by
      rw [Nat.add_mul]; omega
    rw [e]
    simp only [derrickref09_Spread.l0]
    rw [if_pos (by omega), decide_eq_true hm]
    simp only [derrickref09_Spread.j1]
    rw [if_pos trivial]
    have := refInner l hg hlen m hm (countsTo l m i) (by rw [countsTo_length]; omega) (i : Int) (by omega) l.length (k + d * (l.length + 3)) 0 0 (by omega) (by omega) (by omega) (by omega)
    refine this.trans ?_
    rw [List.drop_zero, Int.zero_add, ← countsTo_succ]
    rw [show ((i : Int) + 1) = ((i + 1 : Nat) : Int) by omega]
    exact ih k (i + 1) hk (by omega)

theorem refSpread_is (l : List S29) (hg : ∀ x ∈ l, GoodQ x) (hlen : l.length ≤ 200) (m : Int) (k : Nat) (hk : 4000 ≤ k) : derrickref09_Spread.f k l m = some (spreadOf l m) := by
  unfold derrickref09_Spread.f
  by_cases h1 : 1 ≤ m
  · by_cases hm : m ≤ 16
    · have hmul : m.toNat * (l.length + 3) ≤ 16 * 203 := Nat.mul_le_mul (by omega) (by omega)
      have e : k = (k - m.toNat * (l.length + 3)) + m.toNat * (l.length + 3) := by omega
      rw [e]
      exact refSpread_loop l hg hlen m h1 hm m.toNat _ 0 (by omega) (by omega)
    · obtain ⟨k, rfl⟩ : ∃ j, k = j + 2 := ⟨k - 2, by omega⟩
      simp only [derrickref09_Spread.l0]
      rw [if_pos (by omega), decide_eq_false hm]
      simp only [derrickref09_Spread.j1]
      rw [if_neg (by decide)]
      unfold spreadOf
      rw [if_neg (by omega)]
  · obtain ⟨k, rfl⟩ : ∃ j, k = j + 2 := ⟨k - 2, by omega⟩
    simp only [derrickref09_Spread.l0]
    rw [if_neg (by omega)]
    simp only [derrickref09_Spread.j1]
    rw [if_neg (by decide)]
    unfold spreadOf
    rw [if_neg (by omega)]
end Go.Proofs.Ytefijphihplblaa.OwnHash
