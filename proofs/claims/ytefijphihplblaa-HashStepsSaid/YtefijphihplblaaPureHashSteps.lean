/- HashSteps: one byte more is one step more of the sum, and that step is turned back by the inverse factor; for every string and every byte. -/
import Derived.Test.YtefijphihplblaaPHashStepsx1
namespace Go.Proofs.Ytefijphihplblaa.Pure
open Go.RowKit Go.Proofs.Ytefijphihplblaa.PHashSteps Go.Proofs.YtefijphihplblaaW.PrintWords Go.Proofs.YtefijphihplblaaW.PrintLast

theorem wrap_in {n : Int} (h0 : -9223372036854775808 ≤ n) (h1 : n ≤ 9223372036854775807) : wrap64 n = n := by unfold wrap64; omega

theorem u8_of {c : Int} (h : (Lit.int .u8 c).wf = true) : 0 ≤ c ∧ c ≤ 255 := by
  have a : IntKind.u8.min = 0 := by decide
  have b : IntKind.u8.max = 255 := by decide
  simpa [Lit.wf, a, b] using h

/-- one byte's step -/
def stepH (h c : Int) : Int := (Go.bits .xor .u32 h (c % 4294967296) * 16777619) % 4294967296
def sumL (h : Int) (l : List UInt8) : Int := l.foldl (fun h c => stepH h (c.toNat : Int)) h

theorem bt_list (s : ByteArray) (i : Nat) (h : i < s.size) : ∃ c, s.data.toList.drop i = c :: s.data.toList.drop (i + 1) ∧ bt s (i : Int) = (c.toNat : Int) := by
  have hl : i < s.data.toList.length := by simpa using h
  refine ⟨s.data.toList[i], List.drop_eq_getElem_cons hl, ?_⟩
  have h' : ((i : Int)).toNat < s.size := by simpa using h
  simp only [bt, dif_pos h']
  rfl

theorem of_loop (s : ByteArray) (hs : s.size ≤ 9223372036854775806) (d : Nat) : ∀ (k i : Nat) (h : Int), i + d = s.size → d < k →
    hash_Of.l0 k s h (s.size : Int) (i : Int) = some (sumL h (s.data.toList.drop i)) := by
  induction d with
  | zero =>
    intro k i h hi hk
    obtain ⟨k, rfl⟩ : ∃ m, k = m + 1 := ⟨k - 1, by omega⟩
    simp only [hash_Of.l0]
    rw [if_neg (by omega), List.drop_of_length_le (by simp; omega)]
    rfl
  | succ d ih =>
    intro k i h hi hk
    obtain ⟨k, rfl⟩ : ∃ m, k = m + 1 := ⟨k - 1, by omega⟩
    obtain ⟨c, hc, hb⟩ := bt_list s i (by omega)
    simp only [hash_Of.l0]
    rw [if_pos (by omega), if_pos (by omega), if_pos (by omega), wrap_in (by omega) (by omega), hb]
    have := ih k (i + 1) (stepH h (c.toNat : Int)) (by omega) (by omega)
    rw [show ((i : Int) + 1) = ((i + 1 : Nat) : Int) by omega]
    unfold stepH at this
    rw [this, hc]
    rfl

theorem of_is (s : ByteArray) (hs : s.size ≤ 9223372036854775806) (k : Nat) (hk : s.size < k) : hash_Of.f k s = some (sumL 2166136261 s.data.toList) := by
  have := of_loop s hs s.size k 0 2166136261 (by omega) hk
  simpa [hash_Of.f] using this

theorem shown_is (k : Nat) (hk : 1 < k) : derricklaw09_shown.f k = some true := by
  unfold derricklaw09_shown.f
  rw [of_is _ (by decide) k (by show 0 < k; omega)]
  simp only [Option.bind_some]
  rw [if_pos (by decide +kernel), of_is _ (by decide) k (by show 1 < k; omega)]
  simp only [Option.bind_some]
  decide +kernel

theorem bits_u32 (x y : Int) : 0 ≤ Go.bits .xor .u32 x y ∧ Go.bits .xor .u32 x y < 4294967296 := by
  unfold Go.bits
  rw [IntKind.wrap_u32]
  omega

theorem turned (x : Int) (h : 0 ≤ x ∧ x < 4294967296) : (x * 16777619) % 4294967296 * 899433627 % 4294967296 = x := by omega

theorem HashSteps : derricklaw09_HashSteps.Pure := by
  intro s c hs hc
  have hb := u8_of hc
  refine ⟨s.size + 3, ?_⟩
  unfold derricklaw09_HashSteps.f
  rw [shown_is _ (by omega)]
  simp only [Option.bind_some]
  by_cases h : (s.size : Int) > 2000
  · rw [if_pos h]
  · rw [if_neg h, of_is s (by omega) _ (by omega)]
    simp only [Option.bind_some]
    have hz : (strOfNums [c]).size = 1 := strOfNums_size _
    have hsz : (s ++ strOfNums [c]).size = s.size + 1 := by rw [ByteArray.size_append, hz]
    have e : (s ++ strOfNums [c]).data.toList = s.data.toList ++ [UInt8.ofNat c.toNat] := by
      rw [ByteArray.data_append, Array.toList_append, strOfNums_data]
      rfl
    have ec : ((UInt8.ofNat c.toNat).toNat : Int) = c := by
      rw [UInt8.toNat_ofNat']
      omega
    rw [if_pos (by rw [hz]; omega), of_is _ (by omega) _ (by omega), e]
    simp only [Option.bind_some]
    have ex : sumL 2166136261 (s.data.toList ++ [UInt8.ofNat c.toNat]) = stepH (sumL 2166136261 s.data.toList) c := by
      unfold sumL
      rw [List.foldl_append]
      show stepH _ _ = _
      rw [ec]
    rw [ex, if_pos trivial]
    unfold stepH
    rw [if_pos rfl, turned _ (bits_u32 _ _)]
    simp

end Go.Proofs.Ytefijphihplblaa.Pure
