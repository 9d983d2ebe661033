/- HashKeys: two questions with names of the same length have the same key just if they are the same, and a key is four bytes longer than the name; for every two questions with names of 300 bytes at most. -/
import Derived.Test.YtefijphihplblaaOwnHash
import Derived.Test.YtefijphihplblaaOwnKeysP
namespace Go.Proofs.Ytefijphihplblaa.OwnKeys
open Go.RowKit Go.Proofs.Ytefijphihplblaa.PHashTells Go.Proofs.Ytefijphihplblaa.OwnHashP Go.Proofs.Ytefijphihplblaa.OwnHash Go.Proofs.Ytefijphihplblaa.OwnKeysP Go.Proofs.YtefijphihplblaaW.PrintWords Go.Proofs.YtefijphihplblaaW.PrintLast Go.Proofs.YtefijphihplblaaW.PrintMore

theorem put2_inj (a b : Int) (ha : 0 ≤ a ∧ a ≤ 65535) (hb : 0 ≤ b ∧ b ≤ 65535) (h : (put2 a).data.toList = (put2 b).data.toList) : a = b := by
  unfold put2 at h
  rw [strOfNums_data, strOfNums_data] at h
  simp only [List.map_cons, List.map_nil, List.cons.injEq, and_true] at h
  have h1 := congrArg UInt8.toNat h.1
  have h2 := congrArg UInt8.toNat h.2
  rw [UInt8.toNat_ofNat', UInt8.toNat_ofNat'] at h1 h2
  omega
theorem keyB_list (x : S29) : (keyB x).data.toList = x.f0.data.toList ++ ((put2 x.f1).data.toList ++ (put2 x.f2).data.toList) := by
  unfold keyB
  rw [ByteArray.data_append, ByteArray.data_append, Array.toList_append, Array.toList_append, List.append_assoc]
theorem keyB_inj (x y : S29) (hx : GoodQ x) (hy : GoodQ y) (hs : x.f0.size = y.f0.size) (h : (keyB x).data.toList = (keyB y).data.toList) : x.f0 = y.f0 ∧ x.f1 = y.f1 ∧ x.f2 = y.f2 := by
  have hl := h
  rw [keyB_list, keyB_list] at hl
  have s1 : x.f0.data.toList.length = y.f0.data.toList.length := by simpa using hs
  obtain ⟨e1, e2⟩ := List.append_inj hl s1
  have s2 : (put2 x.f1).data.toList.length = (put2 y.f1).data.toList.length := by
    have a : (put2 x.f1).data.toList.length = (put2 x.f1).size := by simp
    have b : (put2 y.f1).data.toList.length = (put2 y.f1).size := by simp
    rw [a, b, put2_size, put2_size]
  obtain ⟨e3, e4⟩ := List.append_inj e2 s2
  refine ⟨?_, put2_inj _ _ hx.t0 hy.t0 e3, put2_inj _ _ hx.c0 hy.c0 e4⟩
  apply ByteArray.ext
  exact Array.ext' e1

theorem keys_pure (x y : S29) (ht : 0 ≤ x.f1 ∧ x.f1 ≤ 65535) (hc : 0 ≤ x.f2 ∧ x.f2 ≤ 65535) (ht2 : 0 ≤ y.f1 ∧ y.f1 ≤ 65535) (hc2 : 0 ≤ y.f2 ∧ y.f2 ≤ 65535) :
    ∀ k, 5 < k → derricklaw09_HashKeys.f k x.f0 x.f1 x.f2 y.f0 y.f1 y.f2 = some true := by
  intro k hk
  obtain ⟨k, rfl⟩ : ∃ j, k = j + 1 := ⟨k - 1, by omega⟩
  unfold derricklaw09_HashKeys.f
  rw [shown_is _ (by omega)]
  simp only [Option.bind_some]
  by_cases h1 : (x.f0.size : Int) > 300
  · rw [if_pos h1]
    simp only [derricklaw09_HashKeys.j0]
    rw [if_pos trivial]
  · rw [if_neg h1]
    by_cases h2 : (y.f0.size : Int) > 300
    · rw [decide_eq_true h2]
      simp only [derricklaw09_HashKeys.j0]
      rw [if_pos trivial]
    · rw [decide_eq_false h2]
      have hx : GoodQ x := ⟨by omega, ht, hc⟩
      have hy : GoodQ y := ⟨by omega, ht2, hc2⟩
      simp only [derricklaw09_HashKeys.j0]
      rw [if_neg (by decide), key_is x hx k (by omega), key_is y hy k (by omega)]
      rw [Option.bind_some, Option.bind_some, if_pos trivial, Option.bind_some, keyB_size, wrap_in (by omega) (by omega), if_pos (by omega)]
      rw [ByteArray.toList_eq, ByteArray.toList_eq, ByteArray.toList_eq, ByteArray.toList_eq]
      by_cases hs : x.f0.size = y.f0.size
      · rw [if_pos (by omega)]
        congr 1
        rw [beq_iff_eq, Bool.eq_iff_iff]
        simp only [Bool.and_eq_true, beq_iff_eq]
        constructor
        · intro h
          obtain ⟨e1, e2, e3⟩ := keyB_inj x y hx hy hs h
          exact ⟨by rw [e1], e2, e3⟩
        · rintro ⟨e1, e2, e3⟩
          rw [keyB_list, keyB_list, e1, e2, e3]
      · rw [if_neg (by omega), if_neg]
        intro h
        have := congrArg List.length h
        rw [show (keyB x).data.toList.length = (keyB x).size by simp, show (keyB y).data.toList.length = (keyB y).size by simp, keyB_size, keyB_size] at this
        omega

theorem walk (n n2 : ByteArray) (t c t2 c2 : Int) (w : World) (ht : 0 ≤ t ∧ t ≤ 65535) (hc : 0 ≤ c ∧ c ≤ 65535) (ht2 : 0 ≤ t2 ∧ t2 ≤ 65535) (hc2 : 0 ≤ c2 ∧ c2 ≤ 65535) :
    Calls Try.prog 4 #[.agg #[.string n, .int .u16 t, .int .u16 c], .agg #[.string n2, .int .u16 t2, .int .u16 c2]] w fun e w' => e = .returned (.bool true) ∧ Below w.heap.size w w' :=
  derricklaw09_HashKeys.calls 9 n t c n2 t2 c2 true w (keys_pure ⟨n, t, c⟩ ⟨n2, t2, c2⟩ ht hc ht2 hc2 9 (by decide))
end Go.Proofs.Ytefijphihplblaa.OwnKeys
