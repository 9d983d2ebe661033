-- PRINTED BY print.sh 35421559b90ae4d0a3588c463048766b98c2df88dd9212a6774a882060cdf62d: not written by this session
import Derived.Test.YtfcblhdonmfnpaaPOctetTellsx0
namespace Go.Proofs.Ytfcblhdonmfnpaa.POctetTells
open Go.RowKit Go.Proofs.YtfcblhdonmfnpaaW.PrintWords Go.Proofs.YtfcblhdonmfnpaaW.PrintLast Go.Proofs.YtfcblhdonmfnpaaW.PrintMore
attribute [local go_sem] max2_int min2_int max_two min_two max_three min_three max_four min_four   -- for this text's walks alone
set_option linter.unusedVariables false
set_option linter.unusedSimpArgs false

/-! ### octet_Some: function 9 -/
def octet_Some.f (a0 : ByteArray) (a1 : Int) (a2 : Int) : Option (ByteArray × Int × Int) := if a1 < 0 then (some ((⟨#[]⟩ : ByteArray), 0, 2)) else (if a2 < 0 then (some ((⟨#[]⟩ : ByteArray), 0, 2)) else (if a1 > (a0.size : Int) then (some ((⟨#[]⟩ : ByteArray), 0, 2)) else (if a2 > (wrap64 ((a0.size : Int) - a1)) then (some ((⟨#[]⟩ : ByteArray), 0, 2)) else (if 0 ≤ a1 then (if a1 ≤ (wrap64 (a1 + a2)) then (if (wrap64 (a1 + a2)) ≤ (a0.size : Int) then (some (a0.extract (a1 : Int).toNat ((wrap64 (a1 + a2)) : Int).toNat, wrap64 (a1 + a2), 0)) else (none)) else (none)) else (none)))))
set_option maxHeartbeats 8000000 in
set_option maxRecDepth 100000 in
theorem octet_Some.calls (a0 : ByteArray) (a1 : Int) (a2 : Int) (r1 : ByteArray) (r2 : Int) (r3 : Int) (w : World) (h : octet_Some.f a0 a1 a2 = some (r1, r2, r3)) :
    Calls Try.prog 9 #[.string a0, .int .i64 a1, .int .i64 a2] w fun e w' => e = .returned (.tuple #[.string r1, .int .i64 r2, .int .i64 r3]) ∧ Drawn0 w w' := by
  have H : (if a1 < 0 then (some ((⟨#[]⟩ : ByteArray), 0, 2)) else (if a2 < 0 then (some ((⟨#[]⟩ : ByteArray), 0, 2)) else (if a1 > (a0.size : Int) then (some ((⟨#[]⟩ : ByteArray), 0, 2)) else (if a2 > (wrap64 ((a0.size : Int) - a1)) then (some ((⟨#[]⟩ : ByteArray), 0, 2)) else (if 0 ≤ a1 then (if a1 ≤ (wrap64 (a1 + a2)) then (if (wrap64 (a1 + a2)) ≤ (a0.size : Int) then (some (a0.extract (a1 : Int).toNat ((wrap64 (a1 + a2)) : Int).toNat, wrap64 (a1 + a2), 0)) else (none)) else (none)) else (none)))))) = some (r1, r2, r3) := h
  clear h
  by_cases c4 : a1 < 0
  · rw [if_pos c4] at H
    have c4b0 : decide (a1 < 0) = true := decide_eq_true c4
    clear c4
    simp only [Option.some.injEq, Prod.mk.injEq] at H
    obtain ⟨rfl, rfl, rfl⟩ := H
    go_enter Try.func9, Try.ntmps9
    go_wp2
    go_ret3
    exact ⟨by first | rfl | (simp; done) | (simp [*]; done), by repeat (first | exact Drawn0.refl _ | apply Drawn0.step)⟩
  · rw [if_neg c4] at H
    have c4b0 : decide (a1 < 0) = false := decide_eq_false c4
    clear c4
    by_cases c5 : a2 < 0
    · rw [if_pos c5] at H
      have c5b0 : decide (a2 < 0) = true := decide_eq_true c5
      clear c5
      simp only [Option.some.injEq, Prod.mk.injEq] at H
      obtain ⟨rfl, rfl, rfl⟩ := H
      go_enter Try.func9, Try.ntmps9
      go_wp2
      go_ret3
      exact ⟨by first | rfl | (simp; done) | (simp [*]; done), by repeat (first | exact Drawn0.refl _ | apply Drawn0.step)⟩
    · rw [if_neg c5] at H
      have c5b0 : decide (a2 < 0) = false := decide_eq_false c5
      clear c5
      by_cases c6 : a1 > (a0.size : Int)
      · rw [if_pos c6] at H
        have c6b0 : decide ((a0.size : Int) < a1) = true := decide_eq_true c6
        clear c6
        simp only [Option.some.injEq, Prod.mk.injEq] at H
        obtain ⟨rfl, rfl, rfl⟩ := H
        go_enter Try.func9, Try.ntmps9
        go_wp2
        go_ret3
        exact ⟨by first | rfl | (simp; done) | (simp [*]; done), by repeat (first | exact Drawn0.refl _ | apply Drawn0.step)⟩
      · rw [if_neg c6] at H
        have c6b0 : decide ((a0.size : Int) < a1) = false := decide_eq_false c6
        clear c6
        by_cases c7 : a2 > (wrap64 ((a0.size : Int) - a1))
        · rw [if_pos c7] at H
          have c7b0 : decide ((wrap64 ((a0.size : Int) - a1)) < a2) = true := decide_eq_true c7
          clear c7
          simp only [Option.some.injEq, Prod.mk.injEq] at H
          obtain ⟨rfl, rfl, rfl⟩ := H
          go_enter Try.func9, Try.ntmps9
          go_wp2
          go_ret3
          exact ⟨by first | rfl | (simp; done) | (simp [*]; done), by repeat (first | exact Drawn0.refl _ | apply Drawn0.step)⟩
        · rw [if_neg c7] at H
          have c7b0 : decide ((wrap64 ((a0.size : Int) - a1)) < a2) = false := decide_eq_false c7
          clear c7
          by_cases c8 : 0 ≤ a1
          · rw [if_pos c8] at H
            have c8b0 := eq_true c8
            have c8b1 : decide (0 ≤ a1) = true := decide_eq_true c8
            clear c8
            by_cases c9 : a1 ≤ (wrap64 (a1 + a2))
            · rw [if_pos c9] at H
              have c9b0 := eq_true c9
              have c9b1 : decide (a1 ≤ (wrap64 (a1 + a2))) = true := decide_eq_true c9
              by_cases c10 : (wrap64 (a1 + a2)) ≤ (a0.size : Int)
              · rw [if_pos c10] at H
                have c10b0 := eq_true c10
                have c10b1 : decide ((wrap64 (a1 + a2)) ≤ (a0.size : Int)) = true := decide_eq_true c10
                simp only [Option.some.injEq, Prod.mk.injEq] at H
                obtain ⟨rfl, rfl, rfl⟩ := H
                go_enter Try.func9, Try.ntmps9
                go_wp2
                go_ret3
                exact ⟨by first | rfl | (simp; done) | (simp [*]; done), by repeat (first | exact Drawn0.refl _ | apply Drawn0.step)⟩
              · rw [if_neg c10] at H
                exact absurd H (by simp)
            · rw [if_neg c9] at H
              exact absurd H (by simp)
          · rw [if_neg c8] at H
            exact absurd H (by simp)

/-! ### octet_number_uint16: function 22 -/
def octet_number_uint16.l0 : Nat → ByteArray → Int → Int → Int → Int → Int → Option (Int × Int × Int)
  | 0, _, _, _, _, _, _ => none
  | k + 1, x9, x10, x11, x12, x23, x24 => if x24 < x23 then (if 0 ≤ x24 then (if x24 < (x9.size : Int) then (octet_number_uint16.l0 k x9 x10 x11 (Go.bits .or .u32 ((x12 * 256) % 4294967296) ((bt x9 x24) % 4294967296)) x23 (wrap64 (x24 + 1))) else (none)) else (none)) else (some (IntKind.u16.wrap (x12), x10, x11))
def octet_number_uint16.f (k : Nat) (a0 : ByteArray) (a1 : Int) (a2 : Int) : Option (Int × Int × Int) := (octet_Some.f a0 a1 a2).bind fun bt101 => (octet_number_uint16.l0 k bt101.1 bt101.2.1 bt101.2.2 0 (bt101.1.size : Int) 0)
theorem octet_number_uint16.mono_l : ∀ k, (∀ y0 y1 y2 y3 y4 y5, LeO (octet_number_uint16.l0 k y0 y1 y2 y3 y4 y5) (octet_number_uint16.l0 (k + 1) y0 y1 y2 y3 y4 y5))
  | 0 => fun _ _ _ _ _ _ r h => by simp [octet_number_uint16.l0] at h
  | k + 1 => by
    have ih0 := octet_number_uint16.mono_l k
    · intro y0 y1 y2 y3 y4 y5
      unfold octet_number_uint16.l0
      repeat' first
      | (with_reducible exact ih0 _ _ _ _ _ _)
      | (with_reducible exact LeO.refl _)
      | (with_reducible exact LeO.none _)
      | (with_reducible refine LeO.ite ?_ ?_)
      | (with_reducible refine LeO.bind ?_ (fun _ => ?_))
      | exact ih0 _ _ _ _ _ _
      | exact LeO.none _
      | refine LeO.ite ?_ ?_
      | refine LeO.bind ?_ (fun _ => ?_)
theorem octet_number_uint16.mono : ∀ a0 a1 a2 k, LeO (octet_number_uint16.f k a0 a1 a2) (octet_number_uint16.f (k + 1) a0 a1 a2) := by
  intro a0 a1 a2 k
  have ih0 := octet_number_uint16.mono_l k
  unfold octet_number_uint16.f
  repeat' first
      | (with_reducible exact ih0 _ _ _ _ _ _)
      | (with_reducible exact LeO.refl _)
      | (with_reducible exact LeO.none _)
      | (with_reducible refine LeO.ite ?_ ?_)
      | (with_reducible refine LeO.bind ?_ (fun _ => ?_))
      | exact ih0 _ _ _ _ _ _
      | exact LeO.none _
      | refine LeO.ite ?_ ?_
      | refine LeO.bind ?_ (fun _ => ?_)
set_option maxHeartbeats 8000000 in
set_option maxRecDepth 100000 in
theorem octet_number_uint16.calls (k : Nat) (a0 : ByteArray) (a1 : Int) (a2 : Int) (r1 : Int) (r2 : Int) (r3 : Int) (w : World) (h : octet_number_uint16.f k a0 a1 a2 = some (r1, r2, r3)) :
    Calls Try.prog 22 #[.string a0, .int .i64 a1, .int .i64 a2] w fun e w' => e = .returned (.tuple #[.int .u16 r1, .int .i64 r2, .int .i64 r3]) ∧ Drawn0 w w' := by
  have H : ((octet_Some.f a0 a1 a2).bind fun bt101 => (octet_number_uint16.l0 k bt101.1 bt101.2.1 bt101.2.2 0 (bt101.1.size : Int) 0)) = some (r1, r2, r3) := h
  clear h
  replace H := Option.bind_eq_some_iff.mp H
  obtain ⟨⟨t101, t102, t103⟩, A40, H⟩ := H
  replace H : (octet_number_uint16.l0 k t101 t102 t103 0 (t101.size : Int) 0) = some (r1, r2, r3) := H
  have A4 := Aside0.mk A40
  clear A40
  have H' := Aside0.mk H
  clear H
  go_enter Try.func22, Try.ntmps22
  go_wp2_with (first | ((with_reducible refine gate_callee (f := 9) rfl ?_); refine goesL_ (some 18) rfl rfl Try.func9 (by kernel_rfl) rfl #[.string a0, .int .i64 a1, .int .i64 a2] rfl (by (try simp only [List.map_toArray, List.map_cons, List.map_nil]); first | done | rfl | (simp only [List.length_drop, List.length_take]; rfl)) ?_; (with_reducible refine (octet_Some.calls a0 a1 a2 t101 t102 t103 _ A4.out).mono ?_); rintro e w' ⟨rfl, ⟨nd, rfl⟩⟩; refine ⟨_, rfl, ?_⟩))
  go_loopg [12, 24] k (fun kq v12 v24 w' => ∃ (x12_1 : Int) (x24_1 : Int), v12 = .int .u32 x12_1 ∧ v24 = .int .i64 x24_1 ∧ Aside0 (octet_number_uint16.l0 kq t101 t102 t103 x12_1 (t101.size : Int) x24_1 = some (r1, r2, r3)) ∧ Aside0 (kq ≤ k) ∧ Drawn0 w w')
  case atStart => exact ⟨(0), (0), (by first | rfl | (simp; done) | (simp [*]; done)), (by first | rfl | (simp; done) | (simp [*]; done)), H', ⟨Nat.le_refl _⟩, by repeat (first | exact Drawn0.refl _ | apply Drawn0.step)⟩
  case round =>
    clear H'
    try clear c2
    try clear p2
    obtain ⟨x12_1, x24_1, rfl, rfl, HA, HK1, ⟨m1, rfl⟩⟩ := hrel
    cases gk with
    | zero => exact absurd HA.out (by simp [octet_number_uint16.l0])
    | succ k1 =>
      have H := HA.out
      clear HA
      simp only [octet_number_uint16.l0] at H
      by_cases c5 : x24_1 < (t101.size : Int)
      · rw [if_pos c5] at H
        have c5b0 : decide (x24_1 < (t101.size : Int)) = true := decide_eq_true c5
        clear c5
        by_cases c6 : 0 ≤ x24_1
        · rw [if_pos c6] at H
          have c6b0 : decide (0 ≤ x24_1) = true := decide_eq_true c6
          clear c6
          by_cases c7 : x24_1 < (t101.size : Int)
          · rw [if_pos c7] at H
            have c7b0 : decide (x24_1 < (t101.size : Int)) = true := decide_eq_true c7
            clear c7
            have H' := Aside0.mk H
            clear H
            have p8 : 0 ≤ (x24_1 : Int) := of_decide_eq_true (by first | (with_reducible assumption) | assumption)
            have q8 : x24_1 < (t101.size : Int) := of_decide_eq_true (by first | (with_reducible assumption) | assumption)
            have hx8 := bt_at t101 x24_1
            replace p8 := eq_true p8
            replace q8 := eq_true q8
            go_wp2
            go_roundg k1
            case measure => have := HK1.out; omega
            case rel => exact ⟨(Go.bits .or .u32 ((x12_1 * 256) % 4294967296) ((bt t101 x24_1) % 4294967296)), (wrap64 (x24_1 + 1)), (by first | rfl | (simp; done) | (simp [*]; done)), (by first | rfl | (simp; done) | (simp [*]; done)), H', ⟨by have := HK1.out; omega⟩, by repeat (first | exact Drawn0.refl _ | apply Drawn0.step)⟩
          · rw [if_neg c7] at H
            exact absurd H (by simp)
        · rw [if_neg c6] at H
          exact absurd H (by simp)
      · rw [if_neg c5] at H
        have c5b0 : decide (x24_1 < (t101.size : Int)) = false := decide_eq_false c5
        clear c5
        simp only [Option.some.injEq, Prod.mk.injEq] at H
        obtain ⟨rfl, rfl, rfl⟩ := H
        go_wp2
        go_ret3
        exact ⟨by first | rfl | (simp; done) | (simp [*]; done), by repeat (first | exact Drawn0.refl _ | apply Drawn0.step)⟩

/-! ### octet_U16: function 11 -/
def octet_U16.f (k : Nat) (a0 : ByteArray) (a1 : Int) : Option (Int × Int × Int) := (octet_number_uint16.f k a0 a1 2).bind fun bt104 => (some (bt104.1, bt104.2.1, bt104.2.2))
theorem octet_U16.mono : ∀ a0 a1 k, LeO (octet_U16.f k a0 a1) (octet_U16.f (k + 1) a0 a1) := by
  intro a0 a1 k
  unfold octet_U16.f
  repeat' first
      | (with_reducible exact octet_number_uint16.mono _ _ _ _)
      | (with_reducible exact LeO.refl _)
      | (with_reducible exact LeO.none _)
      | (with_reducible refine LeO.ite ?_ ?_)
      | (with_reducible refine LeO.bind ?_ (fun _ => ?_))
      | exact octet_number_uint16.mono _ _ _ _
      | exact LeO.none _
      | refine LeO.ite ?_ ?_
      | refine LeO.bind ?_ (fun _ => ?_)
set_option maxHeartbeats 8000000 in
set_option maxRecDepth 100000 in
theorem octet_U16.calls (k : Nat) (a0 : ByteArray) (a1 : Int) (r1 : Int) (r2 : Int) (r3 : Int) (w : World) (h : octet_U16.f k a0 a1 = some (r1, r2, r3)) :
    Calls Try.prog 11 #[.string a0, .int .i64 a1] w fun e w' => e = .returned (.tuple #[.int .u16 r1, .int .i64 r2, .int .i64 r3]) ∧ Drawn0 w w' := by
  have H : ((octet_number_uint16.f k a0 a1 2).bind fun bt104 => (some (bt104.1, bt104.2.1, bt104.2.2))) = some (r1, r2, r3) := h
  clear h
  replace H := Option.bind_eq_some_iff.mp H
  obtain ⟨⟨t104, t105, t106⟩, A30, H⟩ := H
  replace H : (some (t104, t105, t106)) = some (r1, r2, r3) := H
  have A3 := Aside0.mk A30
  clear A30
  simp only [Option.some.injEq, Prod.mk.injEq] at H
  obtain ⟨rfl, rfl, rfl⟩ := H
  go_enter Try.func11, Try.ntmps11
  go_wp2_with (first | ((with_reducible refine gate_callee (f := 22) rfl ?_); refine goesL_ (some 9) rfl rfl Try.func22 (by kernel_rfl) rfl #[.string a0, .int .i64 a1, .int .i64 2] rfl (by (try simp only [List.map_toArray, List.map_cons, List.map_nil]); first | done | rfl | (simp only [List.length_drop, List.length_take]; rfl)) ?_; (with_reducible refine (octet_number_uint16.calls k a0 a1 2 t104 t105 t106 _ A3.out).mono ?_); rintro e w' ⟨rfl, ⟨nd, rfl⟩⟩; refine ⟨_, rfl, ?_⟩))
  go_ret3
  exact ⟨by first | rfl | (simp; done) | (simp [*]; done), by repeat (first | exact Drawn0.refl _ | apply Drawn0.step)⟩

/-! ### octet_bytes: function 25 -/
def octet_bytes.l0 : Nat → Int → Int → List Int → Int → Int → Option (ByteArray)
  | 0, _, _, _, _, _ => none
  | k + 1, x0, x1, x5, x9, x10 => if x10 < x9 then (if 0 ≤ (wrap64 (8 * x10)) then (if 0 ≤ (wrap64 ((wrap64 (x1 - 1)) - x10)) then (if (wrap64 ((wrap64 (x1 - 1)) - x10)) < (x5.length : Int) then (octet_bytes.l0 k x0 x1 (x5.set ((wrap64 ((wrap64 (x1 - 1)) - x10)) : Int).toNat ((shr .u32 x0 (wrap64 (8 * x10))) % 256)) x9 (wrap64 (x10 + 1))) else (none)) else (none)) else (none)) else (some (strOfNums x5))
def octet_bytes.f (k : Nat) (a0 : Int) (a1 : Int) : Option (ByteArray) := if 0 ≤ a1 then (if (a1 : Int).toNat ≤ 281474976710656 then (octet_bytes.l0 k a0 a1 (List.replicate (a1 : Int).toNat 0) a1 0) else (none)) else (none)
theorem octet_bytes.mono_l : ∀ k, (∀ y0 y1 y2 y3 y4, LeO (octet_bytes.l0 k y0 y1 y2 y3 y4) (octet_bytes.l0 (k + 1) y0 y1 y2 y3 y4))
  | 0 => fun _ _ _ _ _ r h => by simp [octet_bytes.l0] at h
  | k + 1 => by
    have ih0 := octet_bytes.mono_l k
    · intro y0 y1 y2 y3 y4
      unfold octet_bytes.l0
      repeat' first
      | (with_reducible exact ih0 _ _ _ _ _)
      | (with_reducible exact LeO.refl _)
      | (with_reducible exact LeO.none _)
      | (with_reducible refine LeO.ite ?_ ?_)
      | (with_reducible refine LeO.bind ?_ (fun _ => ?_))
      | exact ih0 _ _ _ _ _
      | exact LeO.none _
      | refine LeO.ite ?_ ?_
      | refine LeO.bind ?_ (fun _ => ?_)
theorem octet_bytes.mono : ∀ a0 a1 k, LeO (octet_bytes.f k a0 a1) (octet_bytes.f (k + 1) a0 a1) := by
  intro a0 a1 k
  have ih0 := octet_bytes.mono_l k
  unfold octet_bytes.f
  repeat' first
      | (with_reducible exact ih0 _ _ _ _ _)
      | (with_reducible exact LeO.refl _)
      | (with_reducible exact LeO.none _)
      | (with_reducible refine LeO.ite ?_ ?_)
      | (with_reducible refine LeO.bind ?_ (fun _ => ?_))
      | exact ih0 _ _ _ _ _
      | exact LeO.none _
      | refine LeO.ite ?_ ?_
      | refine LeO.bind ?_ (fun _ => ?_)
set_option maxHeartbeats 8000000 in
set_option maxRecDepth 100000 in
theorem octet_bytes.calls (k : Nat) (a0 : Int) (a1 : Int) (r : ByteArray) (w : World) (h : octet_bytes.f k a0 a1 = some r) :
    Calls Try.prog 25 #[.int .u32 a0, .int .i64 a1] w fun e w' => e = .returned (.string r) ∧ Below w.heap.size w w' := by
  have HB := Aside0.mk (Below.refl w.heap.size w)
  have H : (if 0 ≤ a1 then (if (a1 : Int).toNat ≤ 281474976710656 then (octet_bytes.l0 k a0 a1 (List.replicate (a1 : Int).toNat 0) a1 0) else (none)) else (none)) = some r := h
  clear h
  by_cases c3 : 0 ≤ a1
  · rw [if_pos c3] at H
    have c3b0 := eq_true c3
    have c3b1 : decide (0 ≤ a1) = true := decide_eq_true c3
    clear c3
    by_cases c4 : (a1 : Int).toNat ≤ 281474976710656
    · rw [if_pos c4] at H
      have c4b0 := eq_true c4
      have c4b1 : decide ((a1 : Int).toNat ≤ 281474976710656) = true := decide_eq_true c4
      clear c4
      obtain ⟨y107, hy107⟩ : ∃ y_ : List Int, y_ = (List.replicate (a1 : Int).toNat 0) := ⟨_, rfl⟩
      replace H : (octet_bytes.l0 k a0 a1 y107 a1 0) = some r := by first | (rw [hy107]; with_reducible exact H) | (have H2_ := (Option.bind_some _ _).symm.trans H; rw [hy107]; with_reducible exact H2_) | (have H2_ := (Option.bind_some _ _).symm.trans H; with_reducible exact H2_) | with_reducible exact H | (rw [hy107]; exact H) | exact H
      have Ny107 := Aside0.mk hy107
      clear hy107
      have H' := Aside0.mk H
      clear H
      go_enter Try.func25, Try.ntmps25
      go_wp2_with (first | ((with_reducible refine gate_dst (N := 8) rfl ?_); refine Kd.R_make (Kd.int .u8) _ 5 rfl (N := 8) rfl 36 _ _ rfl a1 rfl rfl Try.underlying36 (.int .u8 0) 1 info5 rfl (by decide) (by omega) 0 (ok := fun _ => True) (okp := fun _ => True) rfl (fun _ hk => hk) trivial (of_decide_eq_true (by first | (with_reducible assumption) | assumption)) (Nat.le_trans (Nat.mul_le_mul_right _ (of_decide_eq_true (by first | (with_reducible assumption) | assumption) : a1.toNat ≤ 281474976710656)) (by omega)) (Below.refl _ _) (Nat.le_refl _) ?_; intro v108 w5 ho6 hb hg_ hnew_; clear hg_ hnew_; (first | rw [← Ny107.out] at ho6 | (simp only [Int.reduceToNat] at ho6; rw [← Ny107.out] at ho6)); have n0_ := Aside0.mk (Kd.R_lower ho6 (below_size (by repeat (first | (with_reducible first | exact HB.out | apply below_alloc | apply pw_below_drewN | apply below_drew1) | exact HB.out)))); have n1_ := Aside0.mk (below_step (by repeat (first | (with_reducible first | exact HB.out | apply below_alloc | apply pw_below_drewN | apply below_drew1) | exact HB.out)) hb); clear HB; have HO109 := n0_; have HB := n1_; clear n0_ n1_; clear hb ho6))
      go_loopg [10] k (fun kq v10 w' => ∃ (x5_1 : List Int) (x10_1 : Int), v10 = .int .i64 x10_1 ∧ Aside0 (octet_bytes.l0 kq a0 a1 x5_1 a1 x10_1 = some r) ∧ Aside0 (kq ≤ k) ∧ Aside0 (Kd.R (Kd.int .u8) 5 w' w.heap.size (fun _ => True) v108 x5_1) ∧ Aside0 (Below w.heap.size w w'))
      case atStart => exact ⟨(y107), (0), (by first | rfl | (simp; done) | (simp [*]; done)), H', ⟨Nat.le_refl _⟩, ⟨by (with_reducible repeat (first | apply Kd.R_alloc | apply Kd.R_drewN | apply Kd.R_drew)); exact HO109.out⟩, ⟨by repeat (first | (with_reducible first | exact HB.out | apply below_alloc | apply pw_below_drewN | apply below_drew1) | exact HB.out)⟩⟩
      case round =>
        clear H'
        try clear c2
        try clear p2
        try clear c3
        try clear c3b0
        try clear c3b1
        try clear c4
        try clear c4b0
        try clear c4b1
        obtain ⟨x5_1, x10_1, rfl, HA, HK1, HO_5, HB⟩ := hrel
        cases gk with
        | zero => exact absurd HA.out (by simp [octet_bytes.l0])
        | succ k1 =>
          have H := HA.out
          clear HA
          simp only [octet_bytes.l0] at H
          by_cases c7 : x10_1 < a1
          · rw [if_pos c7] at H
            have c7b0 : decide (x10_1 < a1) = true := decide_eq_true c7
            clear c7
            obtain ⟨ji8, hji8⟩ : ∃ j_ : Int, (wrap64 (8 * x10_1)) = j_ := ⟨_, rfl⟩
            replace H : (if 0 ≤ (ji8) then (if 0 ≤ (wrap64 ((wrap64 (a1 - 1)) - x10_1)) then (if (wrap64 ((wrap64 (a1 - 1)) - x10_1)) < (x5_1.length : Int) then (octet_bytes.l0 k1 a0 a1 (x5_1.set ((wrap64 ((wrap64 (a1 - 1)) - x10_1)) : Int).toNat ((shr .u32 a0 (ji8)) % 256)) a1 (wrap64 (x10_1 + 1))) else (none)) else (none)) else (none)) = some r := by first | (rw [hji8] at H; exact H) | (simp only [hji8] at H ⊢; exact H)
            have hji8w : (IntKind.i64.wrap (8 * x10_1)) = ji8 := (i64_w _).trans hji8
            by_cases c9 : 0 ≤ (ji8)
            · rw [if_pos c9] at H
              have c9b0 := eq_true c9
              have c9b1 : decide (0 ≤ (ji8)) = true := decide_eq_true c9
              clear c9
              obtain ⟨ji10, hji10⟩ : ∃ j_ : Int, (shr .u32 a0 (ji8)) = j_ := ⟨_, rfl⟩
              replace H : (if 0 ≤ (wrap64 ((wrap64 (a1 - 1)) - x10_1)) then (if (wrap64 ((wrap64 (a1 - 1)) - x10_1)) < (x5_1.length : Int) then (octet_bytes.l0 k1 a0 a1 (x5_1.set ((wrap64 ((wrap64 (a1 - 1)) - x10_1)) : Int).toNat ((ji10) % 256)) a1 (wrap64 (x10_1 + 1))) else (none)) else (none)) = some r := by first | (rw [hji10] at H; exact H) | (simp only [hji10] at H ⊢; exact H)
              have hji10_ : (a0 / 2 ^ min (ji8).toNat 32) = ji10 := hji10
              have hji10z : (ji8) ≤ 32 → (a0 / 2 ^ (ji8).toNat) = ji10 := shr_small hji10
              obtain ⟨ji11, hji11⟩ : ∃ j_ : Int, (wrap64 ((wrap64 (a1 - 1)) - x10_1)) = j_ := ⟨_, rfl⟩
              replace H : (if 0 ≤ (ji11) then (if (ji11) < (x5_1.length : Int) then (octet_bytes.l0 k1 a0 a1 (x5_1.set ((ji11) : Int).toNat ((ji10) % 256)) a1 (wrap64 (x10_1 + 1))) else (none)) else (none)) = some r := by first | (rw [hji11] at H; exact H) | (simp only [hji11] at H ⊢; exact H)
              have hji11w : (IntKind.i64.wrap ((wrap64 (a1 - 1)) - x10_1)) = ji11 := (i64_w _).trans hji11
              by_cases c12 : 0 ≤ (ji11)
              · rw [if_pos c12] at H
                have c12b0 : decide (0 ≤ (ji11)) = true := decide_eq_true c12
                clear c12
                by_cases c13 : (ji11) < (x5_1.length : Int)
                · rw [if_pos c13] at H
                  have c13b0 : decide ((ji11) < (x5_1.length : Int)) = true := decide_eq_true c13
                  clear c13
                  obtain ⟨y110, hy110⟩ : ∃ y_ : List Int, y_ = (x5_1.set ((ji11) : Int).toNat ((ji10) % 256)) := ⟨_, rfl⟩
                  replace H : (octet_bytes.l0 k1 a0 a1 y110 a1 (wrap64 (x10_1 + 1))) = some r := by first | (rw [hy110]; with_reducible exact H) | (have H2_ := (Option.bind_some _ _).symm.trans H; rw [hy110]; with_reducible exact H2_) | (have H2_ := (Option.bind_some _ _).symm.trans H; with_reducible exact H2_) | with_reducible exact H | (rw [hy110]; exact H) | exact H
                  have Ny110 := Aside0.mk hy110
                  clear hy110
                  have H' := Aside0.mk H
                  clear H
                  have p14 : 0 ≤ ((ji11) : Int) := of_decide_eq_true (by first | (with_reducible assumption) | assumption)
                  have q14 : ((ji11) : Int) < ((x5_1.length : Int) : Int) := of_decide_eq_true (by first | (with_reducible assumption) | assumption)
                  obtain ⟨go14, co14, eo14, gb14, gl14, cl14, HG14⟩ := Kd.R_form HO_5.out (by omega)
                  (first | cases eo14 | (injection eo14 with ea_ en_ ec_; (first | subst ea_ | (injection ea_ with ea_; subst ea_)); subst ec_; clear en_))
                  have GB14 := Aside0.mk gb14
                  have GG14 := Aside0.mk HG14
                  clear gb14 gl14 HG14
                  obtain ⟨hx14_0, hf14_0⟩ := Kd.R_celln 0 HO_5.out ((ji11) : Int) p14 q14
                  replace p14 := eq_true p14
                  replace q14 := eq_true q14
                  have HP15 := Kd.R_putg HO_5.out ((ji11) : Int) ((ji10) % 256)
                  go_wp2_with (first | ((with_reducible refine gate_store (t := 5) (p := 23) rfl ?_); refine store_event (t := 5) (p := 23) (v := ?vo_w16) (w1 := (wr.setCell ⟨go14, ((ji11) : Int).toNat, none⟩ (.int .u8 ((ji10) % 256)))) ?hg ?ho ?hn ?hr ?_; (case ho => rfl); (case hg => rfl); (case hn => rfl); (case hr => first | (go_simp; done) | (go_simp; rfl)); intro w16 hw; have hg : wr.grownBy w16 (some go14) := (by rw [hw]; exact HP15.2); have hp_ : Kd.R (Kd.int .u8) 5 w16 w.heap.size (fun _ => True) (.slice (some ⟨go14, 0, none⟩) x5_1.length co14) y110 := (by rw [hw, Ny110.out]; exact HP15.1); clear HP15; have n0_ := Aside0.mk (hp_); have n1_ := Aside0.mk ((by rw [hw]; exact below_set (HB.out) GB14.out : Below w.heap.size w w16)); clear HO_5; clear HB; have HO_5 := n0_; have HB := n1_; clear n0_ n1_; clear hg hw hp_))
                  go_roundg k1
                  case measure => have := HK1.out; omega
                  case rel => exact ⟨(y110), (wrap64 (x10_1 + 1)), (by first | rfl | (simp; done) | (simp [*]; done)), H', ⟨by have := HK1.out; omega⟩, ⟨by (with_reducible repeat (first | apply Kd.R_alloc | apply Kd.R_drewN | apply Kd.R_drew)); exact HO_5.out⟩, ⟨by repeat (first | (with_reducible first | exact HB.out | apply below_alloc | apply pw_below_drewN | apply below_drew1) | exact HB.out)⟩⟩
                · rw [if_neg c13] at H
                  exact absurd H (by simp)
              · rw [if_neg c12] at H
                exact absurd H (by simp)
            · rw [if_neg c9] at H
              exact absurd H (by simp)
          · rw [if_neg c7] at H
            have c7b0 : decide (x10_1 < a1) = false := decide_eq_false c7
            clear c7
            obtain rfl := Option.some.inj H
            have hcv17 := own_string (P := Try.prog) Try.underlying36 Try.underlying5 Try.underlying9 (Kd.own_of_R HO_5.out)
            go_wp2
            go_ret
            exact ⟨by first | rfl | (simp [errW_none, errW_some] <;> rfl) | (simp [*, errW_none, errW_some] <;> rfl), by repeat (first | (with_reducible first | exact HB.out | apply below_alloc | apply pw_below_drewN | apply below_drew1) | exact HB.out)⟩
    · rw [if_neg c4] at H
      exact absurd H (by simp)
  · rw [if_neg c3] at H
    exact absurd H (by simp)

/-! ### octet_Put16: function 17 -/
def octet_Put16.f (k : Nat) (a0 : Int) : Option (ByteArray) := (octet_bytes.f k ((a0) % 4294967296) 2).bind fun t111 => (some t111)
theorem octet_Put16.mono : ∀ a0 k, LeO (octet_Put16.f k a0) (octet_Put16.f (k + 1) a0) := by
  intro a0 k
  unfold octet_Put16.f
  repeat' first
      | (with_reducible exact octet_bytes.mono _ _ _)
      | (with_reducible exact LeO.refl _)
      | (with_reducible exact LeO.none _)
      | (with_reducible refine LeO.ite ?_ ?_)
      | (with_reducible refine LeO.bind ?_ (fun _ => ?_))
      | exact octet_bytes.mono _ _ _
      | exact LeO.none _
      | refine LeO.ite ?_ ?_
      | refine LeO.bind ?_ (fun _ => ?_)
set_option maxHeartbeats 8000000 in
set_option maxRecDepth 100000 in
theorem octet_Put16.calls (k : Nat) (a0 : Int) (r : ByteArray) (w : World) (h : octet_Put16.f k a0 = some r) :
    Calls Try.prog 17 #[.int .u16 a0] w fun e w' => e = .returned (.string r) ∧ Below w.heap.size w w' := by
  have HB := Aside0.mk (Below.refl w.heap.size w)
  have H : ((octet_bytes.f k ((a0) % 4294967296) 2).bind fun t111 => (some t111)) = some r := h
  clear h
  replace H := Option.bind_eq_some_iff.mp H
  obtain ⟨t111, A20, H⟩ := H
  replace H : (some t111) = some r := H
  have A2 := Aside0.mk A20
  clear A20
  obtain rfl := Option.some.inj H
  go_enter Try.func17, Try.ntmps17
  go_wp2_with (first | ((with_reducible refine gate_callee (f := 25) rfl ?_); refine goesL_ (some 5) rfl rfl Try.func25 (by kernel_rfl) rfl #[.int .u32 ((a0) % 4294967296), .int .i64 2] rfl (by (try simp only [List.map_toArray, List.map_cons, List.map_nil]); first | done | rfl | (simp only [List.length_drop, List.length_take]; rfl)) ?_; (with_reducible refine (octet_bytes.calls k ((a0) % 4294967296) 2 t111 _ A2.out).mono ?_); rintro e w3 ⟨rfl, hb⟩; refine ⟨_, rfl, ?_⟩; have n0_ := Aside0.mk (below_step (by repeat (first | (with_reducible first | exact HB.out | apply below_alloc | apply pw_below_drewN | apply below_drew1) | exact HB.out)) hb); clear HB; have HB := n0_; clear n0_; (try clear hb); (try clear hb2); (try clear hk); (try clear hi)))
  go_ret
  exact ⟨by first | rfl | (simp [errW_none, errW_some] <;> rfl) | (simp [*, errW_none, errW_some] <;> rfl), by repeat (first | (with_reducible first | exact HB.out | apply below_alloc | apply pw_below_drewN | apply below_drew1) | exact HB.out)⟩

/-! ### derricklaw01_shown: function 8 -/
def derricklaw01_shown.f (k : Nat)  : Option (Bool) := (octet_U16.f k (⟨#[120, 1, 2]⟩ : ByteArray) 1).bind fun bt112 => ((octet_Put16.f k 258).bind fun t115 => (if t115.toList = ([1, 2] : List UInt8) then (if bt112.1 = 258 then (if bt112.2.1 = 3 then (some (bt112.2.2 == 0)) else (some false)) else (some false)) else (some false)))
theorem derricklaw01_shown.mono : ∀ k, LeO (derricklaw01_shown.f k ) (derricklaw01_shown.f (k + 1) ) := by
  intro  k
  unfold derricklaw01_shown.f
  repeat' first
      | (with_reducible exact octet_Put16.mono _ _)
      | (with_reducible exact octet_U16.mono _ _ _)
      | (with_reducible exact LeO.refl _)
      | (with_reducible exact LeO.none _)
      | (with_reducible refine LeO.ite ?_ ?_)
      | (with_reducible refine LeO.bind ?_ (fun _ => ?_))
      | exact octet_Put16.mono _ _
      | exact octet_U16.mono _ _ _
      | exact LeO.none _
      | refine LeO.ite ?_ ?_
      | refine LeO.bind ?_ (fun _ => ?_)
set_option maxHeartbeats 8000000 in
set_option maxRecDepth 100000 in
theorem derricklaw01_shown.calls (k : Nat)  (r : Bool) (w : World) (h : derricklaw01_shown.f k  = some r) :
    Calls Try.prog 8 #[] w fun e w' => e = .returned (.bool r) ∧ Below w.heap.size w w' := by
  have HB := Aside0.mk (Below.refl w.heap.size w)
  have H : ((octet_U16.f k (⟨#[120, 1, 2]⟩ : ByteArray) 1).bind fun bt112 => ((octet_Put16.f k 258).bind fun t115 => (if t115.toList = ([1, 2] : List UInt8) then (if bt112.1 = 258 then (if bt112.2.1 = 3 then (some (bt112.2.2 == 0)) else (some false)) else (some false)) else (some false)))) = some r := h
  clear h
  replace H := Option.bind_eq_some_iff.mp H
  obtain ⟨⟨t112, t113, t114⟩, A10, H⟩ := H
  replace H : ((octet_Put16.f k 258).bind fun t115 => (if t115.toList = ([1, 2] : List UInt8) then (if t112 = 258 then (if t113 = 3 then (some (t114 == 0)) else (some false)) else (some false)) else (some false))) = some r := H
  have A1 := Aside0.mk A10
  clear A10
  replace H := Option.bind_eq_some_iff.mp H
  obtain ⟨t115, A20, H⟩ := H
  replace H : (if t115.toList = ([1, 2] : List UInt8) then (if t112 = 258 then (if t113 = 3 then (some (t114 == 0)) else (some false)) else (some false)) else (some false)) = some r := H
  have A2 := Aside0.mk A20
  clear A20
  by_cases c3 : t115.toList = ([1, 2] : List UInt8)
  · rw [if_pos c3] at H
    have c3b0 : (t115.toList == ([1, 2] : List UInt8)) = true := beq_iff_eq.mpr c3
    have c3b1 : (t115.toList != ([1, 2] : List UInt8)) = false := bne_eq_false_iff_eq.mpr c3
    clear c3
    by_cases c4 : t112 = 258
    · rw [if_pos c4] at H
      have c4b0 : (t112 == 258) = true := beq_iff_eq.mpr c4
      have c4b1 : (t112 != 258) = false := bne_eq_false_iff_eq.mpr c4
      clear c4
      by_cases c5 : t113 = 3
      · rw [if_pos c5] at H
        have c5b0 : (t113 == 3) = true := beq_iff_eq.mpr c5
        have c5b1 : (t113 != 3) = false := bne_eq_false_iff_eq.mpr c5
        clear c5
        obtain rfl := Option.some.inj H
        go_enter Try.func8, Try.ntmps8
        go_wp2_with (first | ((with_reducible refine gate_callee (f := 11) rfl ?_); refine goesL_ (some 5) rfl rfl Try.func11 (by kernel_rfl) rfl #[.string (⟨#[120, 1, 2]⟩ : ByteArray), .int .i64 1] rfl (by (try simp only [List.map_toArray, List.map_cons, List.map_nil]); first | done | rfl | (simp only [List.length_drop, List.length_take]; rfl)) ?_; (with_reducible refine (octet_U16.calls k (⟨#[120, 1, 2]⟩ : ByteArray) 1 t112 t113 t114 _ A1.out).mono ?_); rintro e w' ⟨rfl, ⟨nd, rfl⟩⟩; refine ⟨_, rfl, ?_⟩) | ((with_reducible refine gate_callee (f := 17) rfl ?_); refine goesL_ (some 9) rfl rfl Try.func17 (by kernel_rfl) rfl #[.int .u16 258] rfl (by (try simp only [List.map_toArray, List.map_cons, List.map_nil]); first | done | rfl | (simp only [List.length_drop, List.length_take]; rfl)) ?_; (with_reducible refine (octet_Put16.calls k 258 t115 _ A2.out).mono ?_); rintro e w6 ⟨rfl, hb⟩; refine ⟨_, rfl, ?_⟩; have n0_ := Aside0.mk (below_step (by repeat (first | (with_reducible first | exact HB.out | apply below_alloc | apply pw_below_drewN | apply below_drew1) | exact HB.out)) hb); clear HB; have HB := n0_; clear n0_; (try clear hb); (try clear hb2); (try clear hk); (try clear hi)))
        go_ret
        exact ⟨by first | rfl | (simp [errW_none, errW_some] <;> rfl) | (simp [*, errW_none, errW_some] <;> rfl), by repeat (first | (with_reducible first | exact HB.out | apply below_alloc | apply pw_below_drewN | apply below_drew1) | exact HB.out)⟩
      · rw [if_neg c5] at H
        have c5b0 : (t113 == 3) = false := beq_eq_false_iff_ne.mpr c5
        have c5b1 : (t113 != 3) = true := bne_iff_ne.mpr c5
        obtain rfl := Option.some.inj H
        go_enter Try.func8, Try.ntmps8
        go_wp2_with (first | ((with_reducible refine gate_callee (f := 11) rfl ?_); refine goesL_ (some 5) rfl rfl Try.func11 (by kernel_rfl) rfl #[.string (⟨#[120, 1, 2]⟩ : ByteArray), .int .i64 1] rfl (by (try simp only [List.map_toArray, List.map_cons, List.map_nil]); first | done | rfl | (simp only [List.length_drop, List.length_take]; rfl)) ?_; (with_reducible refine (octet_U16.calls k (⟨#[120, 1, 2]⟩ : ByteArray) 1 t112 t113 t114 _ A1.out).mono ?_); rintro e w' ⟨rfl, ⟨nd, rfl⟩⟩; refine ⟨_, rfl, ?_⟩) | ((with_reducible refine gate_callee (f := 17) rfl ?_); refine goesL_ (some 9) rfl rfl Try.func17 (by kernel_rfl) rfl #[.int .u16 258] rfl (by (try simp only [List.map_toArray, List.map_cons, List.map_nil]); first | done | rfl | (simp only [List.length_drop, List.length_take]; rfl)) ?_; (with_reducible refine (octet_Put16.calls k 258 t115 _ A2.out).mono ?_); rintro e w7 ⟨rfl, hb⟩; refine ⟨_, rfl, ?_⟩; have n0_ := Aside0.mk (below_step (by repeat (first | (with_reducible first | exact HB.out | apply below_alloc | apply pw_below_drewN | apply below_drew1) | exact HB.out)) hb); clear HB; have HB := n0_; clear n0_; (try clear hb); (try clear hb2); (try clear hk); (try clear hi)))
        go_ret
        exact ⟨by first | rfl | (simp [errW_none, errW_some] <;> rfl) | (simp [*, errW_none, errW_some] <;> rfl), by repeat (first | (with_reducible first | exact HB.out | apply below_alloc | apply pw_below_drewN | apply below_drew1) | exact HB.out)⟩
    · rw [if_neg c4] at H
      have c4b0 : (t112 == 258) = false := beq_eq_false_iff_ne.mpr c4
      have c4b1 : (t112 != 258) = true := bne_iff_ne.mpr c4
      obtain rfl := Option.some.inj H
      go_enter Try.func8, Try.ntmps8
      go_wp2_with (first | ((with_reducible refine gate_callee (f := 11) rfl ?_); refine goesL_ (some 5) rfl rfl Try.func11 (by kernel_rfl) rfl #[.string (⟨#[120, 1, 2]⟩ : ByteArray), .int .i64 1] rfl (by (try simp only [List.map_toArray, List.map_cons, List.map_nil]); first | done | rfl | (simp only [List.length_drop, List.length_take]; rfl)) ?_; (with_reducible refine (octet_U16.calls k (⟨#[120, 1, 2]⟩ : ByteArray) 1 t112 t113 t114 _ A1.out).mono ?_); rintro e w' ⟨rfl, ⟨nd, rfl⟩⟩; refine ⟨_, rfl, ?_⟩) | ((with_reducible refine gate_callee (f := 17) rfl ?_); refine goesL_ (some 9) rfl rfl Try.func17 (by kernel_rfl) rfl #[.int .u16 258] rfl (by (try simp only [List.map_toArray, List.map_cons, List.map_nil]); first | done | rfl | (simp only [List.length_drop, List.length_take]; rfl)) ?_; (with_reducible refine (octet_Put16.calls k 258 t115 _ A2.out).mono ?_); rintro e w8 ⟨rfl, hb⟩; refine ⟨_, rfl, ?_⟩; have n0_ := Aside0.mk (below_step (by repeat (first | (with_reducible first | exact HB.out | apply below_alloc | apply pw_below_drewN | apply below_drew1) | exact HB.out)) hb); clear HB; have HB := n0_; clear n0_; (try clear hb); (try clear hb2); (try clear hk); (try clear hi)))
      go_ret
      exact ⟨by first | rfl | (simp [errW_none, errW_some] <;> rfl) | (simp [*, errW_none, errW_some] <;> rfl), by repeat (first | (with_reducible first | exact HB.out | apply below_alloc | apply pw_below_drewN | apply below_drew1) | exact HB.out)⟩
  · rw [if_neg c3] at H
    have c3b0 : (t115.toList == ([1, 2] : List UInt8)) = false := beq_eq_false_iff_ne.mpr c3
    have c3b1 : (t115.toList != ([1, 2] : List UInt8)) = true := bne_iff_ne.mpr c3
    obtain rfl := Option.some.inj H
    go_enter Try.func8, Try.ntmps8
    go_wp2_with (first | ((with_reducible refine gate_callee (f := 11) rfl ?_); refine goesL_ (some 5) rfl rfl Try.func11 (by kernel_rfl) rfl #[.string (⟨#[120, 1, 2]⟩ : ByteArray), .int .i64 1] rfl (by (try simp only [List.map_toArray, List.map_cons, List.map_nil]); first | done | rfl | (simp only [List.length_drop, List.length_take]; rfl)) ?_; (with_reducible refine (octet_U16.calls k (⟨#[120, 1, 2]⟩ : ByteArray) 1 t112 t113 t114 _ A1.out).mono ?_); rintro e w' ⟨rfl, ⟨nd, rfl⟩⟩; refine ⟨_, rfl, ?_⟩) | ((with_reducible refine gate_callee (f := 17) rfl ?_); refine goesL_ (some 9) rfl rfl Try.func17 (by kernel_rfl) rfl #[.int .u16 258] rfl (by (try simp only [List.map_toArray, List.map_cons, List.map_nil]); first | done | rfl | (simp only [List.length_drop, List.length_take]; rfl)) ?_; (with_reducible refine (octet_Put16.calls k 258 t115 _ A2.out).mono ?_); rintro e w9 ⟨rfl, hb⟩; refine ⟨_, rfl, ?_⟩; have n0_ := Aside0.mk (below_step (by repeat (first | (with_reducible first | exact HB.out | apply below_alloc | apply pw_below_drewN | apply below_drew1) | exact HB.out)) hb); clear HB; have HB := n0_; clear n0_; (try clear hb); (try clear hb2); (try clear hk); (try clear hi)))
    go_ret
    exact ⟨by first | rfl | (simp [errW_none, errW_some] <;> rfl) | (simp [*, errW_none, errW_some] <;> rfl), by repeat (first | (with_reducible first | exact HB.out | apply below_alloc | apply pw_below_drewN | apply below_drew1) | exact HB.out)⟩

/-! ### octet_number_uint32: function 21 -/
def octet_number_uint32.l0 : Nat → ByteArray → Int → Int → Int → Int → Int → Option (Int × Int × Int)
  | 0, _, _, _, _, _, _ => none
  | k + 1, x9, x10, x11, x12, x23, x24 => if x24 < x23 then (if 0 ≤ x24 then (if x24 < (x9.size : Int) then (octet_number_uint32.l0 k x9 x10 x11 (Go.bits .or .u32 ((x12 * 256) % 4294967296) ((bt x9 x24) % 4294967296)) x23 (wrap64 (x24 + 1))) else (none)) else (none)) else (some (x12, x10, x11))
def octet_number_uint32.f (k : Nat) (a0 : ByteArray) (a1 : Int) (a2 : Int) : Option (Int × Int × Int) := (octet_Some.f a0 a1 a2).bind fun bt116 => (octet_number_uint32.l0 k bt116.1 bt116.2.1 bt116.2.2 0 (bt116.1.size : Int) 0)
theorem octet_number_uint32.mono_l : ∀ k, (∀ y0 y1 y2 y3 y4 y5, LeO (octet_number_uint32.l0 k y0 y1 y2 y3 y4 y5) (octet_number_uint32.l0 (k + 1) y0 y1 y2 y3 y4 y5))
  | 0 => fun _ _ _ _ _ _ r h => by simp [octet_number_uint32.l0] at h
  | k + 1 => by
    have ih0 := octet_number_uint32.mono_l k
    · intro y0 y1 y2 y3 y4 y5
      unfold octet_number_uint32.l0
      repeat' first
      | (with_reducible exact ih0 _ _ _ _ _ _)
      | (with_reducible exact LeO.refl _)
      | (with_reducible exact LeO.none _)
      | (with_reducible refine LeO.ite ?_ ?_)
      | (with_reducible refine LeO.bind ?_ (fun _ => ?_))
      | exact ih0 _ _ _ _ _ _
      | exact LeO.none _
      | refine LeO.ite ?_ ?_
      | refine LeO.bind ?_ (fun _ => ?_)
theorem octet_number_uint32.mono : ∀ a0 a1 a2 k, LeO (octet_number_uint32.f k a0 a1 a2) (octet_number_uint32.f (k + 1) a0 a1 a2) := by
  intro a0 a1 a2 k
  have ih0 := octet_number_uint32.mono_l k
  unfold octet_number_uint32.f
  repeat' first
      | (with_reducible exact ih0 _ _ _ _ _ _)
      | (with_reducible exact LeO.refl _)
      | (with_reducible exact LeO.none _)
      | (with_reducible refine LeO.ite ?_ ?_)
      | (with_reducible refine LeO.bind ?_ (fun _ => ?_))
      | exact ih0 _ _ _ _ _ _
      | exact LeO.none _
      | refine LeO.ite ?_ ?_
      | refine LeO.bind ?_ (fun _ => ?_)
set_option maxHeartbeats 8000000 in
set_option maxRecDepth 100000 in
theorem octet_number_uint32.calls (k : Nat) (a0 : ByteArray) (a1 : Int) (a2 : Int) (r1 : Int) (r2 : Int) (r3 : Int) (w : World) (h : octet_number_uint32.f k a0 a1 a2 = some (r1, r2, r3)) :
    Calls Try.prog 21 #[.string a0, .int .i64 a1, .int .i64 a2] w fun e w' => e = .returned (.tuple #[.int .u32 r1, .int .i64 r2, .int .i64 r3]) ∧ Drawn0 w w' := by
  have H : ((octet_Some.f a0 a1 a2).bind fun bt116 => (octet_number_uint32.l0 k bt116.1 bt116.2.1 bt116.2.2 0 (bt116.1.size : Int) 0)) = some (r1, r2, r3) := h
  clear h
  replace H := Option.bind_eq_some_iff.mp H
  obtain ⟨⟨t116, t117, t118⟩, A40, H⟩ := H
  replace H : (octet_number_uint32.l0 k t116 t117 t118 0 (t116.size : Int) 0) = some (r1, r2, r3) := H
  have A4 := Aside0.mk A40
  clear A40
  have H' := Aside0.mk H
  clear H
  go_enter Try.func21, Try.ntmps21
  go_wp2_with (first | ((with_reducible refine gate_callee (f := 9) rfl ?_); refine goesL_ (some 18) rfl rfl Try.func9 (by kernel_rfl) rfl #[.string a0, .int .i64 a1, .int .i64 a2] rfl (by (try simp only [List.map_toArray, List.map_cons, List.map_nil]); first | done | rfl | (simp only [List.length_drop, List.length_take]; rfl)) ?_; (with_reducible refine (octet_Some.calls a0 a1 a2 t116 t117 t118 _ A4.out).mono ?_); rintro e w' ⟨rfl, ⟨nd, rfl⟩⟩; refine ⟨_, rfl, ?_⟩))
  go_loopg [12, 24] k (fun kq v12 v24 w' => ∃ (x12_1 : Int) (x24_1 : Int), v12 = .int .u32 x12_1 ∧ v24 = .int .i64 x24_1 ∧ Aside0 (octet_number_uint32.l0 kq t116 t117 t118 x12_1 (t116.size : Int) x24_1 = some (r1, r2, r3)) ∧ Aside0 (kq ≤ k) ∧ Drawn0 w w')
  case atStart => exact ⟨(0), (0), (by first | rfl | (simp; done) | (simp [*]; done)), (by first | rfl | (simp; done) | (simp [*]; done)), H', ⟨Nat.le_refl _⟩, by repeat (first | exact Drawn0.refl _ | apply Drawn0.step)⟩
  case round =>
    clear H'
    try clear c2
    try clear p2
    obtain ⟨x12_1, x24_1, rfl, rfl, HA, HK1, ⟨m1, rfl⟩⟩ := hrel
    cases gk with
    | zero => exact absurd HA.out (by simp [octet_number_uint32.l0])
    | succ k1 =>
      have H := HA.out
      clear HA
      simp only [octet_number_uint32.l0] at H
      by_cases c5 : x24_1 < (t116.size : Int)
      · rw [if_pos c5] at H
        have c5b0 : decide (x24_1 < (t116.size : Int)) = true := decide_eq_true c5
        clear c5
        by_cases c6 : 0 ≤ x24_1
        · rw [if_pos c6] at H
          have c6b0 : decide (0 ≤ x24_1) = true := decide_eq_true c6
          clear c6
          by_cases c7 : x24_1 < (t116.size : Int)
          · rw [if_pos c7] at H
            have c7b0 : decide (x24_1 < (t116.size : Int)) = true := decide_eq_true c7
            clear c7
            have H' := Aside0.mk H
            clear H
            have p8 : 0 ≤ (x24_1 : Int) := of_decide_eq_true (by first | (with_reducible assumption) | assumption)
            have q8 : x24_1 < (t116.size : Int) := of_decide_eq_true (by first | (with_reducible assumption) | assumption)
            have hx8 := bt_at t116 x24_1
            replace p8 := eq_true p8
            replace q8 := eq_true q8
            go_wp2
            go_roundg k1
            case measure => have := HK1.out; omega
            case rel => exact ⟨(Go.bits .or .u32 ((x12_1 * 256) % 4294967296) ((bt t116 x24_1) % 4294967296)), (wrap64 (x24_1 + 1)), (by first | rfl | (simp; done) | (simp [*]; done)), (by first | rfl | (simp; done) | (simp [*]; done)), H', ⟨by have := HK1.out; omega⟩, by repeat (first | exact Drawn0.refl _ | apply Drawn0.step)⟩
          · rw [if_neg c7] at H
            exact absurd H (by simp)
        · rw [if_neg c6] at H
          exact absurd H (by simp)
      · rw [if_neg c5] at H
        have c5b0 : decide (x24_1 < (t116.size : Int)) = false := decide_eq_false c5
        clear c5
        simp only [Option.some.injEq, Prod.mk.injEq] at H
        obtain ⟨rfl, rfl, rfl⟩ := H
        go_wp2
        go_ret3
        exact ⟨by first | rfl | (simp; done) | (simp [*]; done), by repeat (first | exact Drawn0.refl _ | apply Drawn0.step)⟩

/-! ### octet_U32: function 10 -/
def octet_U32.f (k : Nat) (a0 : ByteArray) (a1 : Int) : Option (Int × Int × Int) := (octet_number_uint32.f k a0 a1 4).bind fun bt119 => (some (bt119.1, bt119.2.1, bt119.2.2))
theorem octet_U32.mono : ∀ a0 a1 k, LeO (octet_U32.f k a0 a1) (octet_U32.f (k + 1) a0 a1) := by
  intro a0 a1 k
  unfold octet_U32.f
  repeat' first
      | (with_reducible exact octet_number_uint32.mono _ _ _ _)
      | (with_reducible exact LeO.refl _)
      | (with_reducible exact LeO.none _)
      | (with_reducible refine LeO.ite ?_ ?_)
      | (with_reducible refine LeO.bind ?_ (fun _ => ?_))
      | exact octet_number_uint32.mono _ _ _ _
      | exact LeO.none _
      | refine LeO.ite ?_ ?_
      | refine LeO.bind ?_ (fun _ => ?_)
set_option maxHeartbeats 8000000 in
set_option maxRecDepth 100000 in
theorem octet_U32.calls (k : Nat) (a0 : ByteArray) (a1 : Int) (r1 : Int) (r2 : Int) (r3 : Int) (w : World) (h : octet_U32.f k a0 a1 = some (r1, r2, r3)) :
    Calls Try.prog 10 #[.string a0, .int .i64 a1] w fun e w' => e = .returned (.tuple #[.int .u32 r1, .int .i64 r2, .int .i64 r3]) ∧ Drawn0 w w' := by
  have H : ((octet_number_uint32.f k a0 a1 4).bind fun bt119 => (some (bt119.1, bt119.2.1, bt119.2.2))) = some (r1, r2, r3) := h
  clear h
  replace H := Option.bind_eq_some_iff.mp H
  obtain ⟨⟨t119, t120, t121⟩, A30, H⟩ := H
  replace H : (some (t119, t120, t121)) = some (r1, r2, r3) := H
  have A3 := Aside0.mk A30
  clear A30
  simp only [Option.some.injEq, Prod.mk.injEq] at H
  obtain ⟨rfl, rfl, rfl⟩ := H
  go_enter Try.func10, Try.ntmps10
  go_wp2_with (first | ((with_reducible refine gate_callee (f := 21) rfl ?_); refine goesL_ (some 9) rfl rfl Try.func21 (by kernel_rfl) rfl #[.string a0, .int .i64 a1, .int .i64 4] rfl (by (try simp only [List.map_toArray, List.map_cons, List.map_nil]); first | done | rfl | (simp only [List.length_drop, List.length_take]; rfl)) ?_; (with_reducible refine (octet_number_uint32.calls k a0 a1 4 t119 t120 t121 _ A3.out).mono ?_); rintro e w' ⟨rfl, ⟨nd, rfl⟩⟩; refine ⟨_, rfl, ?_⟩))
  go_ret3
  exact ⟨by first | rfl | (simp; done) | (simp [*]; done), by repeat (first | exact Drawn0.refl _ | apply Drawn0.step)⟩

/-! ### octet_number_uint8: function 23 -/
def octet_number_uint8.l0 : Nat → ByteArray → Int → Int → Int → Int → Int → Option (Int × Int × Int)
  | 0, _, _, _, _, _, _ => none
  | k + 1, x9, x10, x11, x12, x23, x24 => if x24 < x23 then (if 0 ≤ x24 then (if x24 < (x9.size : Int) then (octet_number_uint8.l0 k x9 x10 x11 (Go.bits .or .u32 ((x12 * 256) % 4294967296) ((bt x9 x24) % 4294967296)) x23 (wrap64 (x24 + 1))) else (none)) else (none)) else (some ((x12) % 256, x10, x11))
def octet_number_uint8.f (k : Nat) (a0 : ByteArray) (a1 : Int) (a2 : Int) : Option (Int × Int × Int) := (octet_Some.f a0 a1 a2).bind fun bt122 => (octet_number_uint8.l0 k bt122.1 bt122.2.1 bt122.2.2 0 (bt122.1.size : Int) 0)
theorem octet_number_uint8.mono_l : ∀ k, (∀ y0 y1 y2 y3 y4 y5, LeO (octet_number_uint8.l0 k y0 y1 y2 y3 y4 y5) (octet_number_uint8.l0 (k + 1) y0 y1 y2 y3 y4 y5))
  | 0 => fun _ _ _ _ _ _ r h => by simp [octet_number_uint8.l0] at h
  | k + 1 => by
    have ih0 := octet_number_uint8.mono_l k
    · intro y0 y1 y2 y3 y4 y5
      unfold octet_number_uint8.l0
      repeat' first
      | (with_reducible exact ih0 _ _ _ _ _ _)
      | (with_reducible exact LeO.refl _)
      | (with_reducible exact LeO.none _)
      | (with_reducible refine LeO.ite ?_ ?_)
      | (with_reducible refine LeO.bind ?_ (fun _ => ?_))
      | exact ih0 _ _ _ _ _ _
      | exact LeO.none _
      | refine LeO.ite ?_ ?_
      | refine LeO.bind ?_ (fun _ => ?_)
theorem octet_number_uint8.mono : ∀ a0 a1 a2 k, LeO (octet_number_uint8.f k a0 a1 a2) (octet_number_uint8.f (k + 1) a0 a1 a2) := by
  intro a0 a1 a2 k
  have ih0 := octet_number_uint8.mono_l k
  unfold octet_number_uint8.f
  repeat' first
      | (with_reducible exact ih0 _ _ _ _ _ _)
      | (with_reducible exact LeO.refl _)
      | (with_reducible exact LeO.none _)
      | (with_reducible refine LeO.ite ?_ ?_)
      | (with_reducible refine LeO.bind ?_ (fun _ => ?_))
      | exact ih0 _ _ _ _ _ _
      | exact LeO.none _
      | refine LeO.ite ?_ ?_
      | refine LeO.bind ?_ (fun _ => ?_)
set_option maxHeartbeats 8000000 in
set_option maxRecDepth 100000 in
theorem octet_number_uint8.calls (k : Nat) (a0 : ByteArray) (a1 : Int) (a2 : Int) (r1 : Int) (r2 : Int) (r3 : Int) (w : World) (h : octet_number_uint8.f k a0 a1 a2 = some (r1, r2, r3)) :
    Calls Try.prog 23 #[.string a0, .int .i64 a1, .int .i64 a2] w fun e w' => e = .returned (.tuple #[.int .u8 r1, .int .i64 r2, .int .i64 r3]) ∧ Drawn0 w w' := by
  have H : ((octet_Some.f a0 a1 a2).bind fun bt122 => (octet_number_uint8.l0 k bt122.1 bt122.2.1 bt122.2.2 0 (bt122.1.size : Int) 0)) = some (r1, r2, r3) := h
  clear h
  replace H := Option.bind_eq_some_iff.mp H
  obtain ⟨⟨t122, t123, t124⟩, A40, H⟩ := H
  replace H : (octet_number_uint8.l0 k t122 t123 t124 0 (t122.size : Int) 0) = some (r1, r2, r3) := H
  have A4 := Aside0.mk A40
  clear A40
  have H' := Aside0.mk H
  clear H
  go_enter Try.func23, Try.ntmps23
  go_wp2_with (first | ((with_reducible refine gate_callee (f := 9) rfl ?_); refine goesL_ (some 18) rfl rfl Try.func9 (by kernel_rfl) rfl #[.string a0, .int .i64 a1, .int .i64 a2] rfl (by (try simp only [List.map_toArray, List.map_cons, List.map_nil]); first | done | rfl | (simp only [List.length_drop, List.length_take]; rfl)) ?_; (with_reducible refine (octet_Some.calls a0 a1 a2 t122 t123 t124 _ A4.out).mono ?_); rintro e w' ⟨rfl, ⟨nd, rfl⟩⟩; refine ⟨_, rfl, ?_⟩))
  go_loopg [12, 24] k (fun kq v12 v24 w' => ∃ (x12_1 : Int) (x24_1 : Int), v12 = .int .u32 x12_1 ∧ v24 = .int .i64 x24_1 ∧ Aside0 (octet_number_uint8.l0 kq t122 t123 t124 x12_1 (t122.size : Int) x24_1 = some (r1, r2, r3)) ∧ Aside0 (kq ≤ k) ∧ Drawn0 w w')
  case atStart => exact ⟨(0), (0), (by first | rfl | (simp; done) | (simp [*]; done)), (by first | rfl | (simp; done) | (simp [*]; done)), H', ⟨Nat.le_refl _⟩, by repeat (first | exact Drawn0.refl _ | apply Drawn0.step)⟩
  case round =>
    clear H'
    try clear c2
    try clear p2
    obtain ⟨x12_1, x24_1, rfl, rfl, HA, HK1, ⟨m1, rfl⟩⟩ := hrel
    cases gk with
    | zero => exact absurd HA.out (by simp [octet_number_uint8.l0])
    | succ k1 =>
      have H := HA.out
      clear HA
      simp only [octet_number_uint8.l0] at H
      by_cases c5 : x24_1 < (t122.size : Int)
      · rw [if_pos c5] at H
        have c5b0 : decide (x24_1 < (t122.size : Int)) = true := decide_eq_true c5
        clear c5
        by_cases c6 : 0 ≤ x24_1
        · rw [if_pos c6] at H
          have c6b0 : decide (0 ≤ x24_1) = true := decide_eq_true c6
          clear c6
          by_cases c7 : x24_1 < (t122.size : Int)
          · rw [if_pos c7] at H
            have c7b0 : decide (x24_1 < (t122.size : Int)) = true := decide_eq_true c7
            clear c7
            have H' := Aside0.mk H
            clear H
            have p8 : 0 ≤ (x24_1 : Int) := of_decide_eq_true (by first | (with_reducible assumption) | assumption)
            have q8 : x24_1 < (t122.size : Int) := of_decide_eq_true (by first | (with_reducible assumption) | assumption)
            have hx8 := bt_at t122 x24_1
            replace p8 := eq_true p8
            replace q8 := eq_true q8
            go_wp2
            go_roundg k1
            case measure => have := HK1.out; omega
            case rel => exact ⟨(Go.bits .or .u32 ((x12_1 * 256) % 4294967296) ((bt t122 x24_1) % 4294967296)), (wrap64 (x24_1 + 1)), (by first | rfl | (simp; done) | (simp [*]; done)), (by first | rfl | (simp; done) | (simp [*]; done)), H', ⟨by have := HK1.out; omega⟩, by repeat (first | exact Drawn0.refl _ | apply Drawn0.step)⟩
          · rw [if_neg c7] at H
            exact absurd H (by simp)
        · rw [if_neg c6] at H
          exact absurd H (by simp)
      · rw [if_neg c5] at H
        have c5b0 : decide (x24_1 < (t122.size : Int)) = false := decide_eq_false c5
        clear c5
        simp only [Option.some.injEq, Prod.mk.injEq] at H
        obtain ⟨rfl, rfl, rfl⟩ := H
        go_wp2
        go_ret3
        exact ⟨by first | rfl | (simp; done) | (simp [*]; done), by repeat (first | exact Drawn0.refl _ | apply Drawn0.step)⟩

/-! ### octet_U8: function 12 -/
def octet_U8.f (k : Nat) (a0 : ByteArray) (a1 : Int) : Option (Int × Int × Int) := (octet_number_uint8.f k a0 a1 1).bind fun bt125 => (some (bt125.1, bt125.2.1, bt125.2.2))
theorem octet_U8.mono : ∀ a0 a1 k, LeO (octet_U8.f k a0 a1) (octet_U8.f (k + 1) a0 a1) := by
  intro a0 a1 k
  unfold octet_U8.f
  repeat' first
      | (with_reducible exact octet_number_uint8.mono _ _ _ _)
      | (with_reducible exact LeO.refl _)
      | (with_reducible exact LeO.none _)
      | (with_reducible refine LeO.ite ?_ ?_)
      | (with_reducible refine LeO.bind ?_ (fun _ => ?_))
      | exact octet_number_uint8.mono _ _ _ _
      | exact LeO.none _
      | refine LeO.ite ?_ ?_
      | refine LeO.bind ?_ (fun _ => ?_)
set_option maxHeartbeats 8000000 in
set_option maxRecDepth 100000 in
theorem octet_U8.calls (k : Nat) (a0 : ByteArray) (a1 : Int) (r1 : Int) (r2 : Int) (r3 : Int) (w : World) (h : octet_U8.f k a0 a1 = some (r1, r2, r3)) :
    Calls Try.prog 12 #[.string a0, .int .i64 a1] w fun e w' => e = .returned (.tuple #[.int .u8 r1, .int .i64 r2, .int .i64 r3]) ∧ Drawn0 w w' := by
  have H : ((octet_number_uint8.f k a0 a1 1).bind fun bt125 => (some (bt125.1, bt125.2.1, bt125.2.2))) = some (r1, r2, r3) := h
  clear h
  replace H := Option.bind_eq_some_iff.mp H
  obtain ⟨⟨t125, t126, t127⟩, A30, H⟩ := H
  replace H : (some (t125, t126, t127)) = some (r1, r2, r3) := H
  have A3 := Aside0.mk A30
  clear A30
  simp only [Option.some.injEq, Prod.mk.injEq] at H
  obtain ⟨rfl, rfl, rfl⟩ := H
  go_enter Try.func12, Try.ntmps12
  go_wp2_with (first | ((with_reducible refine gate_callee (f := 23) rfl ?_); refine goesL_ (some 9) rfl rfl Try.func23 (by kernel_rfl) rfl #[.string a0, .int .i64 a1, .int .i64 1] rfl (by (try simp only [List.map_toArray, List.map_cons, List.map_nil]); first | done | rfl | (simp only [List.length_drop, List.length_take]; rfl)) ?_; (with_reducible refine (octet_number_uint8.calls k a0 a1 1 t125 t126 t127 _ A3.out).mono ?_); rintro e w' ⟨rfl, ⟨nd, rfl⟩⟩; refine ⟨_, rfl, ?_⟩))
  go_ret3
  exact ⟨by first | rfl | (simp; done) | (simp [*]; done), by repeat (first | exact Drawn0.refl _ | apply Drawn0.step)⟩

/-! ### derrickref01_there: function 24 -/
def derrickref01_there.f (a0 : ByteArray) (a1 : Int) (a2 : Int) : Option (Bool) := if a1 ≥ 0 then (if a1 ≤ (a0.size : Int) then (if a2 ≥ 0 then (if a2 ≤ (a0.size : Int) then (some (decide ((wrap64 (a1 + a2)) ≤ (a0.size : Int)))) else (some false)) else (some false)) else (some false)) else (some false)
set_option maxHeartbeats 8000000 in
set_option maxRecDepth 100000 in
theorem derrickref01_there.calls (a0 : ByteArray) (a1 : Int) (a2 : Int) (r : Bool) (w : World) (h : derrickref01_there.f a0 a1 a2 = some r) :
    Calls Try.prog 24 #[.string a0, .int .i64 a1, .int .i64 a2] w fun e w' => e = .returned (.bool r) ∧ Drawn0 w w' := by
  have H : (if a1 ≥ 0 then (if a1 ≤ (a0.size : Int) then (if a2 ≥ 0 then (if a2 ≤ (a0.size : Int) then (some (decide ((wrap64 (a1 + a2)) ≤ (a0.size : Int)))) else (some false)) else (some false)) else (some false)) else (some false)) = some r := h
  clear h
  by_cases c4 : a1 ≥ 0
  · rw [if_pos c4] at H
    have c4b0 : decide (0 ≤ a1) = true := decide_eq_true c4
    clear c4
    by_cases c5 : a1 ≤ (a0.size : Int)
    · rw [if_pos c5] at H
      have c5b0 : decide (a1 ≤ (a0.size : Int)) = true := decide_eq_true c5
      clear c5
      by_cases c6 : a2 ≥ 0
      · rw [if_pos c6] at H
        have c6b0 : decide (0 ≤ a2) = true := decide_eq_true c6
        clear c6
        by_cases c7 : a2 ≤ (a0.size : Int)
        · rw [if_pos c7] at H
          have c7b0 : decide (a2 ≤ (a0.size : Int)) = true := decide_eq_true c7
          clear c7
          obtain rfl := Option.some.inj H
          go_enter Try.func24, Try.ntmps24
          go_wp2
          go_ret
          exact ⟨by first | rfl | (simp; done) | (simp [*]; done), by repeat (first | exact Drawn0.refl _ | apply Drawn0.step)⟩
        · rw [if_neg c7] at H
          have c7b0 : decide (a2 ≤ (a0.size : Int)) = false := decide_eq_false c7
          clear c7
          obtain rfl := Option.some.inj H
          go_enter Try.func24, Try.ntmps24
          go_wp2
          go_ret
          exact ⟨by first | rfl | (simp; done) | (simp [*]; done), by repeat (first | exact Drawn0.refl _ | apply Drawn0.step)⟩
      · rw [if_neg c6] at H
        have c6b0 : decide (0 ≤ a2) = false := decide_eq_false c6
        clear c6
        obtain rfl := Option.some.inj H
        go_enter Try.func24, Try.ntmps24
        go_wp2
        go_ret
        exact ⟨by first | rfl | (simp; done) | (simp [*]; done), by repeat (first | exact Drawn0.refl _ | apply Drawn0.step)⟩
    · rw [if_neg c5] at H
      have c5b0 : decide (a1 ≤ (a0.size : Int)) = false := decide_eq_false c5
      clear c5
      obtain rfl := Option.some.inj H
      go_enter Try.func24, Try.ntmps24
      go_wp2
      go_ret
      exact ⟨by first | rfl | (simp; done) | (simp [*]; done), by repeat (first | exact Drawn0.refl _ | apply Drawn0.step)⟩
  · rw [if_neg c4] at H
    have c4b0 : decide (0 ≤ a1) = false := decide_eq_false c4
    clear c4
    obtain rfl := Option.some.inj H
    go_enter Try.func24, Try.ntmps24
    go_wp2
    go_ret
    exact ⟨by first | rfl | (simp; done) | (simp [*]; done), by repeat (first | exact Drawn0.refl _ | apply Drawn0.step)⟩

/-! ### derrickref01_U8: function 13 -/
def derrickref01_U8.f (a0 : ByteArray) (a1 : Int) : Option (Int × Int × Int) := (derrickref01_there.f a0 a1 1).bind fun t128 => (if t128 = true then (if 0 ≤ a1 then (if a1 < (a0.size : Int) then (some (bt a0 a1, wrap64 (a1 + 1), 0)) else (none)) else (none)) else (some (0, 0, 2)))
set_option maxHeartbeats 8000000 in
set_option maxRecDepth 100000 in
theorem derrickref01_U8.calls (a0 : ByteArray) (a1 : Int) (r1 : Int) (r2 : Int) (r3 : Int) (w : World) (h : derrickref01_U8.f a0 a1 = some (r1, r2, r3)) :
    Calls Try.prog 13 #[.string a0, .int .i64 a1] w fun e w' => e = .returned (.tuple #[.int .u8 r1, .int .i64 r2, .int .i64 r3]) ∧ Drawn0 w w' := by
  have H : ((derrickref01_there.f a0 a1 1).bind fun t128 => (if t128 = true then (if 0 ≤ a1 then (if a1 < (a0.size : Int) then (some (bt a0 a1, wrap64 (a1 + 1), 0)) else (none)) else (none)) else (some (0, 0, 2)))) = some (r1, r2, r3) := h
  clear h
  replace H := Option.bind_eq_some_iff.mp H
  obtain ⟨t128, A30, H⟩ := H
  replace H : (if t128 = true then (if 0 ≤ a1 then (if a1 < (a0.size : Int) then (some (bt a0 a1, wrap64 (a1 + 1), 0)) else (none)) else (none)) else (some (0, 0, 2))) = some (r1, r2, r3) := H
  have A3 := Aside0.mk A30
  clear A30
  by_cases c4 : t128 = true
  · subst c4
    have H1 : (if 0 ≤ a1 then (if a1 < (a0.size : Int) then (some (bt a0 a1, wrap64 (a1 + 1), 0)) else (none)) else (none)) = some (r1, r2, r3) := by rw [if_pos rfl] at H; exact H
    clear H
    have H := H1
    clear H1
    by_cases c5 : 0 ≤ a1
    · rw [if_pos c5] at H
      have c5b0 : decide (0 ≤ a1) = true := decide_eq_true c5
      clear c5
      by_cases c6 : a1 < (a0.size : Int)
      · rw [if_pos c6] at H
        have c6b0 : decide (a1 < (a0.size : Int)) = true := decide_eq_true c6
        clear c6
        simp only [Option.some.injEq, Prod.mk.injEq] at H
        obtain ⟨rfl, rfl, rfl⟩ := H
        go_enter Try.func13, Try.ntmps13
        go_wp2_with (first | ((with_reducible refine gate_callee (f := 24) rfl ?_); refine goesL_ (some 9) rfl rfl Try.func24 (by kernel_rfl) rfl #[.string a0, .int .i64 a1, .int .i64 1] rfl (by (try simp only [List.map_toArray, List.map_cons, List.map_nil]); first | done | rfl | (simp only [List.length_drop, List.length_take]; rfl)) ?_; (with_reducible refine (derrickref01_there.calls a0 a1 1 true _ A3.out).mono ?_); rintro e w' ⟨rfl, ⟨nd, rfl⟩⟩; refine ⟨_, rfl, ?_⟩; have p7 : 0 ≤ (a1 : Int) := of_decide_eq_true (by first | (with_reducible assumption) | assumption); have q7 : a1 < (a0.size : Int) := of_decide_eq_true (by first | (with_reducible assumption) | assumption); have hx7 := bt_at a0 a1; replace p7 := eq_true p7; replace q7 := eq_true q7))
        go_ret3
        exact ⟨by first | rfl | (simp; done) | (simp [*]; done), by repeat (first | exact Drawn0.refl _ | apply Drawn0.step)⟩
      · rw [if_neg c6] at H
        exact absurd H (by simp)
    · rw [if_neg c5] at H
      exact absurd H (by simp)
  · replace c4 := Bool.eq_false_iff.mpr c4
    subst c4
    have H1 : (some (0, 0, 2)) = some (r1, r2, r3) := by rw [if_neg (show ¬ (false = true) by decide)] at H; exact H
    clear H
    have H := H1
    clear H1
    simp only [Option.some.injEq, Prod.mk.injEq] at H
    obtain ⟨rfl, rfl, rfl⟩ := H
    go_enter Try.func13, Try.ntmps13
    go_wp2_with (first | ((with_reducible refine gate_callee (f := 24) rfl ?_); refine goesL_ (some 9) rfl rfl Try.func24 (by kernel_rfl) rfl #[.string a0, .int .i64 a1, .int .i64 1] rfl (by (try simp only [List.map_toArray, List.map_cons, List.map_nil]); first | done | rfl | (simp only [List.length_drop, List.length_take]; rfl)) ?_; (with_reducible refine (derrickref01_there.calls a0 a1 1 false _ A3.out).mono ?_); rintro e w' ⟨rfl, ⟨nd, rfl⟩⟩; refine ⟨_, rfl, ?_⟩))
    go_ret3
    exact ⟨by first | rfl | (simp; done) | (simp [*]; done), by repeat (first | exact Drawn0.refl _ | apply Drawn0.step)⟩

end Go.Proofs.Ytfcblhdonmfnpaa.POctetTells
