/- The chain of TopRefuses, part 7. -/
import Derived.Test.YtgemonlknehegaaGreatDoorK06
import Derived.MapKept
import Derived.Lib.UnsafeStr
namespace Go.Proofs.YtgemonlknehegaaGreatDoor.AI
open Go
set_option linter.unusedVariables false
set_option linter.unusedSimpArgs false
section
variable {P : Program} {N : Nat} {σ : Sig} {h : H} {w : World} {t : Tm} {a : Act}
theorem onSl_ne {β : Type} {x : AV} {f : NK → List β} {g : Pos → Nat → Nat → ACap → List β} {e : Pos → Nat → Nat → Nat → Nat → List β} (h : x.onSl [] f g e ≠ []) :
    (∃ k, x = .nil k ∧ x.onSl [] f g e = f k) ∨ (∃ b o l c, x = .slice b o l c ∧ x.onSl [] f g e = g b o l c) ∨ (∃ b o k l z, x = .etail b o k l z ∧ x.onSl [] f g e = e b o k l z) := by
  cases x with
  | nil k => exact .inl ⟨k, rfl, rfl⟩
  | slice b o l c => exact .inr (.inl ⟨b, o, l, c, rfl, rfl⟩)
  | etail b o k l z => exact .inr (.inr ⟨b, o, k, l, z, rfl, rfl⟩)
  | _ => exact absurd rfl h
theorem cellsOf_eq {e : TypeId} {i : TypeInfo} (hi : P.info? e = some i) : P.cellsOf e = i.size := by simp [Program.cellsOf, hi]
theorem grown_size {zv : Value} {olds us : List Value} {k sz m n nc : Nat} (hzs : zv.cells.size = sz) (ho : olds.length = m * sz) (hu : us.length = n * sz) (hle : m + n ≤ nc) : (grown zv olds us (nc - (m + n))).size = nc * sz := by
  simp [grown, hzs, ho, hu]
  rw [← Nat.add_mul, ← Nat.add_mul]
  congr 1; omega
theorem grown_get {zv : Value} {olds us : List Value} {k i : Nat} (hi : i < (olds ++ us).length) : (grown zv olds us k)[i]? = (olds ++ us)[i]? := by
  unfold grown
  rw [List.getElem?_toArray, List.getElem?_append_left hi]
section
variable {ti tu e : TypeId} {i : TypeInfo} {zv x vs : Value} {m n : Nat} {us : List Value} {xs : List AV} {s : AV}
theorem append0_ok (hh : Holds P N σ h w) (ht : P.underlying ti = some (.slice e)) (hi : P.info? e = some i) (hz : i.zero = some zv) (hzs : zv.cells.size = i.size) (hbt : i.bytes < 65536)
    (hs : den σ s = some vs) (hm : slen s = some m) (hul : us.length = 0 * i.size) (hb : Brings P w i.size zv tu x 0 us) (ty : TypeId) (hne : app0 h s ≠ []) :
    Plain P N σ h w (Builtin.append_ #[ti, tu] ty #[vs, x]) (app0 h s) := by
  have hu0 : us = [] := List.eq_nil_of_length_eq_zero (by omega)
  subst hu0
  have room : ∀ (base : Option Addr) (c : Nat), m ≤ c → (Builtin.append_ #[ti, tu] ty #[.slice base m c, x]).run P w = .ok (.slice base m c) w := fun base c hc => by
    rw [run_app_room (P := P) ht hi hz hzs hbt (by omega) hb (by omega) base ty]
    cases base <;> simp [storeCells]
  have fin : ∀ (base : Option Addr) (c : Nat), m ≤ c → vs = .slice base m c → app0 h s = [⟨s, h⟩] → Plain P N σ h w (Builtin.append_ #[ti, tu] ty #[vs, x]) (app0 h s) := fun base c hc hv he => by
    rw [he]
    exact ⟨_, List.mem_singleton.2 rfl, σ, w, vs, by rw [hv]; exact room base c hc, hs, Ext.refl hh⟩
  rcases onSl_ne (x := s) hne with ⟨k, e1, e2⟩ | ⟨b, o, l, c, e1, e2⟩ | ⟨b, o, k, l, z, e1, e2⟩
  · subst e1
    have e3 : app0 h (.nil k) = pick (Nat.beq k.no 1) [⟨.nil k, h⟩] [] := e2
    rw [e3] at hne
    rcases pick_ne hne with ⟨hk, e4⟩ | ⟨_, e4⟩
    · have := NK.no_iff.2.1.1 hk; subst this
      have : some 0 = some m := hm
      cases this
      exact fin none 0 (Nat.le_refl _) (den_nil hs) (by rw [e3, e4])
    · rw [e4] at hne; exact absurd rfl hne
  · subst e1
    have hlm : l = m := Option.some.inj (show some l = some m from hm)
    subst hlm
    obtain ⟨lc, hl, ev⟩ := den_slice hs
    cases c with
    | known c =>
      have e3 : app0 h (.slice b o l (.known c)) = pick (Nat.ble l c) [⟨.slice b o l (.known c), h⟩] [] := e2
      rw [e3] at hne
      rcases pick_ne hne with ⟨hk, e4⟩ | ⟨_, e4⟩
      · exact fin _ _ (ble_iff.1 hk) ev (by rw [e3, e4])
      · rw [e4] at hne; exact absurd rfl hne
    | opn sk =>
      have e3 : app0 h (.slice b o l (.opn sk)) = h.row b [] fun _ _ _ o' => liftO o' fun least => pick (Nat.ble (Nat.add sk l) least) [⟨.slice b o l (.opn sk), h⟩] [] := e2
      rw [e3] at hne
      obtain ⟨ty', cells, n', o', hb', e4⟩ := row_ne hne
      rw [e4] at hne
      obtain ⟨least, ho, e5⟩ := liftO_ne hne
      rw [e5] at hne
      subst ho
      rcases pick_ne hne with ⟨hk, e6⟩ | ⟨_, e6⟩
      · obtain ⟨c, fz, vs', r⟩ := hh.rowAt hb' hl
        have := r.shape
        simp only at this
        have hk' : sk + l ≤ least := ble_iff.1 hk
        exact fin _ _ (by show l ≤ lc.cap - sk; omega) ev (by rw [e3, e4, e5, e6])
      · rw [e6] at hne; exact absurd rfl hne
  · subst e1
    have : some 0 = some m := hm
    cases this
    obtain ⟨lc, hl, ev⟩ := den_etail hs
    exact fin _ _ (Nat.zero_le _) ev e2
/-- where the slice's capacity is known -/
theorem appendK_ok (hh : Holds P N σ h w) (ht : P.underlying ti = some (.slice e)) (hi : P.info? e = some i) (hz : i.zero = some zv) (hzs : zv.cells.size = i.size) (hbt : i.bytes < 65536) (hp : 0 < i.size)
    (hms : m < 1048576) (hns : n < 1048576) (hx : denL σ xs = some us) (hul : us.length = n * i.size) (h1 : allOne xs = true) (hb : Brings P w i.size zv tu x n us) (ty : TypeId)
    {b : Pos} {off c : Nat} {l : Loc} (hl : σ b = some l) {ty0 : TypeId} {cells : List AV} {n0 : Nat} {o0 : Option Nat} (hrow : h.objs.get b = some (.row ty0 cells n0 o0))
    (hne : appK e i.size h b off m c xs n cells ≠ []) :
    Plain P N σ h w (Builtin.append_ #[ti, tu] ty #[.slice (some (l.addr off)) m c, x]) (appK e i.size h b off m c xs n cells) := by
  unfold appK at hne ⊢
  rcases pick_ne hne with ⟨hk, e1⟩ | ⟨hk, e1⟩
  · rw [e1] at hne ⊢
    obtain ⟨h', hput', e2⟩ := liftO_ne hne
    rw [e2]
    obtain ⟨w', r1, r2⟩ := hput_ok hh hput' h1 hx hl
    refine ⟨_, List.mem_singleton.2 rfl, σ, w', .slice (some (l.addr off)) (m + n) c, ?_, den_slice_mk hl off (m + n) (.known c), r2⟩
    rw [run_app_room (P := P) ht hi hz hzs hbt hns hb (ble_iff.1 hk) _ ty]
    simp only [addr_add]
    have r1' : (storeCells (l.addr (off + m * i.size)) us 0).run P w = .ok () w' := r1
    rw [r1']; rfl
  · rw [e1] at hne ⊢
    obtain ⟨old, hold, e2⟩ := liftO_ne hne
    rw [e2]
    have hgt : c < m + n := ble_false.1 hk
    obtain ⟨cc, fz, vs', r⟩ := hh.rowAt hrow hl
    have hread : ∃ olds, denL σ old = some olds ∧ olds.length = m * i.size ∧ ∀ d, (Builtin.firstCells i.size m (.slice (some (l.addr off)) m c)).run P { w with drawn := d } = .ok olds.toArray { w with drawn := d } := by
      obtain ⟨olds, d1, d2, _⟩ := r.reads hold
      refine ⟨olds, d1, d2, fun d => ?_⟩
      obtain ⟨cc', fz', vs'', r'⟩ := (Ext.drawn hh d).holds.rowAt hrow hl
      obtain ⟨olds', d1', _, d3'⟩ := r'.reads hold
      rw [d1] at d1'; cases d1'
      exact d3'
    obtain ⟨olds, d1, d2, d3⟩ := hread
    obtain ⟨nc, hnc, hrun⟩ := run_app_grow (P := P) ht hi hz hzs hbt hns hms hb hgt d3 ty
    have hco := cellsOf_eq hi
    have hd : denL σ (lapp old xs) = some (olds ++ us) := by rw [lapp_eq]; exact denL_append.2 ⟨_, _, d1, hx, rfl⟩
    have hll : (olds ++ us).length = (m + n) * i.size := by simp [d2, hul, Nat.add_mul]
    have hgs := grown_size (k := 0) hzs d2 hul hnc
    obtain ⟨r, hr, σ', u, eu, e3, e4⟩ := newRowOpen_ok (least := m + n) (nc := nc) hh hd hll (fun j hj => grown_get (zv := zv) (k := nc - (m + n)) (by omega)) (by omega) (by rw [hco]; exact hgs) hnc
      (by rw [hco]; exact Nat.mul_le_mul_right _ hnc) (w' := { w with heap := w.heap.push (.cells (grown zv olds us (nc - (m + n))) e), drawn := w.drawn + 1 }) rfl rfl rfl rfl
    exact ⟨r, hr, σ', _, u, by rw [eu]; exact hrun, e3, e4⟩
end
end
end Go.Proofs.YtgemonlknehegaaGreatDoor.AI
namespace Go.Proofs.YtgemonlknehegaaGreatDoor.AI
open Go
set_option linter.unusedVariables false
set_option linter.unusedSimpArgs false
section
variable {P : Program} {N : Nat} {σ : Sig} {h : H} {w : World} {t : Tm} {a : Act}
section
variable {ti tu e : TypeId} {i : TypeInfo} {zv x vs : Value} {m n : Nat} {us : List Value} {xs : List AV} {s : AV}
/-- IN PLACE, AND SEEN ANEW: behind m elements from the cell p of a row on, of which the first 'known' ones' values are known. -/
theorem anew_ok (hh : Holds P N σ h w) (ht : P.underlying ti = some (.slice e)) (hi : P.info? e = some i) (hz : i.zero = some zv) (hzs : zv.cells.size = i.size) (hbt : i.bytes < 65536) (hp : 0 < i.size)
    (hms : m < 1048576) (hns : n < 1048576) (hul : us.length = n * i.size) (h1 : ∀ v ∈ us, v.oneCell' = true) (hb : Brings P w i.size zv tu x n us) (ty : TypeId)
    {b : Pos} {l : Loc} (hl : σ b = some l) {cells : List AV} {n0 : Nat} {o0 : Option Nat} (hrow : h.objs.get b = some (.row e cells n0 o0))
    {cc : Array Value} {fz : Nat × Nat} (hg : w.heap[l.blk]? = some (.cells cc e fz)) (hth : thaw cc.size fz) {p cap : Nat} (hsz : cc.size = p + cap * i.size)
    {cells' : List AV} {k : Nat} {vs' : List Value} (hd : denL σ cells' = some vs') (hlen : vs'.length = k) (hk : k ≤ (m + n) * i.size)
    (hold : ∀ j, j < k → (j < m * i.size ∧ cc[p + j]? = vs'[j]?) ∨ (m * i.size ≤ j ∧ vs'[j]? = us[j - m * i.size]?)) (hle : m + n ≤ cap) :
    Plain P N σ h w (Builtin.append_ #[ti, tu] ty #[.slice (some ⟨l.blk, p, none⟩) m cap, x]) (newRowOpen (h.del b) e cells' k (m + n)) := by
  have hco := cellsOf_eq hi
  have hcm : (m + n) * i.size ≤ cap * i.size := Nat.mul_le_mul_right _ hle
  have hmn : (m + n) * i.size = m * i.size + n * i.size := Nat.add_mul _ _ _
  obtain ⟨c', i1, i2, i3, i4, i5, i6, i7, i8⟩ := setCells_heap l.blk us (p + m * i.size) w cc e fz hg (by omega)
  have hrun := run_storeCells_cells (P := P) l.blk (p + m * i.size) us 0 w
    (fun j hj => by simp [World.cell?, hg]; omega)
    (fun j hj => thaw_not hg hth (by omega)) h1
  have hadd : (⟨l.blk, p, none⟩ : Addr).add (m * i.size) = ⟨l.blk, p + m * i.size, none⟩ := by
    have := addr_add ⟨l.blk, p, 0⟩ 0 (m * i.size)
    simpa [Loc.addr] using this
  obtain ⟨r, hr, σ', u, eu, e3, e4⟩ := adopt_ok (least := m + n) (base := p) (cap := cap) (c' := c') (fz := fz) hh hrow hl hd hlen (fun j hj => by
      rcases hold j hj with ⟨a1, a2⟩ | ⟨a1, a2⟩
      · rw [i4 _ (by omega), a2]
      · rw [a2, show p + j = p + m * i.size + (j - m * i.size) by omega, i3 _ (by omega)]) (i2 ▸ hth) (by omega) (by rw [i2, hco, hsz]) hle (by rw [hco]; omega) i1 i5 i6 i7 i8
  refine ⟨r, hr, σ', _, u, ?_, e3, e4⟩
  rw [run_app_room (P := P) ht hi hz hzs hbt hns hb hle _ ty, eu]
  simp only [hadd]
  have hrun' : (storeCells ⟨l.blk, p + m * i.size, none⟩ us 0).run P w = .ok () (w.setCells l.blk (p + m * i.size) us) := hrun
  rw [hrun']; rfl
/-- GROWN: a new row, of which the first 'known' values are known. -/
theorem grow_ok (hh : Holds P N σ h w) (ht : P.underlying ti = some (.slice e)) (hi : P.info? e = some i) (hz : i.zero = some zv) (hzs : zv.cells.size = i.size) (hbt : i.bytes < 65536) (hp : 0 < i.size)
    (hms : m < 1048576) (hns : n < 1048576) (hul : us.length = n * i.size) (hb : Brings P w i.size zv tu x n us) (ty : TypeId) {c : Nat} {base : Option Addr} {olds : List Value} (holl : olds.length = m * i.size)
    (hread : ∀ d, (Builtin.firstCells i.size m (.slice base m c)).run P { w with drawn := d } = .ok olds.toArray { w with drawn := d }) (hgt : c < m + n)
    {h' : H} (hE : Ext P N σ h w σ h' w) {cells' : List AV} {k : Nat} {vs' : List Value} (hd : denL σ cells' = some vs') (hlen : vs'.length = k) (hk : k ≤ (m + n) * i.size) (hpre : ∀ j, j < k → vs'[j]? = (olds ++ us)[j]?) :
    Plain P N σ h w (Builtin.append_ #[ti, tu] ty #[.slice base m c, x]) (newRowOpen h' e cells' k (m + n)) := by
  obtain ⟨nc, hnc, hrun⟩ := run_app_grow (P := P) ht hi hz hzs hbt hns hms hb hgt hread ty
  have hco := cellsOf_eq hi
  have hll : (olds ++ us).length = (m + n) * i.size := by simp [holl, hul, Nat.add_mul]
  have hgs := grown_size (k := 0) hzs holl hul hnc
  have hcm : (m + n) * i.size ≤ nc * i.size := Nat.mul_le_mul_right _ hnc
  obtain ⟨r, hr, σ', u, eu, e3, e4⟩ := newRowOpen_ok (least := m + n) (nc := nc) hE.holds hd hlen (fun j hj => by rw [hpre j hj]; exact grown_get (zv := zv) (k := nc - (m + n)) (by omega)) (by omega) (by rw [hco]; exact hgs) hnc
    (by rw [hco]; omega) (w' := { w with heap := w.heap.push (.cells (grown zv olds us (nc - (m + n))) e), drawn := w.drawn + 1 }) rfl rfl rfl rfl
  exact ⟨r, hr, σ', _, u, by rw [eu]; exact hrun, e3, hE.trans e4⟩
theorem appendO_ok (hh : Holds P N σ h w) (ht : P.underlying ti = some (.slice e)) (hi : P.info? e = some i) (hz : i.zero = some zv) (hzs : zv.cells.size = i.size) (hbt : i.bytes < 65536) (hp : 0 < i.size)
    (hms : m < 1048576) (hns : n < 1048576) (hx : denL σ xs = some us) (hul : us.length = n * i.size) (h1 : allOne xs = true) (hb : Brings P w i.size zv tu x n us) (ty : TypeId)
    {b : Pos} {off skip least : Nat} {l : Loc} (hl : σ b = some l) {cells : List AV} {n0 : Nat} (hrow : h.objs.get b = some (.row e cells n0 (some least))) (hoff : off = skip * i.size)
    (hne : appO e i.size h b off m skip least xs n e cells n0 ≠ []) :
    Plain P N σ h w (Builtin.append_ #[ti, tu] ty #[.slice (some (l.addr off)) m (l.cap - skip), x]) (appO e i.size h b off m skip least xs n e cells n0) := by
  have hco := cellsOf_eq hi
  have hone := allOne_den h1 hx
  have hxl := denL_length hx
  obtain ⟨cc, fz, vs', r⟩ := hh.rowAt hrow hl
  have hshape := r.shape
  simp only [hco] at hshape
  obtain ⟨s1, s2, s3, s4⟩ := hshape
  have hcl := r.cells_len
  have hvl := r.len
  have hmn : (m + n) * i.size = m * i.size + n * i.size := Nat.add_mul _ _ _
  unfold appO at hne ⊢
  rcases pick_ne hne with ⟨hk, e1⟩ | ⟨hk, e1⟩
  · rw [e1] at hne ⊢
    have hk' : skip + (m + n) ≤ least := ble_iff.1 hk
    have hroom : m + n ≤ l.cap - skip := by omega
    have hcap : off + (m + n) * i.size ≤ l.cap * i.size := by
      rw [hoff, ← Nat.add_mul]; exact Nat.mul_le_mul_right _ (by omega)
    have fin : ∀ {h' : H} {w' : World}, (storeCells (l.addr (off + m * i.size)) us 0).run P w = .ok () w' → Ext P N σ h w σ h' w' →
        Plain P N σ h w (Builtin.append_ #[ti, tu] ty #[.slice (some (l.addr off)) m (l.cap - skip), x]) [⟨.slice b off (Nat.add m n) (.opn skip), h'⟩] := fun {h' w'} r1 r2 => by
      refine ⟨_, List.mem_singleton.2 rfl, σ, w', .slice (some (l.addr off)) (m + n) (l.cap - skip), ?_, den_slice_mk hl off (m + n) (.opn skip), r2⟩
      rw [run_app_room (P := P) ht hi hz hzs hbt hns hb hroom _ ty]
      simp only [addr_add]
      rw [r1]; rfl
    rcases pick_ne hne with ⟨hk2, e2⟩ | ⟨hk2, e2⟩
    · rw [e2] at hne ⊢
      obtain ⟨h', hput', e3⟩ := liftO_ne hne
      rw [e3]
      obtain ⟨w', r1, r2⟩ := hput_ok hh hput' h1 hx hl
      exact fin r1 r2
    · rw [e2] at hne ⊢
      have hk2' : n0 < off + (m + n) * i.size := ble_false.1 hk2
      rcases pick_ne hne with ⟨hk3, e3⟩ | ⟨hk3, e3⟩
      · rw [e3] at hne ⊢
        have hk3' : off + m * i.size ≤ n0 := ble_iff.1 hk3
        obtain ⟨pre, hpre, e4⟩ := liftO_ne hne
        rw [e4]
        obtain ⟨q1, rfl⟩ := ltake_some hpre
        have q1' : off + m * i.size ≤ cells.length := q1
        obtain ⟨w', r1, r2⟩ := write_ok (cells' := lapp (cells.take (Nat.add off (Nat.mul m i.size))) xs) (n' := Nat.add off (Nat.mul (Nat.add m n) i.size)) (vs' := vs'.take (off + m * i.size) ++ us) hh hrow hl hone r (p := off + m * i.size) (by omega)
          (by rw [lapp_eq]; exact denL_append.2 ⟨_, _, denL_take _ r.den, hx, rfl⟩)
          (by show (vs'.take (off + m * i.size) ++ us).length = off + (m + n) * i.size; simp; omega)
          (fun j hj => by
            have hj' : j < off + (m + n) * i.size := hj
            by_cases c1 : j < off + m * i.size
            · refine .inr ⟨.inl c1, by omega, ?_⟩
              rw [List.getElem?_append_left (by simp; omega), List.getElem?_take, if_pos c1]
            · refine .inl ⟨by omega, by omega, ?_⟩
              rw [List.getElem?_append_right (by simp; omega)]
              congr 1; simp; omega)
          (by show off + (m + n) * i.size ≤ l.cap * P.cellsOf e; rw [hco]; omega)
        exact fin r1 r2
      · rw [e3]
        have hk3' : n0 < off + m * i.size := ble_false.1 hk3
        obtain ⟨w', r1, r2⟩ := write_ok (cells' := cells) (n' := n0) (vs' := vs') hh hrow hl hone r (p := off + m * i.size) (by omega) r.den r.len
          (fun j hj => .inr ⟨.inl (by omega), hj, rfl⟩) (by show n0 ≤ l.cap * P.cellsOf e; rw [hco]; omega)
        refine fin r1 (r2.trans (Ext.less r2.holds (fun y oy hy => ?_) rfl))
        show (h.objs.set b _).get y = some oy
        rw [T.get_set]
        split
        · rename_i ey; subst ey; rw [hrow] at hy; exact hy
        · exact hy
  · rw [e1] at hne ⊢
    have hk' : least < skip + (m + n) := ble_false.1 hk
    obtain ⟨hsl, e2⟩ := whenL_ne hne
    rw [e2] at hne ⊢
    have hsl' : skip + m ≤ least := ble_iff.1 hsl
    have hcs : skip * i.size + (l.cap - skip) * i.size = l.cap * i.size := by rw [← Nat.add_mul]; congr 1; omega
    have hcsz : cc.size = (l.base + off) + (l.cap - skip) * i.size := by omega
    have hmle : m * i.size ≤ (l.cap - skip) * i.size := Nat.mul_le_mul_right _ (by omega)
    rcases pick_ne hne with ⟨hk3, e3⟩ | ⟨hk3, e3⟩
    · rw [e3] at hne ⊢
      obtain ⟨old, hold, e4⟩ := liftO_ne hne
      rw [e4]
      obtain ⟨olds, d1, d2, _⟩ := r.reads hold
      have hd : denL σ (lapp old xs) = some (olds ++ us) := by rw [lapp_eq]; exact denL_append.2 ⟨_, _, d1, hx, rfl⟩
      have hll : (olds ++ us).length = (m + n) * i.size := by
        have d2' : olds.length = m * i.size := d2
        simp [d2', hul, Nat.add_mul]
      by_cases hroom : m + n ≤ l.cap - skip
      · refine anew_ok hh ht hi hz hzs hbt hp hms hns hul hone hb ty hl hrow r.heap r.thaw hcsz hd hll (Nat.le_refl _) (fun j hj => ?_) hroom
        by_cases c1 : j < m * i.size
        · refine .inl ⟨c1, ?_⟩
          obtain ⟨q1, q2⟩ := ltake_some hold
          rw [ldrop_eq] at q1 q2
          have q1' : m * i.size ≤ (cells.drop off).length := q1
          simp at q1'
          have q3 := denL_take (Nat.mul m i.size) (denL_drop off r.den)
          rw [← q2, d1] at q3
          have q4 : olds = (vs'.drop off).take (m * i.size) := Option.some.inj q3
          rw [List.getElem?_append_left (by rw [show olds.length = m * i.size from d2]; exact c1), q4, List.getElem?_take, if_pos c1, List.getElem?_drop, ← r.cell _ (by omega)]
          congr 1; omega
        · refine .inr ⟨by omega, ?_⟩
          rw [List.getElem?_append_right (by rw [show olds.length = m * i.size from d2]; omega), show olds.length = m * i.size from d2]
      · refine grow_ok hh ht hi hz hzs hbt hp hms hns hul hb ty (olds := olds) d2 (fun d => ?_) (by omega) (Ext.del hh b) hd hll (Nat.le_refl _) (fun j hj => rfl)
        obtain ⟨cc', fz', vs'', r'⟩ := (Ext.drawn hh d).holds.rowAt hrow hl
        obtain ⟨olds', d1', _, d3'⟩ := r'.reads hold
        rw [d1] at d1'; cases d1'
        exact d3'
    · rw [e3]
      have hk3' : n0 < off + m * i.size := ble_false.1 hk3
      by_cases hroom : m + n ≤ l.cap - skip
      · exact anew_ok hh ht hi hz hzs hbt hp hms hns hul hone hb ty hl hrow r.heap r.thaw hcsz (denL_nil) rfl (Nat.zero_le _) (fun j hj => by omega) hroom
      · obtain ⟨olds, o1, o2, o3⟩ := loadCells_any (P := P) r.heap (o := l.base + off) (m := m * i.size) (by omega)
        exact grow_ok hh ht hi hz hzs hbt hp hms hns hul hb ty (base := some (l.addr off)) (c := l.cap - skip) (olds := olds) o1 o3 (by omega) (Ext.del hh b) (denL_nil) rfl (Nat.zero_le _) (fun j hj => by omega)
theorem append_ok (hh : Holds P N σ h w) (ht : P.underlying ti = some (.slice e)) (hi : P.info? e = some i) (hz : i.zero = some zv) (hzs : zv.cells.size = i.size) (hbt : i.bytes < 65536) (hp : 0 < i.size)
    (hms : m < 1048576) (hns : n < 1048576) (hx : denL σ xs = some us) (hul : us.length = n * i.size) (hb : Brings P w i.size zv tu x n us) (ty : TypeId)
    (hs : den σ s = some vs) (hm : slen s = some m) (hne : aAppend e i.size h s xs n ≠ []) :
    Plain P N σ h w (Builtin.append_ #[ti, tu] ty #[vs, x]) (aAppend e i.size h s xs n) := by
  cases n with
  | zero => exact append0_ok hh ht hi hz hzs hbt hs hm hul hb ty hne
  | succ n =>
    have e0 : aAppend e i.size h s xs (n + 1) = whenL (allOne xs) (s.onSl []
      (fun q => whenL (Nat.beq q.no 1) (newRowOpen h e xs (Nat.mul (n + 1) i.size) (n + 1)))
      (fun b off len cap => h.row b [] fun ty' cells n' o => cap.on
        (fun c => appK e i.size h b off len c xs (n + 1) cells)
        (fun skip => liftO o fun least => whenL (Nat.beq off (Nat.mul skip i.size)) (whenL (Nat.beq e ty') (appO e i.size h b off len skip least xs (n + 1) ty' cells n'))))
      (fun b off skip l sz' => h.row b [] fun ty' _ _ o => liftO o fun least => whenL (Nat.beq e ty') (whenL (Nat.beq i.size sz') (whenL (Nat.beq off (Nat.mul skip i.size)) (whenL (Nat.beq (Nat.add skip l) least) (newRowOpen (h.del b) e xs (Nat.mul (n + 1) i.size) (n + 1))))))) := rfl
    rw [e0] at hne ⊢
    obtain ⟨h1, e1⟩ := whenL_ne hne
    rw [e1] at hne ⊢
    have hone := allOne_den h1 hx
    rcases onSl_ne (x := s) hne with ⟨k, es, e2⟩ | ⟨b, o, l, c, es, e2⟩ | ⟨b, o, k, l, z, es, e2⟩
    · rw [e2] at hne ⊢
      obtain ⟨hk, e3⟩ := whenL_ne hne
      rw [e3]
      have := NK.no_iff.2.1.1 hk; subst this
      subst es
      have hm0 : 0 = m := Option.some.inj (show some 0 = some m from hm)
      subst hm0
      have ev := den_nil hs
      rw [ev]
      have := grow_ok (m := 0) (k := (n + 1) * i.size) hh ht hi hz hzs hbt hp hms hns hul hb ty (base := none) (c := 0) (olds := []) (by simp) (fun d => rfl) (by omega) (Ext.refl hh) hx hul (by rw [Nat.zero_add]; exact Nat.le_refl _) (fun j hj => rfl)
      rw [Nat.zero_add] at this
      exact this
    · rw [e2] at hne ⊢
      subst es
      have hlm : l = m := Option.some.inj (show some l = some m from hm)
      subst hlm
      obtain ⟨ty0, cells, n0, o0, hrow, e3⟩ := row_ne hne
      rw [e3] at hne ⊢
      obtain ⟨lc, hl, ev⟩ := den_slice hs
      rw [ev]
      rcases cap_on c _ _ with ⟨q, ec, e4⟩ | ⟨q, ec, e4⟩
      · rw [e4] at hne ⊢
        rw [ec]
        exact appendK_ok hh ht hi hz hzs hbt hp hms hns hx hul h1 hb ty hl hrow hne
      · rw [e4] at hne ⊢
        rw [ec]
        obtain ⟨least, ho, e5⟩ := liftO_ne hne
        rw [e5] at hne ⊢
        obtain ⟨h6, e6⟩ := whenL_ne hne
        rw [e6] at hne ⊢
        obtain ⟨h7, e7⟩ := whenL_ne hne
        rw [e7] at hne ⊢
        have ety : e = ty0 := beq_iff.1 h7
        subst ety
        subst ho
        exact appendO_ok hh ht hi hz hzs hbt hp hms hns hx hul h1 hb ty hl hrow (beq_iff.1 h6) hne
    · rw [e2] at hne ⊢
      subst es
      have hm0 : 0 = m := Option.some.inj (show some 0 = some m from hm)
      subst hm0
      obtain ⟨ty0, cells, n0, o0, hrow, e3⟩ := row_ne hne
      rw [e3] at hne ⊢
      obtain ⟨least, ho, e5⟩ := liftO_ne hne
      rw [e5] at hne ⊢
      subst ho
      obtain ⟨h6, e6⟩ := whenL_ne hne
      rw [e6] at hne ⊢
      have ety : e = ty0 := beq_iff.1 h6
      subst ety
      obtain ⟨h7, e7⟩ := whenL_ne hne
      rw [e7] at hne ⊢
      have esz : i.size = z := beq_iff.1 h7
      obtain ⟨h8, e8⟩ := whenL_ne hne
      rw [e8] at hne ⊢
      have eoff : o = k * i.size := beq_iff.1 h8
      obtain ⟨h9, e9⟩ := whenL_ne hne
      rw [e9]
      have elst : k + l = least := beq_iff.1 h9
      obtain ⟨lc, hl, ev⟩ := den_etail hs
      rw [ev]
      obtain ⟨cc, fz, vs', r⟩ := hh.rowAt hrow hl
      have hco := cellsOf_eq hi
      have hshape := r.shape
      simp only [hco] at hshape
      obtain ⟨s1, s2, s3, s4⟩ := hshape
      by_cases hroom : 0 + (n + 1) ≤ lc.cap - k - l
      · rw [if_neg (by omega)]
        have hcs : k * i.size + l * i.size + (lc.cap - k - l) * i.size = lc.cap * i.size := by rw [← Nat.add_mul, ← Nat.add_mul]; congr 1; omega
        have := anew_ok (m := 0) (k := (n + 1) * i.size) (p := lc.base + (o + l * z)) (cap := lc.cap - k - l) hh ht hi hz hzs hbt hp hms hns hul hone hb ty hl hrow r.heap r.thaw (by rw [← esz]; omega) hx hul (by rw [Nat.zero_add]; exact Nat.le_refl _)
          (fun j hj => .inr ⟨by omega, by simp⟩) hroom
        rw [Nat.zero_add] at this
        exact this
      · have := grow_ok (m := 0) (k := (n + 1) * i.size) hh ht hi hz hzs hbt hp hms hns hul hb ty (base := some (lc.addr (if lc.cap - k = l then o else o + l * z))) (c := lc.cap - k - l) (olds := []) (by simp) (fun d => by
            simp only [Builtin.firstCells, Nat.zero_mul]; rfl) (by omega) (Ext.del hh b) hx hul (by rw [Nat.zero_add]; exact Nat.le_refl _) (fun j hj => rfl)
        rw [Nat.zero_add] at this
        exact this
end
end
end Go.Proofs.YtgemonlknehegaaGreatDoor.AI
namespace Go.Proofs.YtgemonlknehegaaGreatDoor.AI
open Go
set_option linter.unusedVariables false
set_option linter.unusedSimpArgs false
section
variable {P : Program} {N : Nat} {σ : Sig} {h : H} {w : World} {t : Tm} {a : Act}
theorem onStr_ne {β : Type} {x : AV} {f : List UInt8 → List β} (h : x.onStr [] f ≠ []) : ∃ s, x = .str s ∧ x.onStr [] f = f s := by
  cases x with
  | str s => exact ⟨s, rfl, rfl⟩
  | _ => exact absurd rfl h
theorem brings_str {sz : Nat} {zv : Value} {tu : TypeId} (hu : P.underlying tu = some .string) (q : List UInt8) :
    Brings P w sz zv tu (.string ⟨q.toArray⟩) q.length (q.map fun b => Value.int .u8 (Int.ofNat b.toNat)) := by
  refine .inr ⟨.inl hu, ?_, fun d => ?_⟩
  · show (pure (ByteArray.size ⟨q.toArray⟩) : Sem Nat) = _
    rw [str_size]; rfl
  · have hex : ((⟨q.toArray⟩ : ByteArray).extract 0 q.length) = ⟨q.toArray⟩ := by
      have : q.length = (⟨q.toArray⟩ : ByteArray).size := (str_size q).symm
      rw [this]; simp
    simp only [Builtin.firstCells, hex, Sem.run_pure]
    simp
theorem firstCells_drawn {sz n : Nat} {s : AV} {cs : List AV} {us : List Value} {v : Value} {len : Nat} (hh : Holds P N σ h w) (hc : hcells h sz n s = some cs) (hd : den σ s = some v) (hus : denL σ cs = some us) (d : Nat) :
    (∃ q c, v = .slice q len c) → (Builtin.firstCells sz n v).run P { w with drawn := d } = .ok us.toArray { w with drawn := d } := by
  rintro ⟨q, c, ev⟩
  obtain ⟨us', h1, h2, h3⟩ := hcells_ok (Ext.drawn hh d).holds hc hd
  rw [hus] at h1; cases h1
  rcases h3 with ⟨e1, e2⟩ | ⟨q', l', c', e1, e2⟩
  · subst e2
    have : us = [] := List.eq_nil_of_length_eq_zero (by omega)
    rw [e1, this]; rfl
  · rw [e1]; exact e2
theorem compileAppend_ok (hh : Holds P N σ h w) (ht : TR σ t a.tmps) {ti tu e : TypeId} {ud : TypeDesc} (hti : P.underlying ti = some (.slice e)) (htu : P.underlying tu = some ud) {s x : Operand} (hs : okOpd s = true) (hx : okOpd x = true)
    {f : Rec → Tm → H → List VR} (hc : compileAppend P e ud s x = .heavy f) (rec : Rec) (hne : f rec t h ≠ []) (ty : TypeId) :
    Plain P N σ h w (Builtin.append_ #[ti, tu] ty #[a.eval s, a.eval x]) (f rec t h) := by
  have ds := opd_ok (a := a) ht hs
  have dx := opd_ok (a := a) ht hx
  unfold compileAppend at hc
  split at hc
  · rename_i i z hi hz
    split at hc
    · rename_i b1 b2 b3
      have hp : 0 < i.size := by have := beq_false.1 b1; omega
      have hbt : i.bytes < 65536 := blt_iff.1 b2
      obtain ⟨i', zv, hi', hzv, dz⟩ := zeroOf_some hz σ
      rw [hi] at hi'; cases hi'
      obtain ⟨zs, d1, d2⟩ := den_cells dz
      have hzs : zv.cells.size = i.size := by
        have := beq_iff.1 b3
        rw [llen_eq] at this
        rw [d2, List.size_toArray, denL_length d1, this]
      split at hc
      · rename_i k
        cases hc
        obtain ⟨n, hn, e1⟩ := liftO_ne hne
        simp only [e1] at hne ⊢
        obtain ⟨m, hm, e2⟩ := liftO_ne hne
        simp only [e2] at hne ⊢
        obtain ⟨h3, e3⟩ := whenL_ne hne
        simp only [e3] at hne ⊢
        obtain ⟨h4, e4⟩ := whenL_ne hne
        simp only [e4] at hne ⊢
        obtain ⟨q, eq⟩ := den_natOf hn dx
        have hd := denL_reps d1 n
        refine append_ok (us := (List.replicate n zs).flatten) hh hti hi hzv hzs hbt hp (blt_iff.1 h4) (blt_iff.1 h3) hd ?_ (.inl ⟨k, q, htu, eq, by rw [d2]⟩) ty ds hm hne
        rw [← hzs, d2]; simp
      · cases hc
        obtain ⟨q, eq, e1⟩ := onStr_ne hne
        simp only [e1] at hne ⊢
        obtain ⟨m, hm, e2⟩ := liftO_ne hne
        simp only [e2] at hne ⊢
        simp only [force_eq] at hne ⊢
        obtain ⟨h5, e5⟩ := whenL_ne hne
        simp only [e5] at hne ⊢
        obtain ⟨h3, e3⟩ := whenL_ne hne
        simp only [e3] at hne ⊢
        obtain ⟨h4, e4⟩ := whenL_ne hne
        simp only [e4] at hne ⊢
        rw [eq] at dx
        rw [llen_eq] at hne h3 ⊢
        rw [den_str dx]
        have hs1 : i.size = 1 := beq_iff.1 h5
        exact append_ok hh hti hi hzv hzs hbt hp (blt_iff.1 h4) (blt_iff.1 h3) (bytesCells_den σ q) (by rw [hs1]; simp) (brings_str htu q) ty ds hm hne
      · rename_i e'
        cases hc
        obtain ⟨n, hn, e1⟩ := liftO_ne hne
        simp only [e1] at hne ⊢
        obtain ⟨m, hm, e2⟩ := liftO_ne hne
        simp only [e2] at hne ⊢
        obtain ⟨h3, e3⟩ := whenL_ne hne
        simp only [e3] at hne ⊢
        obtain ⟨h4, e4⟩ := whenL_ne hne
        simp only [e4] at hne ⊢
        obtain ⟨cs, hcs, e5⟩ := liftO_ne hne
        simp only [e5] at hne ⊢
        obtain ⟨us, u1, u2, u3⟩ := hcells_ok hh hcs dx
        obtain ⟨q, c, ev⟩ := slen_den hn dx
        refine append_ok hh hti hi hzv hzs hbt hp (blt_iff.1 h4) (blt_iff.1 h3) u1 u2 (.inr ⟨.inr ⟨e', htu⟩, by rw [ev]; rfl, fun d => firstCells_drawn hh hcs dx u1 d ⟨q, c, ev⟩⟩) ty ds hm hne
      · cases hc
    · cases hc
  · cases hc
theorem hputS_none {h' : H} {s : AV} {xs : List AV} (hp : hputS h s xs = some h') (h0 : xs = []) : h' = h := by
  subst h0
  exact (Option.some.inj (show some h = some h' from hp)).symm
/-- cells laid over a slice: any slice -/
theorem over_ok (hh : Holds P N σ h w) {s : AV} {xs : List AV} {h' : H} (hp : hputS h s xs = some h') {us : List Value} (hx : denL σ xs = some us) {base : Option Addr} {m c : Nat} (hs : den σ s = some (.slice base m c))
    (hnone : base = none → us = []) : ∃ w', (match base with | some q => storeCells q us 0 | none => (pure () : Sem Unit)).run P w = .ok () w' ∧ Ext P N σ h w σ h' w' := by
  cases base with
  | none =>
    have h0 := hnone rfl
    have h1 : xs = [] := by
      have := denL_length hx
      rw [h0] at this
      exact List.eq_nil_of_length_eq_zero (by simpa using this.symm)
    rw [hputS_none hp h1]
    exact ⟨w, rfl, Ext.refl hh⟩
  | some q => exact hputS_ok hh hp hx hs
theorem slen_base {s : AV} {n : Nat} (h : slen s = some n) {base : Option Addr} {m c : Nat} (hd : den σ s = some (.slice base m c)) : m = n ∧ (base = none → n = 0) := by
  obtain ⟨q, c', e⟩ := slen_den h hd
  cases e
  refine ⟨rfl, fun hb => ?_⟩
  subst hb
  rcases slen_some h with ⟨_, e⟩ | ⟨b, o, c, e⟩ | ⟨b, o, k, l, z, _, e⟩
  · exact e
  · subst e
    obtain ⟨l, _, e2⟩ := den_slice hd
    cases e2
  · exact e
theorem compileCopy_ok (hh : Holds P N σ h w) (ht : TR σ t a.tmps) {ti tu e : TypeId} {ud : TypeDesc} (hti : P.underlying ti = some (.slice e)) (htu : P.underlying tu = some ud) {d x : Operand} (hd : okOpd d = true) (hx : okOpd x = true)
    {f : Rec → Tm → H → List VR} (hc : compileCopy P e ud d x = .heavy f) (rec : Rec) (hne : f rec t h ≠ []) (ty : TypeId) :
    Plain P N σ h w (Builtin.copy_ #[ti, tu] ty #[a.eval d, a.eval x]) (f rec t h) := by
  have dd := opd_ok (a := a) ht hd
  have dx := opd_ok (a := a) ht hx
  unfold compileCopy at hc
  split at hc
  · rename_i sz hs
    obtain ⟨i, hi, rfl⟩ := sizeOfT_some hs
    split at hc
    · cases hc
      obtain ⟨m, hm, e1⟩ := liftO_ne hne
      simp only [e1] at hne ⊢
      obtain ⟨q, eq, e2⟩ := onStr_ne hne
      simp only [e2] at hne ⊢
      simp only [force_eq, nmin_eq, llen_eq] at hne ⊢
      obtain ⟨r, hr, e3⟩ := liftO_ne hne
      simp only [e3] at hne ⊢
      obtain ⟨h', hput', e4⟩ := liftO_ne hne
      simp only [e4]
      obtain ⟨r1, rfl⟩ := ltake_some hr
      rw [eq] at dx
      obtain ⟨base, c, ed⟩ := slen_den hm dd
      rw [ed] at dd
      obtain ⟨_, hb0⟩ := slen_base hm dd
      obtain ⟨w', s1, s2⟩ := over_ok hh hput' (bytesCells_den σ _) dd (fun hb => by rw [hb0 hb]; simp)
      refine ⟨_, List.mem_singleton.2 rfl, σ, w', .int .i64 (Int.ofNat (Nat.min q.length m)), ?_, rfl, s2⟩
      rw [ed, den_str dx]
      have hex : ((⟨q.toArray⟩ : ByteArray).extract 0 (min q.length m)).data.map (fun b => Value.int .u8 (b.toNat : Int)) = ((q.take (min q.length m)).map fun b => Value.int .u8 (Int.ofNat b.toNat)).toArray := by
        apply Array.ext'
        rw [ByteArray.data_extract]
        simp
      cases base with
      | none =>
        have e0 := hb0 rfl
        subst e0
        have s1' : w = w' := by simpa using s1
        subst s1'
        simp [Builtin.copy_, run_underlying hti, sizeOf, typeInfo, hi, Builtin.lenOf, str_size, Builtin.firstCells, goInt]
      | some q' =>
        simp only [Builtin.copy_]
        simp [run_underlying hti, sizeOf, typeInfo, hi, Builtin.lenOf, str_size, Builtin.firstCells, goInt]
        have s1' : (storeCells q' (List.take (q.length.min m) (List.map (fun b => Value.int .u8 (Int.ofNat b.toNat)) q)) 0).run P w = .ok () w' := by
          have h9 : (storeCells q' (List.map (fun b => Value.int .u8 (Int.ofNat b.toNat)) (List.take (min q.length m) q)) 0).run P w = .ok () w' := s1
          rw [List.map_take] at h9; exact h9
        have s2' : (storeCells q' (List.take (q.length.min m) (List.map (fun b => Value.int .u8 (b.toNat : Int)) q)) 0).run P w = .ok () w' := s1'
        rw [s2']; rfl
    · cases hc
      obtain ⟨m, hm, e1⟩ := liftO_ne hne
      simp only [e1] at hne ⊢
      obtain ⟨k, hk, e2⟩ := liftO_ne hne
      simp only [e2] at hne ⊢
      simp only [force_eq, nmin_eq] at hne ⊢
      obtain ⟨cs, hcs, e3⟩ := liftO_ne hne
      simp only [e3] at hne ⊢
      obtain ⟨h', hput', e4⟩ := liftO_ne hne
      simp only [e4]
      obtain ⟨us, u1, u2, u3⟩ := hcells_ok hh hcs dx
      obtain ⟨qx, cx, ex⟩ := slen_den hk dx
      obtain ⟨base, c, ed⟩ := slen_den hm dd
      rw [ed] at dd
      obtain ⟨_, hb0⟩ := slen_base hm dd
      have hfc := firstCells_drawn hh hcs dx u1 w.drawn ⟨qx, cx, ex⟩
      obtain ⟨w', s1, s2⟩ := over_ok hh hput' u1 dd (fun hb => List.eq_nil_of_length_eq_zero (by rw [u2, hb0 hb]; simp))
      refine ⟨_, List.mem_singleton.2 rfl, σ, w', .int .i64 (Int.ofNat (min k m)), ?_, rfl, s2⟩
      rw [ex] at hfc ⊢
      rw [ed]
      cases base with
      | none =>
        have s1' : w = w' := by simpa using s1
        subst s1'
        simp [Builtin.copy_, run_underlying hti, sizeOf, typeInfo, hi, Builtin.lenOf, goInt, hfc]
      | some q' =>
        have s1' : (storeCells q' us 0).run P w = .ok () w' := s1
        simp [Builtin.copy_, run_underlying hti, sizeOf, typeInfo, hi, Builtin.lenOf, goInt, hfc, s1']
    · cases hc
  · cases hc
theorem zeroCells_eq (zs : Array Value) (n : Nat) : (Builtin.zeroCells zs n).toList = (List.replicate n zs.toList).flatten := by
  unfold Builtin.zeroCells
  rw [zero_range]
theorem clear_ok (hh : Holds P N σ h w) {ti e : TypeId} (hti : P.underlying ti = some (.slice e)) {z : AV} (hz : zeroOf P e = some z) {x : AV} {vx : Value} (dx : den σ x = some vx) {n : Nat} (hn : slen x = some n) {h' : H}
    (hp : hputS h x (reps z.cells n) = some h') (ty : TypeId) : ∃ w', (Builtin.clear_ #[ti] ty #[vx]).run P w = .ok (.tuple #[]) w' ∧ Ext P N σ h w σ h' w' := by
  obtain ⟨i, zv, hi, hzv, dz⟩ := zeroOf_some hz σ
  obtain ⟨zs, d1, d2⟩ := den_cells dz
  have hd := denL_reps d1 n
  obtain ⟨base, c, ev⟩ := slen_den hn dx
  rw [ev] at dx
  obtain ⟨_, hb0⟩ := slen_base hn dx
  obtain ⟨w', s1, s2⟩ := over_ok hh hp hd dx (fun hb => by rw [hb0 hb]; simp)
  refine ⟨w', ?_, s2⟩
  rw [ev]
  cases base with
  | none =>
    have s1' : w = w' := by simpa using s1
    subst s1'
    simp [Builtin.clear_, run_underlying hti]
  | some q =>
    cases n with
    | zero =>
      have s1' : w = w' := by simpa [storeCells] using s1
      subst s1'
      simp [Builtin.clear_, run_underlying hti]
    | succ n =>
      have s1' : (storeCells q (List.replicate (n + 1) zs).flatten 0).run P w = .ok () w' := s1
      have hzl : zv.cells.toList = zs := by rw [d2]
      simp [Builtin.clear_, run_underlying hti, run_zeroI hi hzv, zeroCells_eq, hzl, s1']
end
end Go.Proofs.YtgemonlknehegaaGreatDoor.AI
namespace Go.Proofs.YtgemonlknehegaaGreatDoor.AI
open Go
set_option linter.unusedVariables false
set_option linter.unusedSimpArgs false
section
variable {P : Program} {N : Nat} {σ : Sig} {h : H} {w : World} {t : Tm} {a : Act}
/-- .. that gives nothing -/
def PlainU (P : Program) (N : Nat) (σ : Sig) (h : H) (w : World) (s : Sem Unit) (rs : List VR) : Prop :=
  ∃ r ∈ rs, r.v = AV.undef ∧ ∃ σ' w', s.run P w = .ok () w' ∧ Ext P N σ h w σ' r.h w'
/-! ### Keys, bit by bit -/
theorem intEq_iff {a b : Int} (h : intEq a b = true) : a = b := by
  unfold intEq nat2 at h
  cases a <;> cases b
  · simp at h; rw [h]
  · exact of_decide_eq_true h
  · exact of_decide_eq_true h
  · exact of_decide_eq_true h
theorem flat1_ok {x y : AV} (h : flat1 x y = true) {vx vy : Value} (hx : den σ x = some vx) (hy : den σ y = some vy) (n : Nat) : Instr.sameBits n vx vy = true := by
  cases x <;> try (cases h; done)
  case bool b =>
    cases y <;> try (cases h; done)
    rename_i b'
    have h' : beqv b b' = true := h
    rw [beqv_iff] at h'
    rw [den_bool hx, den_bool hy]
    cases n <;> simpa [Instr.sameBits] using h'
  case int k a =>
    cases y <;> try (cases h; done)
    rename_i k' b
    have h' : pick (ikeq k k') (intEq a b) false = true := h
    cases hk : ikeq k k' with
    | false => rw [hk] at h'; cases h'
    | true =>
      rw [hk] at h'
      have e1 := ikeq_iff.1 hk
      have e2 := intEq_iff h'
      rw [den_int hx, den_int hy, e1, e2]
      cases n <;> simp [Instr.sameBits]
  case str s =>
    cases y <;> try (cases h; done)
    rename_i s'
    have h' : beqB s s' = true := h
    rw [beqB_eq] at h'
    have : s = s' := by simpa using h'
    rw [den_str hx, den_str hy, this]
    have hb : ((⟨s'.toArray⟩ : ByteArray) == ⟨s'.toArray⟩) = true := by
      show (s'.toArray == s'.toArray) = true
      simp
    cases n <;> simpa [Instr.sameBits] using hb
theorem flatL_ok : ∀ {l m : List AV} (h : flatL l m = true) {vs us : List Value} (hx : denL σ l = some vs) (hy : denL σ m = some us) (n : Nat), vs.length = us.length ∧ (vs.zip us).all (fun p => Instr.sameBits n p.1 p.2) = true := by
  intro l
  induction l with
  | nil =>
    intro m h vs us hx hy n
    have : m = [] := isNil_eq.1 h
    subst this
    rw [denL_nil] at hx hy; cases hx; cases hy
    exact ⟨rfl, rfl⟩
  | cons x l ih =>
    intro m h vs us hx hy n
    cases m with
    | nil => cases h
    | cons y m =>
      have h' : Bool.rec false (flatL l m) (flat1 x y) = true := h
      cases hf : flat1 x y with
      | false => rw [hf] at h'; cases h'
      | true =>
        rw [hf] at h'
        obtain ⟨v, r, hv, hr, rfl⟩ := denL_cons.1 hx
        obtain ⟨u, r', hu, hr', rfl⟩ := denL_cons.1 hy
        obtain ⟨i1, i2⟩ := ih h' hr hr' n
        exact ⟨by simp [i1], by simp only [List.zip_cons_cons, List.all_cons, flat1_ok hf hv hu n, i2, Bool.and_self]⟩
theorem keySame_ok {x y : AV} (h : keySame x y = true) {vx vy : Value} (hx : den σ x = some vx) (hy : den σ y = some vy) : Instr.sameBits 10000 vx vy = true := by
  by_cases hag : ∃ l, x = .agg l
  · obtain ⟨l, rfl⟩ := hag
    cases y <;> try (cases h; done)
    rename_i m
    have h' : flatL l m = true := h
    cases hl : denL σ l with
    | none => simp [den, hl] at hx
    | some vs => cases hm : denL σ m with
      | none => simp [den, hm] at hy
      | some us =>
        simp [den, hl] at hx; simp [den, hm] at hy
        subst hx; subst hy
        obtain ⟨i1, i2⟩ := flatL_ok h' hl hm 9999
        show Instr.sameBits (9999 + 1) _ _ = true
        unfold Instr.sameBits
        simp only [List.size_toArray, i1, beq_self_eq_true, Bool.true_and]
        exact i2
  · have h' : flat1 x y = true := by
      cases x <;> first | exact h | exact absurd ⟨_, rfl⟩ hag
    exact flat1_ok h' hx hy _
theorem run_stays {old new : Value} (h : Instr.sameBits 10000 old new = true) (w : World) : (Instr.keyThatStays old new).run P w = .ok new w := by
  simp [Instr.keyThatStays, h]
/-! ### Entries -/
theorem ML.modify {f : ME → ME} {g : MapEntry → MapEntry} : ∀ {es : List ME} {cs : List MapEntry} (hm : ML σ es cs) (i : Nat), (∀ e c, es[i]? = some e → MERep σ e c → MERep σ (f e) (g c)) → ML σ (lmodify f i es) (cs.modify i g) := by
  intro es cs hm
  induction hm with
  | nil => intro i _; cases i <;> exact .nil
  | cons he hes ih =>
    intro i hfg
    cases i with
    | zero => exact .cons (hfg _ _ rfl he) hes
    | succ i => exact .cons he (ih i fun e c h => hfg e c (by simpa using h))
theorem ML.push {es : List ME} {cs : List MapEntry} (hm : ML σ es cs) {e : ME} {c : MapEntry} (h : MERep σ e c) : ML σ (lapp es [e]) (cs ++ [c]) := by
  induction hm with
  | nil => exact .cons h .nil
  | cons he hes ih => exact .cons he ih
theorem ML.erase : ∀ {es : List ME} {cs : List MapEntry} (hm : ML σ es cs) (i : Nat), ML σ (lerase i es) (cs.eraseIdx i) := by
  intro es cs hm
  induction hm with
  | nil => intro i; exact .nil
  | cons he hes ih =>
    intro i
    cases i with
    | zero => exact hes
    | succ i => exact .cons he (ih i)
theorem ML.get {es : List ME} {cs : List MapEntry} (hm : ML σ es cs) {i : Nat} {e : ME} (h : es[i]? = some e) : ∃ c, cs[i]? = some c ∧ MERep σ e c := by
  induction hm generalizing i with
  | nil => simp at h
  | cons he hes ih =>
    cases i with
    | zero => simp at h; subst h; exact ⟨_, rfl, he⟩
    | succ i => simp at h; obtain ⟨c, h1, h2⟩ := ih h; exact ⟨c, by simpa using h1, h2⟩
theorem setMap_ok (hh : Holds P N σ h w) {b : Pos} {es : List ME} {clock : Nat} (hb : h.objs.get b = some (.map es clock)) {l : Loc} (hl : σ b = some l) {cs : Array MapEntry} (hw : w.heap[l.blk]? = some (.map cs clock))
    {es' : List ME} {cs' : Array MapEntry} {clock' : Nat} (hm : ML σ es' cs'.toList) : ∃ w', (setObj l.blk (.map cs' clock')).run P w = .ok () w' ∧ Ext P N σ h w σ (h.set b (.map es' clock')) w' := by
  refine ⟨_, Go.MapKept.run_setObj_map (P := P) (.map cs' clock') hw, Ext.upd hh hb hl ⟨cs', rfl, hm⟩ (fun k => ?_) (by simp) rfl rfl rfl⟩
  have hlt : l.blk < w.heap.size := (Array.getElem?_eq_some_iff.1 hw).1
  show (w.heap.setIfInBounds l.blk _)[k]? = _
  by_cases e : k = l.blk
  · subst e; simp [hlt]
  · rw [if_neg e, Array.getElem?_setIfInBounds_ne (fun e' => e e'.symm)]
theorem map_ne {β : Type} {b : Pos} {k : List ME → Nat → List β} (hr : h.map b [] k ≠ []) : ∃ es c, h.objs.get b = some (.map es c) ∧ h.map b [] k = k es c := by
  unfold H.map at hr ⊢
  cases hg : h.objs.get b with
  | none => rw [hg] at hr; exact absurd rfl hr
  | some o =>
    rw [hg] at hr
    cases o with
    | map es c => exact ⟨es, c, rfl, rfl⟩
    | row _ _ _ _ => exact absurd rfl hr
    | iter _ _ _ _ => exact absurd rfl hr
    | loop _ _ _ _ _ _ _ _ => exact absurd rfl hr
    | dfr => exact absurd rfl hr
theorem onMap_ne {β : Type} {x : AV} {f : Pos → List β} (h : x.onMap [] f ≠ []) : ∃ b, x = .map b ∧ x.onMap [] f = f b := by
  cases x with
  | map s => exact ⟨s, rfl, rfl⟩
  | _ => exact absurd rfl h
theorem mapTurn_ne {q : EqK} {m k : AV} {fnd : Pos → List ME → Nat → Nat → ME → List VR} {nt : Pos → List ME → Nat → List VR} (hne : mapTurn q h m k fnd nt ≠ []) :
    okK 4 q k = true ∧ ∃ b es clock r, m = .map b ∧ h.objs.get b = some (.map es clock) ∧ afind (fun v => aeq 5 q k v) es 0 = some r ∧ mapTurn q h m k fnd nt = (match r with | some (i, e) => fnd b es clock i e | none => nt b es clock) := by
  unfold mapTurn at hne ⊢
  rcases pick_ne hne with ⟨hk, e1⟩ | ⟨_, e1⟩
  · rw [e1] at hne ⊢
    obtain ⟨b, eb, e2⟩ := onMap_ne hne
    rw [e2] at hne ⊢
    obtain ⟨es, c, hb, e3⟩ := map_ne hne
    rw [e3] at hne ⊢
    obtain ⟨r, hr, e4⟩ := liftO_ne hne
    exact ⟨hk, b, es, c, r, eb, hb, hr, e4⟩
  · rw [e1] at hne; exact absurd rfl hne
theorem modify_toList {α : Type} (cs : Array α) (i : Nat) (g : α → α) : (cs.modify i g).toList = cs.toList.modify i g := by simp
theorem erase_toList {α : Type} (cs : Array α) (i : Nat) : (cs.eraseIdxIfInBounds i).toList = cs.toList.eraseIdx i := by
  unfold Array.eraseIdxIfInBounds
  split
  · simp
  · rename_i hi
    rw [List.eraseIdx_of_length_le (by simpa using hi)]
theorem mapPut_ok (hh : Holds P N σ h w) {ti kt e : TypeId} {q : EqK} (hu : P.underlying ti = some (.map kt e)) (hq : compileEq P 5 kt = some q) {m k x : AV} {vm vk vx : Value} (dm : den σ m = some vm) (dk : den σ k = some vk) (dx : den σ x = some vx)
    (hne : mapPut q h m k x ≠ []) : PlainU P N σ h w (Instr.mapUpdate ti vm vk vx) (mapPut q h m k x) := by
  unfold mapPut at hne ⊢
  obtain ⟨hok, b, es, clock, r, em, hb, hr, e1⟩ := mapTurn_ne hne
  rw [e1] at hne ⊢
  subst em
  obtain ⟨l, hl, rfl⟩ := den_map dm
  obtain ⟨cs, hcs, hml⟩ := hh.mapAt hb hl
  obtain ⟨rc, hf, hrun⟩ := findKey_ok hq dk hml hr
  have hg : (getObj l.blk).run P w = .ok (.map cs clock) w := run_getObj hcs (by simp)
  have hck : ∀ em, (Instr.checkKey em 10000 kt vk).run P w = .ok () w := fun em => okKey_ok 5 10000 4 kt q hq (by omega) k vk hok dk em w
  cases r with
  | none =>
    cases rc with
    | some p => exact hf.elim
    | none =>
      obtain ⟨w', s1, s2⟩ := setMap_ok (es' := lapp es [⟨k, x, clock⟩]) (cs' := cs.push { key := vk, val := vx, born := clock }) (clock' := clock + 1) hh hb hl hcs (by rw [Array.toList_push]; exact hml.push ⟨dk, dx, rfl⟩)
      refine ⟨_, List.mem_singleton.2 rfl, rfl, σ, w', ?_, s2⟩
      simp only [Instr.mapUpdate, Sem.run_bind, run_underlying hu, Result.andThen_ok, hg, hck, hrun, Option.map_none, s1]
  | some p =>
    obtain ⟨j, en⟩ := p
    cases rc with
    | none => exact hf.elim
    | some p' =>
      obtain ⟨j', c⟩ := p'
      obtain ⟨f1, f2, f3, f4, f5⟩ := hf
      subst f1
      obtain ⟨hks, e2⟩ := whenL_ne hne
      simp only [e2]
      have f4' : cs[j']? = some c := by simpa using f4
      obtain ⟨w', s1, s2⟩ := setMap_ok (es' := lmodify (fun e => ⟨k, x, e.born⟩) j' es) (cs' := cs.modify j' fun e => { e with key := vk, val := vx }) (clock' := clock) hh hb hl hcs (by
        rw [modify_toList]; exact hml.modify _ fun e' c' _ hr => ⟨dk, dx, hr.2.2⟩)
      refine ⟨_, List.mem_singleton.2 rfl, rfl, σ, w', ?_, s2⟩
      have hst : (Instr.keyThatStays (((cs[j']?).map (·.key)).getD vk) vk).run P w = .ok vk w := run_stays (by rw [f4']; exact keySame_ok hks f2.1 dk) w
      simp only [Instr.mapUpdate, Sem.run_bind, run_underlying hu, Result.andThen_ok, hg, hck, hrun, Option.map_some, hst, s1]
theorem delete_ok (hh : Holds P N σ h w) {ti kt e : TypeId} {q : EqK} (hu : P.underlying ti = some (.map kt e)) (hq : compileEq P 5 kt = some q) {m k : AV} {vm vk : Value} (dm : den σ m = some vm) (dk : den σ k = some vk) {rs : List VR}
    (hrs : mapTurn q h m k (fun b es clock i _ => [⟨.tuple [], h.set b (.map (lerase i es) clock)⟩]) (fun _ _ _ => [⟨.tuple [], h⟩]) = rs) (hne : rs ≠ []) (ats : Array TypeId) (hat : ats[0]? = some ti) (ty : TypeId) : Plain P N σ h w (Builtin.delete_ ats ty #[vm, vk]) rs := by
  subst hrs
  obtain ⟨hok, b, es, clock, r, em, hb, hr, e1⟩ := mapTurn_ne hne
  rw [e1] at hne ⊢
  subst em
  obtain ⟨l, hl, rfl⟩ := den_map dm
  obtain ⟨cs, hcs, hml⟩ := hh.mapAt hb hl
  obtain ⟨rc, hf, hrun⟩ := findKey_ok hq dk hml hr
  have hg : (getObj l.blk).run P w = .ok (.map cs clock) w := run_getObj hcs (by simp)
  have hck : ∀ em, (Instr.checkKey em 10000 kt vk).run P w = .ok () w := fun em => okKey_ok 5 10000 4 kt q hq (by omega) k vk hok dk em w
  cases r with
  | none =>
    cases rc with
    | some p => exact hf.elim
    | none =>
      obtain ⟨w', s1, s2⟩ := setMap_ok (es' := es) (cs' := cs) (clock' := clock) hh hb hl hcs hml
      have s3 : Ext P N σ h w σ h w' := s2.trans (Ext.less s2.holds (fun y oy hy => by
        show (h.objs.set b _).get y = some oy
        rw [T.get_set]
        split
        · rename_i ey; subst ey; rw [hb] at hy; exact hy
        · exact hy) rfl)
      refine ⟨_, List.mem_singleton.2 rfl, σ, w', .tuple #[], ?_, by simp [den, denL], s3⟩
      simp [Builtin.delete_, hat, run_underlying hu, hg, hck, hrun, s1]
  | some p =>
    obtain ⟨j, en⟩ := p
    cases rc with
    | none => exact hf.elim
    | some p' =>
      obtain ⟨j', c⟩ := p'
      obtain ⟨f1, f2, f3, f4, f5⟩ := hf
      subst f1
      obtain ⟨w', s1, s2⟩ := setMap_ok (es' := lerase j' es) (cs' := cs.eraseIdxIfInBounds j') (clock' := clock) hh hb hl hcs (by rw [erase_toList]; exact hml.erase _)
      refine ⟨_, List.mem_singleton.2 rfl, σ, w', .tuple #[], ?_, by simp [den, denL], s2⟩
      simp [Builtin.delete_, hat, run_underlying hu, hg, hck, hrun, s1]
end
end Go.Proofs.YtgemonlknehegaaGreatDoor.AI
namespace Go.Proofs.YtgemonlknehegaaGreatDoor.AI
open Go
set_option linter.unusedVariables false
set_option linter.unusedSimpArgs false
section
variable {P : Program} {N : Nat} {σ : Sig} {h : H} {w : World} {t : Tm} {a : Act}
theorem mapEntry_ok (hh : Holds P N σ h w) {ti kt e : TypeId} {q : EqK} (hu : P.underlying ti = some (.map kt e)) (hq : compileEq P 5 kt = some q) {z : AV} (hz : zeroOf P e = some z) {m k : AV} {vm vk : Value} (dm : den σ m = some vm) (dk : den σ k = some vk) {rs : List VR}
    (hrs : mapTurn q h m k
        (fun b es clock i en => whenL (keySame en.k k) [⟨.tuple [en.v, .int .i64 (Int.ofNat en.born)], h.set b (.map (lmodify (fun e => ⟨k, e.v, e.born⟩) i es) clock)⟩])
        (fun b es clock => [⟨.tuple [z, .int .i64 (Int.ofNat clock)], h.set b (.map (lapp es [⟨k, z, clock⟩]) (Nat.succ clock))⟩]) = rs) (hne : rs ≠ []) : Plain P N σ h w (Instr.mapEntry ti vm vk) rs := by
  subst hrs
  obtain ⟨hok, b, es, clock, r, em, hb, hr, e1⟩ := mapTurn_ne hne
  rw [e1] at hne ⊢
  subst em
  obtain ⟨l, hl, rfl⟩ := den_map dm
  obtain ⟨cs, hcs, hml⟩ := hh.mapAt hb hl
  obtain ⟨rc, hf, hrun⟩ := findKey_ok hq dk hml hr
  obtain ⟨zi, zv, hi, hzv, dz⟩ := zeroOf_some hz σ
  have hg : (getObj l.blk).run P w = .ok (.map cs clock) w := run_getObj hcs (by simp)
  have hck : ∀ em, (Instr.checkKey em 10000 kt vk).run P w = .ok () w := fun em => okKey_ok 5 10000 4 kt q hq (by omega) k vk hok dk em w
  cases r with
  | none =>
    cases rc with
    | some p => exact hf.elim
    | none =>
      obtain ⟨w', s1, s2⟩ := setMap_ok (es' := lapp es [⟨k, z, clock⟩]) (cs' := cs.push { key := vk, val := zv, born := clock }) (clock' := clock + 1) hh hb hl hcs (by rw [Array.toList_push]; exact hml.push ⟨dk, dz, rfl⟩)
      refine ⟨_, List.mem_singleton.2 rfl, σ, w', .tuple #[zv, .int .i64 (Int.ofNat clock)], ?_, by simp [den, denL, dz], s2⟩
      simp only [Instr.mapEntry, Sem.run_bind, run_underlying hu, Result.andThen_ok, hg, hck, hrun, Option.map_none, run_zeroI hi hzv, s1, Sem.run_pure]
      rfl
  | some p =>
    obtain ⟨j, en⟩ := p
    cases rc with
    | none => exact hf.elim
    | some p' =>
      obtain ⟨j', c⟩ := p'
      obtain ⟨f1, f2, f3, f4, f5⟩ := hf
      subst f1
      obtain ⟨hks, e2⟩ := whenL_ne hne
      simp only [e2]
      have f4' : cs[j']? = some c := by simpa using f4
      obtain ⟨w', s1, s2⟩ := setMap_ok (es' := lmodify (fun e => ⟨k, e.v, e.born⟩) j' es) (cs' := cs.modify j' fun e => { e with key := vk }) (clock' := clock) hh hb hl hcs (by
        rw [modify_toList]; exact hml.modify _ fun e' c' _ hr => ⟨dk, hr.2.1, hr.2.2⟩)
      refine ⟨_, List.mem_singleton.2 rfl, σ, w', .tuple #[c.val, .int .i64 (Int.ofNat en.born)], ?_, by simp [den, denL, f2.2.1], s2⟩
      have hst : (Instr.keyThatStays (((cs[j']?).map (·.key)).getD vk) vk).run P w = .ok vk w := run_stays (by rw [f4']; exact keySame_ok hks f2.1 dk) w
      simp only [Instr.mapEntry, Sem.run_bind, run_underlying hu, Result.andThen_ok, hg, hck, hrun, Option.map_some, hst, s1, Sem.run_pure]
      rw [f4']
      simp [goInt, f2.2.2]
theorem idxBorn_ok {s : Nat} : ∀ {es : List ME} {cs : List MapEntry} {i j : Nat}, ML σ es cs → idxBorn s es i = some j → ∃ k, j = i + k ∧ cs.findIdx? (fun e => (e.born : Int) == (s : Int)) = some k := by
  intro es cs i j hm
  induction hm generalizing i with
  | nil => intro h; cases h
  | cons he hes ih =>
    rename_i e c es cs
    intro h
    have hb : ((c.born : Int) == (s : Int)) = Nat.beq e.born s := by
      rw [he.2.2]
      cases hn : Nat.beq e.born s with
      | true => have := beq_iff.1 hn; simp [this]
      | false => have := beq_false.1 hn; simp; omega
    unfold idxBorn at h
    rw [List.findIdx?_cons]
    split at h
    · rename_i ht; cases h
      rw [hb, ht]; exact ⟨0, rfl, rfl⟩
    · rename_i hf
      obtain ⟨k, e1, e2⟩ := ih h
      rw [hb, hf, e2]
      exact ⟨k + 1, by omega, rfl⟩
theorem entryStore_ok (hh : Holds P N σ h w) {ti : TypeId} {m s x : AV} {vm vs vx : Value} (dm : den σ m = some vm) (ds : den σ s = some vs) (dx : den σ x = some vx) {rs : List VR}
    (hrs : (m.onMap [] fun b => liftO (natOf s) fun born => h.map b [] fun es clock =>
      liftO (idxBorn born es 0) fun i => [⟨.undef, h.set b (.map (lmodify (fun e => ⟨e.k, x, e.born⟩) i es) clock)⟩]) = rs) (hne : rs ≠ []) : PlainU P N σ h w (Instr.entryStore ti vm vs vx) rs := by
  subst hrs
  obtain ⟨b, em, e1⟩ := onMap_ne hne
  rw [e1] at hne ⊢
  obtain ⟨born, hbn, e2⟩ := liftO_ne hne
  rw [e2] at hne ⊢
  obtain ⟨es, clock, hb, e3⟩ := map_ne hne
  rw [e3] at hne ⊢
  obtain ⟨i, hi, e4⟩ := liftO_ne hne
  rw [e4]
  subst em
  obtain ⟨l, hl, rfl⟩ := den_map dm
  obtain ⟨cs, hcs, hml⟩ := hh.mapAt hb hl
  obtain ⟨kk, es'⟩ := den_natOf hbn ds
  have hg : (getObj l.blk).run P w = .ok (.map cs clock) w := run_getObj hcs (by simp)
  obtain ⟨k', e5, e6⟩ := idxBorn_ok hml hi
  have e7 : i = k' := by omega
  subst e7
  obtain ⟨w', s1, s2⟩ := setMap_ok (es' := lmodify (fun e => ⟨e.k, x, e.born⟩) i es) (cs' := cs.modify i fun e => { e with val := vx }) (clock' := clock) hh hb hl hcs (by
    rw [modify_toList]; exact hml.modify _ fun e' c' _ hr => ⟨hr.1, dx, hr.2.2⟩)
  refine ⟨_, List.mem_singleton.2 rfl, rfl, σ, w', ?_, s2⟩
  have hfi : cs.findIdx? (fun e => (e.born : Int) == (born : Int)) = some i := by
    rw [← e6]; exact (List.findIdx?_toArray (l := cs.toList) (p := fun e => (e.born : Int) == (born : Int)))
  rw [es']
  simp [Instr.entryStore, hg, asInt, asIntOf, hfi, s1]
/-! ### Iterators -/
theorem newIter_ok (hh : Holds P N σ h w) {o : AObj} {ob : Obj} (hr : ∀ σ', σ.le σ' → Rep P σ' ⟨w.heap.size, 0, 0⟩ o ob) :
    ∃ σ', den σ' (.ptr h.next 0) = some (.pointer (some ⟨w.heap.size, 0, none⟩)) ∧ Ext P N σ h w σ' (h.alloc o) (w.alloc ob) :=
  ⟨σ.put h.next ⟨w.heap.size, 0, 0⟩, den_ptr_mk (Sig.put_same _ _ _) 0, Ext.alloc hh rfl (hr _ (Sig.le_put hh.next_none _)) rfl rfl rfl rfl⟩
theorem onMp_ne {β : Type} {x : AV} {f : NK → List β} {g : Pos → List β} (h : x.onMp [] f g ≠ []) : (∃ k, x = .nil k ∧ x.onMp [] f g = f k) ∨ (∃ b, x = .map b ∧ x.onMp [] f g = g b) := by
  cases x with
  | nil k => exact .inl ⟨k, rfl, rfl⟩
  | map b => exact .inr ⟨b, rfl, rfl⟩
  | _ => exact absurd rfl h
theorem range_ok (hh : Holds P N σ h w) {ti kt e : TypeId} (hu : P.underlying ti = some (.map kt e)) {x : AV} {vx : Value} (dx : den σ x = some vx) {rs : List VR}
    (hrs : (x.onMp [] (fun k => whenL (Nat.beq k.no 2) [⟨.ptr h.next 0, h.alloc (.iter none 0 [] 0)⟩])
        (fun m => h.map m [] fun _ clock => [⟨.ptr h.next 0, h.alloc (.iter (some m) clock [] clock)⟩])) = rs) (hne : rs ≠ []) : Plain P N σ h w (Instr.range ti vx) rs := by
  subst hrs
  rcases onMp_ne hne with ⟨k, ex, e1⟩ | ⟨b, ex, e1⟩
  · rw [e1] at hne ⊢
    obtain ⟨hk, e2⟩ := whenL_ne hne
    rw [e2]
    have := NK.no_iff.2.2.1.1 hk; subst this
    subst ex
    rw [den_nil dx]
    obtain ⟨σ', h1, h2⟩ := newIter_ok (o := .iter none 0 [] 0) (ob := .mapIter none 0 #[] 0) hh (fun σ' _ => ⟨rfl, rfl⟩)
    exact ⟨_, List.mem_singleton.2 rfl, σ', _, _, by simp [Instr.range, run_underlying hu, nilOf], h1, h2⟩
  · rw [e1] at hne ⊢
    obtain ⟨es, clock, hb, e2⟩ := map_ne hne
    rw [e2]
    subst ex
    obtain ⟨l, hl, rfl⟩ := den_map dx
    obtain ⟨cs, hcs, hml⟩ := hh.mapAt hb hl
    have hg : (getObj l.blk).run P w = .ok (.map cs clock) w := run_getObj hcs (by simp)
    obtain ⟨σ', h1, h2⟩ := newIter_ok (o := .iter (some b) clock [] clock) (ob := .mapIter (some l.blk) clock #[] clock) hh (fun σ' hle => ⟨rfl, l, hle _ _ hl, rfl⟩)
    exact ⟨_, List.mem_singleton.2 rfl, σ', _, _, by simp [Instr.range, run_underlying hu, hg], h1, h2⟩
theorem memN_eq (n : Nat) (l : List Nat) : memN n l = l.contains n := by
  induction l with
  | nil => rfl
  | cons a l ih =>
    have : memN n (a :: l) = Bool.rec (memN n l) true (Nat.beq n a) := rfl
    rw [this, List.contains_cons, ih]
    cases hn : Nat.beq n a with
    | true => have := beq_iff.1 hn; simp [this]
    | false => have := beq_false.1 hn; simp [this]
theorem ML.filter {f : ME → Bool} {g : MapEntry → Bool} (hfg : ∀ e c, MERep σ e c → f e = g c) : ∀ {es : List ME} {cs : List MapEntry}, ML σ es cs → ML σ (es.filter f) (cs.filter g) := by
  intro es cs hm
  induction hm with
  | nil => exact .nil
  | cons he hes ih =>
    rename_i e c es cs
    rw [List.filter_cons, List.filter_cons, hfg e c he]
    split
    · exact .cons he ih
    · exact ih
theorem ML.append {es fs : List ME} {cs ds : List MapEntry} (h : ML σ es cs) (h' : ML σ fs ds) : ML σ (es ++ fs) (cs ++ ds) := by
  induction h with
  | nil => exact h'
  | cons he _ ih => exact .cons he ih
theorem ML.getc {es : List ME} {cs : List MapEntry} (hm : ML σ es cs) {i : Nat} {c : MapEntry} (h : cs[i]? = some c) : ∃ e, es[i]? = some e ∧ MERep σ e c := by
  induction hm generalizing i with
  | nil => simp at h
  | cons he hes ih =>
    cases i with
    | zero => simp at h; subst h; exact ⟨_, rfl, he⟩
    | succ i => simp at h; obtain ⟨c, h1, h2⟩ := ih h; exact ⟨c, by simpa using h1, h2⟩
theorem ML.all {f : ME → Bool} {g : MapEntry → Bool} (hfg : ∀ e c, MERep σ e c → f e = g c) {es : List ME} {cs : List MapEntry} (hm : ML σ es cs) : es.all f = cs.all g := by
  induction hm with
  | nil => rfl
  | cons he hes ih => simp [hfg _ _ he, ih]
theorem ML.isEmpty {es : List ME} {cs : List MapEntry} (hm : ML σ es cs) : es.isEmpty = cs.isEmpty := by cases hm <;> rfl
theorem isNil_isEmpty {α : Type} (l : List α) : isNil l = l.isEmpty := by cases l <;> rfl
end
end Go.Proofs.YtgemonlknehegaaGreatDoor.AI
namespace Go.Proofs.YtgemonlknehegaaGreatDoor.AI
open Go
set_option linter.unusedVariables false
set_option linter.unusedSimpArgs false
section
variable {P : Program} {N : Nat} {σ : Sig} {h : H} {w : World} {t : Tm} {a : Act}
theorem onPtr_ne {β : Type} {x : AV} {f : Pos → Nat → List β} (h : x.onPtr [] f ≠ []) : ∃ b o, x = .ptr b o ∧ x.onPtr [] f = f b o := by
  cases x with
  | ptr b o => exact ⟨b, o, rfl, rfl⟩
  | _ => exact absurd rfl h
theorem iter_ne {β : Type} {o : AObj} {k : Option Pos → Nat → List Nat → Nat → List β} (hr : o.onIter [] k ≠ []) : ∃ m s se st, o = .iter m s se st ∧ o.onIter [] k = k m s se st := by
  cases o with
  | iter m s se st => exact ⟨m, s, se, st, rfl, rfl⟩
  | _ => exact absurd rfl hr
def oldL (since : Nat) (seen : List Nat) (cs : List MapEntry) : List MapEntry := (cs.filter fun e => !seen.contains e.born).filter fun e => decide (e.born < since)
def newL (since : Nat) (seen : List Nat) (cs : List MapEntry) : List MapEntry := (cs.filter fun e => !seen.contains e.born).filter fun e => decide (e.born ≥ since)
def candL (since : Nat) (seen : List Nat) (cs : List MapEntry) : List (Option MapEntry) := (if (oldL since seen cs).isEmpty then [none] else []) ++ (oldL since seen cs ++ newL since seen cs).map some
theorem run_next_some {r lm since last clock : Nat} {seen : List Nat} {cs : Array MapEntry} (hr : w.heap[r]? = some (.mapIter (some lm) since seen.toArray last)) (hm : w.heap[lm]? = some (.map cs clock)) (ty : TypeId)
    (hun : (!seen.isEmpty && !cs.toList.isEmpty && cs.toList.all (fun e => decide (e.born ≥ last))) = false) :
    ∃ j d, j < (candL since seen cs.toList).length ∧ (Instr.next (.pointer (some ⟨r, 0, none⟩)) false ty).run P w = (match (candL since seen cs.toList)[j]? with
      | some (some e) => ((setObj r (.mapIter (some lm) since (seen ++ [e.born]).toArray clock)).run P { w with drawn := d }).andThen fun _ w => .ok (.tuple #[.bool true, e.key, e.val]) w
      | some none => .ok (.tuple #[.bool false]) { w with drawn := d }
      | none => (stuck "Next: no such candidate" : Sem Value).run P { w with drawn := d }) := by
  have hg1 : (getObj r).run P w = .ok (.mapIter (some lm) since seen.toArray last) w := run_getObj hr (by simp)
  have hg2 : (getObj lm).run P w = .ok (.map cs clock) w := run_getObj hm (by simp)
  have hpos : 0 < (candL since seen cs.toList).length := by
    unfold candL
    cases hl : oldL since seen cs.toList with
    | nil => simp
    | cons x l => simp
  have hold : Array.filter (fun e => decide (e.born < since)) (Array.filter (fun e => !seen.toArray.contains e.born) cs) = (oldL since seen cs.toList).toArray := by
    apply Array.ext'
    simp only [oldL, Array.toList_filter, List.contains_toArray]
  have hnew : Array.filter (fun e => decide (e.born ≥ since)) (Array.filter (fun e => !seen.toArray.contains e.born) cs) = (newL since seen cs.toList).toArray := by
    apply Array.ext'
    simp only [newL, Array.toList_filter, List.contains_toArray]
  have hcand : ((if (oldL since seen cs.toList).toArray.isEmpty = true then #[none] else #[]) ++
      Array.map some ((oldL since seen cs.toList).toArray ++ (newL since seen cs.toList).toArray)) = (candL since seen cs.toList).toArray := by
    unfold candL
    rw [List.isEmpty_toArray]
    split <;> simp
  have hdraw : ∃ j d, j < (candL since seen cs.toList).length ∧ (choose (.mapNext (candL since seen cs.toList).length)).run P w = .ok j { w with drawn := d } := by
    rw [run_choose]
    split
    · exact ⟨0, w.drawn, hpos, rfl⟩
    · exact ⟨_, w.drawn + 1, Nat.mod_lt _ hpos, rfl⟩
  obtain ⟨j, d, hj, hd⟩ := hdraw
  refine ⟨j, d, hj, ?_⟩
  have hun' : (!seen.toArray.isEmpty && !cs.isEmpty && cs.all (fun e => decide (e.born ≥ last))) = false := by
    rw [← hun]
    cases cs
    simp
  simp only [Instr.next, Sem.run_bind, hg1, Result.andThen_ok, hg2]
  rw [if_neg (by rw [hun']; exact Bool.false_ne_true)]
  rw [hold, hnew, hcand]
  have hsz : (candL since seen cs.toList).toArray.size = (candL since seen cs.toList).length := by simp
  simp only [Sem.run_bind, Sem.run_pure, Result.andThen_ok, hsz, hd, List.getElem?_toArray]
  cases hc : (candL since seen cs.toList)[j]? with
  | none => rfl
  | some o => cases o with
    | none => rfl
    | some e => simp
theorem lmap_mem {α β : Type} {f : α → β} {l : List α} {x : α} (h : x ∈ l) : f x ∈ lmap f l := by rw [lmap_eq]; exact List.mem_map_of_mem h
theorem next_ok (hh : Holds P N σ h w) {it : AV} {vi : Value} (di : den σ it = some vi) (hne : aNext h it ≠ []) (ty : TypeId) : Plain P N σ h w (Instr.next vi false ty) (aNext h it) := by
  unfold aNext at hne ⊢
  obtain ⟨r, off, ei, e1⟩ := onPtr_ne hne
  rw [e1] at hne ⊢
  obtain ⟨hoff, e2⟩ := whenL_ne hne
  rw [e2] at hne ⊢
  obtain ⟨o, ho, e3⟩ := liftO_ne hne
  rw [e3] at hne ⊢
  obtain ⟨m, since, seen, last, eo, e4⟩ := iter_ne hne
  rw [e4] at hne ⊢
  subst eo; subst ei
  have := beq_iff.1 hoff
  subst this
  obtain ⟨l, hl, rfl⟩ := den_ptr di
  obtain ⟨l', ob, q1, q2, q3⟩ := hh.rep r _ ho
  rw [hl] at q1; cases q1
  cases m with
  | none =>
    obtain ⟨q4, q5⟩ := q3
    simp only at q5
    rw [q5] at q2
    have hg1 : (getObj l.blk).run P w = .ok (.mapIter none since seen.toArray last) w := run_getObj q2 (by simp)
    refine ⟨_, List.mem_singleton.2 rfl, σ, w, .tuple #[.bool false], ?_, by simp [den, denL], Ext.refl hh⟩
    have ea : l.addr 0 = ⟨l.blk, 0, none⟩ := by simp [Loc.addr, q4]
    rw [ea]
    simp only [Instr.next, Sem.run_bind, hg1, Result.andThen_ok, Sem.run_pure]
  | some mp =>
    obtain ⟨q4, lb, q5, q6⟩ := q3
    rw [q6] at q2
    simp only at hne ⊢
    obtain ⟨es, clock, hb, e5⟩ := map_ne hne
    rw [e5] at hne ⊢
    obtain ⟨cs, hcs, hml⟩ := hh.mapAt hb q5
    have ea : l.addr 0 = ⟨l.blk, 0, none⟩ := by simp [Loc.addr, q4]
    rw [ea]
    unfold nextOf at hne ⊢
    rcases pick_ne hne with ⟨_, e6⟩ | ⟨hb', e6⟩
    · rw [e6] at hne; exact absurd rfl hne
    rw [e6]
    have hun : (!seen.isEmpty && !cs.toList.isEmpty && cs.toList.all (fun e => decide (e.born ≥ last))) = false := by
      have hall : lall (fun e => Nat.ble last e.born) es = cs.toList.all (fun e => decide (e.born ≥ last)) := by
        rw [lall_eq]
        refine hml.all fun e c he => ?_
        rw [he.2.2]
        cases hn : Nat.ble last e.born with
        | true => have := ble_iff.1 hn; simp [this]
        | false => have := ble_false.1 hn; simp; omega
      rw [isNil_isEmpty, isNil_isEmpty, hall, hml.isEmpty] at hb'
      cases h1 : seen.isEmpty with
      | true => rfl
      | false => cases h2 : cs.toList.isEmpty with
        | true => rfl
        | false =>
          rw [h1, h2] at hb'
          have h3 : cs.toList.all (fun e => decide (e.born ≥ last)) = false := hb'
          rw [h3]; rfl
    obtain ⟨j, d, hj, hrun⟩ := run_next_some (P := P) q2 hcs ty hun
    have hleft : ML σ (lfilter (fun e => bnot (memN e.born seen)) es) (cs.toList.filter fun e => !seen.contains e.born) := by
      rw [lfilter_eq]
      exact hml.filter fun e c he => by rw [bnot_eq, memN_eq, he.2.2]
    have holdM : ML σ (lfilter (fun e => Nat.blt e.born since) (lfilter (fun e => bnot (memN e.born seen)) es)) (oldL since seen cs.toList) := by
      rw [lfilter_eq]
      refine hleft.filter fun e c he => ?_
      rw [he.2.2]
      cases hn : Nat.blt e.born since with
      | true => have := blt_iff.1 hn; simp [this]
      | false => have := blt_false.1 hn; simp; omega
    have hnewM : ML σ (lfilter (fun e => Nat.ble since e.born) (lfilter (fun e => bnot (memN e.born seen)) es)) (newL since seen cs.toList) := by
      rw [lfilter_eq]
      refine hleft.filter fun e c he => ?_
      rw [he.2.2]
      cases hn : Nat.ble since e.born with
      | true => have := ble_iff.1 hn; simp [this]
      | false => have := ble_false.1 hn; simp; omega
    generalize lfilter (fun e => Nat.blt e.born since) (lfilter (fun e => bnot (memN e.born seen)) es) = oldE at holdM ⊢
    generalize lfilter (fun e => Nat.ble since e.born) (lfilter (fun e => bnot (memN e.born seen)) es) = newE at hnewM ⊢
    rw [lapp_eq, lapp_eq, isNil_isEmpty, holdM.isEmpty]
    have hboth := holdM.append hnewM
    obtain ⟨co, hco⟩ : ∃ co, (candL since seen cs.toList)[j]? = some co := ⟨_, List.getElem?_eq_getElem hj⟩
    rw [hco] at hrun
    have hmem := List.mem_of_getElem? hco
    unfold candL at hmem
    rcases List.mem_append.1 hmem with hm1 | hm1
    · cases hemp : (oldL since seen cs.toList).isEmpty with
      | false => rw [hemp] at hm1; simp at hm1
      | true =>
        rw [hemp] at hm1
        have : co = none := by simpa using hm1
        subst this
        exact ⟨⟨.tuple [.bool false], h⟩, List.mem_append.2 (.inl (List.mem_singleton.2 rfl)), σ, _, _, hrun, by simp [den, denL], Ext.drawn hh d⟩
    · obtain ⟨c, hc, rfl⟩ := List.mem_map.1 hm1
      obtain ⟨k, hk⟩ := List.getElem?_of_mem hc
      obtain ⟨e, he, hrep⟩ := hboth.getc hk
      have hd := Ext.drawn hh d
      have hset : (setObj l.blk (.mapIter (some lb.blk) since (seen ++ [c.born]).toArray clock)).run P { w with drawn := d } = .ok () { w with drawn := d, heap := w.heap.setIfInBounds l.blk (.mapIter (some lb.blk) since (seen ++ [c.born]).toArray clock) } := by
        simp [setObj, Sem.run, q2]
      have hup : Ext P N σ h { w with drawn := d } σ (h.set r (.iter (some mp) since (lapp seen [e.born]) clock)) { w with drawn := d, heap := w.heap.setIfInBounds l.blk (.mapIter (some lb.blk) since (seen ++ [c.born]).toArray clock) } := by
        refine Ext.upd hd.holds ho hl (ob' := .mapIter (some lb.blk) since (seen ++ [c.born]).toArray clock) ⟨q4, lb, q5, by rw [lapp_eq, hrep.2.2]⟩ (fun k => ?_) (by simp) rfl rfl rfl
        have hlt : l.blk < w.heap.size := (Array.getElem?_eq_some_iff.1 q2).1
        show (w.heap.setIfInBounds l.blk _)[k]? = _
        by_cases ek : k = l.blk
        · subst ek; simp [hlt]
        · rw [if_neg ek, Array.getElem?_setIfInBounds_ne (fun e' => ek e'.symm)]
      refine ⟨⟨.tuple [.bool true, e.k, e.v], h.set r (.iter (some mp) since (lapp seen [e.born]) clock)⟩, List.mem_append.2 (.inr (lmap_mem (f := fun e => (⟨.tuple [.bool true, e.k, e.v], h.set r (.iter (some mp) since (lapp seen [e.born]) clock)⟩ : VR)) (List.mem_of_getElem? he))), σ, _, .tuple #[.bool true, c.key, c.val], ?_, by simp [den, denL, hrep.1, hrep.2.1], hd.trans hup⟩
      rw [hrun]
      simp only [hset, Result.andThen_ok]
end
end Go.Proofs.YtgemonlknehegaaGreatDoor.AI
