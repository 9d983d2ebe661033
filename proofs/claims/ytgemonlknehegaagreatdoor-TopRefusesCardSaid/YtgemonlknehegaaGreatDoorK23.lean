/- The chain of TopRefuses, part 23. -/
import Derived.Test.YtgemonlknehegaaGreatDoorK22
namespace Go.Proofs.YtgemonlknehegaaGreatDoor.AI
open Go
set_option linter.unusedVariables false
noncomputable section

/-! ### Memory -/
def toLf (k : FK) (v : SV) : Option Lf :=
  match k, v with
  | .bool, .b _ x => some (.b x)
  | .int k, .i _ k' n => (match ikeq k k' with | true => some (.n n) | false => none)
  | .str, .s _ l => some (.s l)
  | _, _ => none
def toRc : List FK → List SV → Option Rc
  | [], [] => some []
  | k :: S, v :: vs => match toLf k v, toRc S vs with | some x, some r => some (x :: r) | _, _ => none
  | _, _ => none
/-- so many records out of cells -/
def toRcs (S : List FK) : Nat → List SV → Option (List Rc)
  | 0, [] => some []
  | n + 1, vs => match ltake (llen S) vs with
    | some v => (match toRc S v, toRcs S n (ldrop (llen S) vs) with | some r, some l => some (r :: l) | _, _ => none)
    | none => none
  | _, _ => none
def setR : Nat → Rc → Lf → Rc
  | 0, r, x => x :: r.tail
  | j + 1, r, x => r.headD (.n 0) :: setR j r.tail x
def setRs : Nat → Rc → List Lf → Rc
  | _, r, [] => r
  | j, r, x :: l => setRs (Nat.succ j) (setR j r x) l
def u8sv (b : UInt8) : SV := .i true .u8 (Int.ofNat b.toNat)
def sLoad (agg : Bool) (sz : Nat) (p : SV) (h : SH) : DT SV :=
  match p with
  | .ptr x off => match h.get x with
    | some (.row _ cells _) => (match agg with
      | true => (match ltake sz (ldrop off cells) with | some l => .leaf (.agg l) | none => .fail)
      | false => ofOpt (lget cells off))
    | _ => .fail
  | .eptr x sz' i fo => match h.get x with
    | some (.lrow _ S l) => (match Nat.beq sz' (llen S) with
      | true => .need (decide (i < l.length)) (match agg with
        | true => (match ltake sz (ldrop fo (svR S (l.getD i []))) with | some r => .leaf (.agg r) | none => .fail)
        | false => (match lget (svR S (l.getD i [])) fo with | some v => .leaf v | none => .fail))
      | false => .fail)
    | some (.bytes _ l) => (match agg, Nat.beq sz' 1, Nat.beq fo 0 with
      | false, true, true => .need (decide (i < l.length)) (.leaf (u8sv (l.getD i 0)))
      | _, _, _ => .fail)
    | _ => .fail
  | _ => .fail
def sStore (sz : Nat) (p v : SV) (h : SH) : DT SH :=
  match Nat.beq (llen v.cells) sz, allOne3 v.cells with
  | true, true => (match p with
    | .ptr x off => (match h.get x with
      | some (.row ty cells opn) => (match lput off v.cells cells with | some cells => .leaf (h.put x (.row ty cells opn)) | none => .fail)
      | _ => .fail)
    | .eptr x sz' i fo => (match h.get x with
      | some (.lrow ty S l) => (match Nat.beq sz' (llen S) && Nat.ble (fo + sz) (llen S), ltake sz (ldrop fo S) with
        | true, some S' => (match toRc S' v.cells with
          | some r => .need (decide (i < l.length)) (.leaf (h.put x (.lrow ty S (l.set i (setRs fo (l.getD i []) r)))))
          | none => .fail)
        | _, _ => .fail)
      | some (.bytes ty l) => (match Nat.beq sz' 1, Nat.beq fo 0, v with
        | true, true, .i _ k n => (match ikeq k .u8 with
          | true => .need (decide (i < l.length) && inB .u8 n) (.leaf (h.put x (.bytes ty (l.set i (UInt8.ofNat n.toNat)))))
          | false => .fail)
        | _, _, _ => .fail)
      | _ => .fail)
    | _ => .fail)
  | _, _ => .fail
/-- how many elements a list has -/
def SO.many (o : SO) : Option Nat := match o with | .lrow _ _ l => some l.length | .bytes _ l => some l.length | _ => none
def clNat (v : SV) : Option Nat := match v with | .i o _ n => (match o with | false => (match n with | .ofNat n => some n | _ => none) | true => none) | _ => none
def clOpt (v : Option SV) : Option (Option Nat) := match v with | none => some none | some v => (match clNat v with | some n => some (some n) | none => none)
def sSliceK (sz x off len c : Nat) (lo hi mx : Option Nat) : Option SV :=
  match mx with
  | some m => match hi with
    | some hh => (match Nat.ble m c, Nat.ble hh m, Nat.ble (lo.getD 0) hh with
      | true, true, true => some (.sl x (match Nat.beq m (lo.getD 0) with | true => off | false => off + (lo.getD 0) * sz) (hh - lo.getD 0) (.known (m - lo.getD 0)))
      | _, _, _ => none)
    | none => none
  | none => (match Nat.ble (hi.getD len) c, Nat.ble (lo.getD 0) (hi.getD len) with
      | true, true => some (.sl x (match Nat.beq c (lo.getD 0) with | true => off | false => off + (lo.getD 0) * sz) (hi.getD len - lo.getD 0) (.known (c - lo.getD 0)))
      | _, _ => none)
def sSliceO (sz x off len skip least : Nat) (lo hi : Option Nat) : Option SV :=
  match Nat.ble (skip + len) least, Nat.ble (hi.getD len) (least - skip), Nat.ble (lo.getD 0) (hi.getD len) with
  | true, true, true => (match Nat.blt (skip + lo.getD 0) least with
    | true => some (.sl x (off + lo.getD 0 * sz) (hi.getD len - lo.getD 0) (.opn (skip + lo.getD 0)))
    | false => (match Nat.beq (hi.getD len) (lo.getD 0) with | true => some (.etl x off skip (lo.getD 0) sz) | false => none))
  | _, _, _ => none
def sSlice (sz : Nat) (h : SH) (x : SV) (lo hi mx : Option SV) : DT SV :=
  match x with
  | .nil k => (match Nat.beq k.no 1, clOpt lo, clOpt hi, clOpt mx with
    | true, some lo, some hi, some mx => (match Nat.beq (lo.getD 0) 0, Nat.beq (hi.getD 0) 0, mx with
      | true, true, none => .leaf x
      | _, _, _ => .fail)
    | _, _, _, _ => .fail)
  | .sl x off len cap => (match clOpt lo, clOpt hi, clOpt mx with
    | some lo, some hi, some mx => (match cap with
      | .known c => ofOpt (sSliceK sz x off len c lo hi mx)
      | .opn skip => (match h.get x, mx with
        | some (.row _ _ (some least)), none => ofOpt (sSliceO sz x off len skip least lo hi)
        | _, _ => .fail))
    | _, _, _ => .fail)
  | .tsl x sz' lo0 len => (match Nat.beq sz sz', mx, (h.get x).bind SO.many with
    | true, none, some L => optNat hi (true, len) fun _ b => optNat lo (true, 0) fun _ a =>
        .need (decide (lo0 + len ≤ L ∧ a ≤ b ∧ lo0 + b ≤ L)) (.node (decide (lo0 + a < L)) (.leaf (.tsl x sz (lo0 + a) (b - a))) (.leaf (.etl x (lo0 * sz) lo0 a sz)))
    | _, _, _ => .fail)
  | _ => .fail
/-- the bytes of cells -/
def svBytes : List SV → Option (Bool × List UInt8)
  | [] => some (true, [])
  | v :: vs => match v, svBytes vs with
    | .i _ k n, some (c, l) => (match ikeq k .u8 with | true => some (inB .u8 n && c, UInt8.ofNat n.toNat :: l) | false => none)
    | _, _ => none
def sToStr (h : SH) (x : SV) : DT SV :=
  match x with
  | .nil k => (match Nat.beq k.no 1 with | true => .leaf (.s false []) | false => .fail)
  | .etl _ _ _ _ _ => .leaf (.s false [])
  | .sl x off len _ => (match len with
    | 0 => .leaf (.s false [])
    | _ + 1 => (match h.get x with
      | some (.row _ cells _) => (match ltake len (ldrop off cells) with
        | some cs => (match svBytes cs with | some (c, l) => .need c (.leaf (.s true l)) | none => .fail)
        | none => .fail)
      | _ => .fail))
  | .tsl x sz lo len => (match Nat.beq sz 1, h.get x with
    | true, some (.bytes _ l) => .need (decide (lo + len ≤ l.length)) (.leaf (.s true ((l.drop lo).take len)))
    | _, _ => .fail)
  | _ => .fail
/-- elements that are appended -/
inductive Els where
  /-- cells, and how many elements -/
  | cells (l : List SV) (k : Nat)
  | recs (S : List FK) (l : List Rc)
  | bytes (l : List UInt8)
def flatFK (P : Program) : Nat → TypeId → Option (List FK)
  | 0, _ => none
  | d + 1, t => match P.underlying t with
    | some .bool => some [.bool]
    | some (.int k) => some [.int k]
    | some .string => some [.str]
    | some (.struct fs) => fs.toList.foldr (fun f r => match flatFK P d f.type, r with | some a, some b => some (a ++ b) | _, _ => none) (some [])
    | _ => none
def isU8 (S : List FK) : Bool := match S with | k :: l => (match k, l with | .int k, [] => ikeq k .u8 | _, _ => false) | [] => false
def srcEls (sz : Nat) (h : SH) (x : SV) (k : Els → DT (SV × SH)) : DT (SV × SH) :=
  match x with
  | .nil q => (match Nat.beq q.no 1 with | true => k (.cells [] 0) | false => .fail)
  | .etl _ _ _ _ _ => k (.cells [] 0)
  | .sl x off len _ => (match len with
    | 0 => k (.cells [] 0)
    | _ + 1 => (match h.get x with
      | some (.row _ cells _) => (match ltake (len * sz) (ldrop off cells) with | some cs => k (.cells cs len) | none => .fail)
      | _ => .fail))
  | .tsl x sz' lo len => (match Nat.beq sz sz', h.get x with
    | true, some (.lrow _ S l) => (match Nat.beq sz (llen S) with | true => .need (decide (lo + len ≤ l.length)) (k (.recs S ((l.drop lo).take len))) | false => .fail)
    | true, some (.bytes _ l) => (match Nat.beq sz 1 with | true => .need (decide (lo + len ≤ l.length)) (k (.bytes ((l.drop lo).take len))) | false => .fail)
    | _, _ => .fail)
  | _ => .fail
/-- a new list behind one that is taken away -/
def newList (ty : TypeId) (S : List FK) (h : SH) (l : List Rc) : SV × SH := (.tsl h.nm (llen S) 0 l.length, h.add (.lrow ty S l))
def newBytes (ty : TypeId) (h : SH) (l : List UInt8) : SV × SH := (.tsl h.nm 1 0 l.length, h.add (.bytes ty l))
/-- raw rows: k elements' cells xs appended -/
def appRaw (ty sz : Nat) (h : SH) (s : SV) (xs : List SV) (k : Nat) : DT (SV × SH) :=
  match k with
  | 0 => (match s with
    | .nil q => (match Nat.beq q.no 1 with | true => .leaf (s, h) | false => .fail)
    | .sl x off len cap => (match cap with
      | .known c => (match Nat.ble len c with | true => .leaf (s, h) | false => .fail)
      | .opn skip => (match h.get x with | some (.row _ _ (some least)) => (match Nat.ble (skip + len) least with | true => .leaf (s, h) | false => .fail) | _ => .fail))
    | .etl _ _ _ _ _ => .leaf (s, h)
    | .tsl x _ lo len => (match (h.get x).bind SO.many with | some L => .need (decide (lo + len ≤ L)) (.leaf (s, h)) | none => .fail)
    | _ => .fail)
  | _ + 1 => (match allOne3 xs, s with
    | true, .nil q => (match Nat.beq q.no 1, Nat.beq (llen xs) (k * sz) with | true, true => .leaf (.sl h.nm 0 k (.opn 0), h.add (.row ty xs (some k))) | _, _ => .fail)
    | true, .sl x off len cap => (match h.get x with
      | some (.row ty' cells o) => (match cap with
        | .known c => (match Nat.ble (len + k) c with
          | true => (match lput (off + len * sz) xs cells with | some cells => .leaf (.sl x off (len + k) (.known c), h.put x (.row ty' cells o)) | none => .fail)
          | false => (match ltake (len * sz) (ldrop off cells), Nat.beq (llen xs) (k * sz) with | some old, true => .leaf (.sl h.nm 0 (len + k) (.opn 0), h.add (.row ty (lapp old xs) (some (len + k)))) | _, _ => .fail))
        | .opn skip => (match o with
          | some least => (match Nat.beq off (skip * sz), Nat.beq ty ty', Nat.ble (skip + (len + k)) least with
            | true, true, false => (match Nat.ble (skip + len) least && Nat.ble (off + len * sz) (llen cells), ltake (len * sz) (ldrop off cells), Nat.beq (llen xs) (k * sz) with
              | true, some old, true => .leaf (.sl h.nm 0 (len + k) (.opn 0), (h.del x).add (.row ty (lapp old xs) (some (len + k))))
              | _, _, _ => .fail)
            | _, _, _ => .fail)
          | none => .fail))
      | _ => .fail)
    | _, _ => .fail)
def FK.same (a b : FK) : Bool := match a, b with | .bool, .bool => true | .str, .str => true | .int k, .int k' => ikeq k k' | _, _ => false
def sameFK : List FK → List FK → Bool
  | [], [] => true
  | a :: l, b :: m => a.same b && sameFK l m
  | _, _ => false
/-- two ways, or the second alone -/
def nodeNE {α : Type} (ne : Bool) (c : Bool) (x y : DT α) : DT α := match ne with | true => y | false => .node c x y
/-- records appended to what a slice is -/
def appRecs (ne : Bool) (ty : TypeId) (S : List FK) (h : SH) (s : SV) (l : List Rc) : DT (SV × SH) :=
  match s with
  | .nil q => (match Nat.beq q.no 1 with | true => nodeNE ne (decide (l = [])) (.leaf (s, h)) (.leaf (newList ty S h l)) | false => .fail)
  | .sl x off len cap => (match len, cap with
    | 0, .known 0 => (match h.get x with
      | some (.row _ _ _) => nodeNE ne (decide (l = [])) (.leaf (s, h)) (.leaf (newList ty S h l))
      | _ => .fail)
    | _, _ => .fail)
  | .tsl x sz lo len => (match h.get x with
    | some (.lrow ty' S' l') => (match Nat.beq ty ty', Nat.beq sz (llen S), sameFK S' S with
      | true, true, true => .need (decide (lo = 0 ∧ len = l'.length)) (nodeNE ne (decide (l = [])) (.leaf (s, h)) (.leaf (newList ty S (h.del x) (l' ++ l))))
      | _, _, _ => .fail)
    | _ => .fail)
  | _ => .fail
def appBytes (ne : Bool) (ty : TypeId) (h : SH) (s : SV) (l : List UInt8) : DT (SV × SH) :=
  match s with
  | .nil q => (match Nat.beq q.no 1 with | true => nodeNE ne (decide (l = [])) (.leaf (s, h)) (.leaf (newBytes ty h l)) | false => .fail)
  | .tsl x sz lo len => (match h.get x with
    | some (.bytes ty' l') => (match Nat.beq ty ty', Nat.beq sz 1 with
      | true, true => .need (decide (lo = 0 ∧ len = l'.length)) (nodeNE ne (decide (l = [])) (.leaf (s, h)) (.leaf (newBytes ty (h.del x) (l' ++ l))))
      | _, _ => .fail)
    | _ => .fail)
  | _ => .fail
/-- a slice that is not too long to be appended to -/
def smallS (s : SV) (k : DT (SV × SH)) : DT (SV × SH) :=
  match s with
  | .nil q => (match Nat.beq q.no 1 with | true => k | false => .fail)
  | .sl _ _ len _ => (match small len with | true => k | false => .fail)
  | .etl _ _ _ _ _ => k
  | .tsl _ _ _ len => .need (decide (len < 1048576)) k
  | _ => .fail
def sAppend (P : Program) (e : TypeId) (sz : Nat) (h : SH) (s : SV) (els : Els) : DT (SV × SH) :=
  match els with
  | .cells cs k => (match small k with
    | true => (match flatFK P 4 e with
      | some S => (match k with
        | 0 => appRaw e sz h s cs 0
        | _ + 1 => (match isU8 S with
          | true => (match svBytes cs, Nat.beq sz 1 && Nat.beq (llen cs) k with | some (c, l), true => .need c (appBytes true e h s l) | _, _ => .fail)
          | false => (match Nat.beq (llen S) sz, toRcs S k cs with | true, some l => appRecs true e S h s l | _, _ => .fail)))
      | none => appRaw e sz h s cs k)
    | false => .fail)
  | .recs S l => (match flatFK P 4 e with
    | some S' => (match Nat.beq (llen S) sz, sameFK S S' with | true, true => .need (decide (l.length < 1048576)) (appRecs false e S h s l) | _, _ => .fail)
    | none => .fail)
  | .bytes l => (match flatFK P 4 e with
    | some S => (match isU8 S && Nat.beq sz 1 with | true => .need (decide (l.length < 1048576)) (appBytes false e h s l) | false => .fail)
    | none => .fail)
/-- an entry's place among a raw map's, and what comes then -/
def sFind (q : EqK) (k : SV) (f : Nat → SV → SV → Nat → DT (SV × SH)) (g : DT (SV × SH)) : List (SV × SV × Nat) → Nat → DT (SV × SH)
  | [], _ => g
  | e :: l, i => match seq3 5 q k e.1 with
    | some r => (match r.o with
      | false => (match r.c with | true => f i e.1 e.2.1 e.2.2 | false => sFind q k f g l (Nat.succ i))
      | true => .node r.c (f i e.1 e.2.1 e.2.2) (sFind q k f g l (Nat.succ i)))
    | none => .fail
def slook (l : List (List UInt8 × Int)) (k : List UInt8) : Option Int := match l with | [] => none | p :: l => if p.1 = k then some p.2 else slook l k
def sput (l : List (List UInt8 × Int)) (k : List UInt8) (n : Int) : List (List UInt8 × Int) := match l with | [] => [(k, n)] | p :: l => if p.1 = k then (k, n) :: l else p :: sput l k n
/-- may values of this kind be a map's keys -/
def okK3 (q : EqK) (v : SV) : Bool :=
  match q, v with
  | .int, .i _ _ _ => true
  | .str, .s _ _ => true
  | .struct fs, .agg xs => fs.all fun f => match f.2.1, f.2.2, lget xs f.1 with
    | none, .int, some (.i _ _ _) => true
    | none, .str, some (.s _ _) => true
    | _, _, _ => false
  | _, _ => false
def okV (ok : Bool) (w b : SV) : SV := match ok with | true => .tuple [w, b] | false => w
def sLookup (q : EqK) (z : SV) (ok : Bool) (h : SH) (m k : SV) : DT SV :=
  match okK3 q k with
  | true => (match m with
    | .nil n => (match Nat.beq n.no 2 with | true => .leaf (okV ok z (.b false false)) | false => .fail)
    | .map x => (match h.get x with
      | some (.map es _) => (sFind q k (fun _ _ v _ => .leaf (okV ok v (.b false true), h)) (.leaf (okV ok z (.b false false), h)) es 0).bind fun r => .leaf r.1
      | some (.smap l) => (match q, z, k, ok with
        | .str, .i _ .i64 n, .s _ k, true => .leaf (.tuple [.i true .i64 ((slook l k).getD n), .b true (slook l k).isSome])
        | _, _, _, _ => .fail)
      | _ => .fail)
    | _ => .fail)
  | false => .fail
/-- keys that are the same, bit by bit -/
def key1 (x y : SV) : Option Bool :=
  match x, y with
  | .b _ u, .b _ w => some (u == w)
  | .i _ k u, .i _ k' w => (match ikeq k k' with | true => some (decide (u = w)) | false => none)
  | .s _ u, .s _ w => some (decide (u = w))
  | _, _ => none
def keyL : List SV → List SV → Option Bool
  | [], [] => some true
  | a :: l, b :: m => match key1 a b, keyL l m with | some x, some y => some (x && y) | _, _ => none
  | _, _ => none
def key3 (x y : SV) : Option Bool := match x, y with | .agg l, .agg m => keyL l m | x, y => key1 x y
def sMapPut (q : EqK) (h : SH) (m k v : SV) : DT (SV × SH) :=
  match okK3 q k, m with
  | true, .map x => (match h.get x with
    | some (.map es clock) => sFind q k (fun i k' _ born => match key3 k' k with | some c => .need c (.leaf (.undef, h.put x (.map (es.set i (k, v, born)) clock))) | none => .fail) (.leaf (.undef, h.put x (.map (lapp es [(k, v, clock)]) (Nat.succ clock)))) es 0
    | some (.smap l) => (match q, k, v with
      | .str, .s _ k, .i _ .i64 n => .leaf (.undef, h.put x (.smap (sput l k n)))
      | _, _, _ => .fail)
    | _ => .fail)
  | _, _ => .fail
def zrec : List FK → Rc
  | [] => []
  | k :: S => (match k with | .bool => .b false | .int _ => .n 0 | .str => .s []) :: zrec S
def sClear (S0 : List FK) (sz : Nat) (h : SH) (x : SV) : DT (SV × SH) :=
  match x with
  | .nil q => (match Nat.beq q.no 1 with | true => .leaf (.tuple [], h) | false => .fail)
  | .etl _ _ _ _ _ => .leaf (.tuple [], h)
  | .tsl x sz' lo len => (match h.get x with
    | some (.lrow ty S l) => (match Nat.beq sz sz', Nat.beq sz (llen S), sameFK S S0 with
      | true, true, true => .need (decide (lo + len ≤ l.length)) (.leaf (.tuple [], h.put x (.lrow ty S (l.take lo ++ (List.replicate len (zrec S) ++ l.drop (lo + len))))))
      | _, _, _ => .fail)
    | _ => .fail)
  | _ => .fail

/-! ### Operations -/
abbrev R3 := FuncId → List SV → SH → DT (SV × SH)
inductive SOp where
  | bad
  | pure (f : T3 → DT SV)
  | load (f : T3 → SH → DT SV)
  | alloc (f : T3 → DT (SO × (Nat → SV)))
  | heavy (f : R3 → T3 → SH → DT (SV × SH))
def un1 (x : Operand) (t : T3) (f : SV → DT SV) : DT SV := match opd3 x t with | some v => f v | none => .fail
def un2 (x y : Operand) (t : T3) (f : SV → SV → DT SV) : DT SV := match opd3 x t, opd3 y t with | some v, some w => f v w | _, _ => .fail
def optOpd (x : Option Operand) (t : T3) : Option (Option SV) := match x with | none => some none | some x => (match opd3 x t with | some v => some (some v) | none => none)
def seBin (P : Program) (op : BinOp) (t : TypeId) (x y : Operand) : SOp :=
  match op with
  | .eql => match P.eqGuardType P.depth t, compileEq P 5 t with
    | false, some q => .pure fun tm => un2 x y tm fun a b => match seq3 5 q a b with | some r => .leaf r.sv | none => .fail
    | _, _ => .bad
  | .neq => match P.eqGuardType P.depth t, compileEq P 5 t with
    | false, some q => .pure fun tm => un2 x y tm fun a b => match seq3 5 q a b with | some r => .leaf (.b r.o (!r.c)) | none => .fail
    | _, _ => .bad
  | op => .pure fun tm => un2 x y tm (sBin op)
def seConvert (P : Program) (s d : TypeId) (x : Operand) : SOp :=
  match P.underlying s, P.underlying d with
  | some (.int _), some (.int k) => .pure fun tm => un1 x tm (sConvInt k)
  | some .string, some .string => .pure fun tm => un1 x tm fun v => match v with | .s o l => .leaf (.s o l) | _ => .fail
  | some .string, some (.slice e) => match P.underlying e, sizeOfT P e with
    | some (.int .u8), some 1 => .alloc fun tm => match opd3 x tm with
      | some (.s _ l) => .need (decide (l.length < 9223372036854775808)) (.leaf (.bytes e l, fun b => .tsl b 1 0 l.length))
      | _ => .fail
    | _, _ => .bad
  | some (.slice e), some .string => match P.underlying e with
    | some (.int .u8) => .load fun tm h => un1 x tm (sToStr h)
    | _ => .bad
  | some (.pointer t), some .unsafePointer => match sizeOfT P t with
    | some sz => .load fun tm h => un1 x tm fun v => match v with
      | .ptr b off => (match h.get b with | some (.row _ cells none) => (match Nat.blt off (llen cells), Nat.beq sz 0 with | true, false => .leaf v | _, _ => .fail) | _ => .fail)
      | _ => .fail
    | none => .bad
  | some .unsafePointer, some (.pointer u) => match sizeOfT P u with
    | some sz => .load fun tm h => un1 x tm fun v => match v with
      | .ptr b off => (match h.get b with
        | some (.row ty cells none) => (match Nat.beq ty u, Nat.beq off 0, Nat.beq (llen cells) sz, Nat.beq sz 0 with | true, true, true, false => .leaf v | _, _, _, _ => .fail)
        | _ => .fail)
      | _ => .fail
    | none => .bad
  | _, _ => .bad
def seAppend (P : Program) (e : TypeId) (ud : TypeDesc) (s x : Operand) : SOp :=
  match P.info? e, zeroOf P e with
  | some i, some z => match Nat.beq i.size 0, Nat.blt i.bytes 65536, Nat.beq (llen z.cells) i.size with
    | false, true, true => match ud with
      | .string => (match Nat.beq i.size 1 with
        | true => .heavy fun _ tm h => (match opd3 x tm, opd3 s tm with
          | some (.s _ l), some v => smallS v (sAppend P e i.size h v (.bytes l))
          | _, _ => .fail)
        | false => .bad)
      | .slice _ => .heavy fun _ tm h => (match opd3 x tm, opd3 s tm with
        | some xv, some v => smallS v (srcEls i.size h xv fun els => sAppend P e i.size h v els)
        | _, _ => .fail)
      | _ => .bad
    | _, _, _ => .bad
  | _, _ => .bad
/-- how many entries a map has -/
def sLenM (h : SH) (v : SV) : DT SV :=
  match v with
  | .nil k => (match Nat.beq k.no 2 with | true => .leaf (.i false .i64 (Int.ofNat 0)) | false => .fail)
  | .map x => (match h.get x with | some (.map es _) => .leaf (.i false .i64 (Int.ofNat (llen es))) | _ => .fail)
  | _ => .fail
def seBuiltin (P : Program) (b : Builtin) (argTypes : List TypeId) (args : List Operand) : SOp :=
  match b with
  | .len => match argTypes, args with
    | [t], [x] => (match P.underlying t with
      | some .string => .pure fun tm => un1 x tm fun v => (match v with | .s _ _ => sLen v | _ => .fail)
      | some (.slice _) => .pure fun tm => un1 x tm fun v => (match v with | .s _ _ => .fail | v => sLen v)
      | some (.map _ _) => .load fun tm h => un1 x tm (sLenM h)
      | _ => .bad)
    | _, _ => .bad
  | .cap => match argTypes, args with
    | [t], [x] => (match P.underlying t with
      | some (.slice _) => .pure fun tm => un1 x tm fun v => (match v with
        | .nil k => (match Nat.beq k.no 1 with | true => .leaf (.i false .i64 (Int.ofNat 0)) | false => .fail)
        | .sl _ _ _ (.known c) => .leaf (.i false .i64 (Int.ofNat c))
        | _ => .fail)
      | _ => .bad)
    | _, _ => .bad
  | .min => match args with | x :: l => .pure fun tm => (match opds3 (x :: l) tm with | some (a :: r) => sFoldMin false a r | _ => .fail) | [] => .bad
  | .max => match args with | x :: l => .pure fun tm => (match opds3 (x :: l) tm with | some (a :: r) => sFoldMin true a r | _ => .fail) | [] => .bad
  | .append => match argTypes, args with
    | [t, u], [s, x] => (match P.underlying t, P.underlying u with | some (.slice e), some ud => seAppend P e ud s x | _, _ => .bad)
    | _, _ => .bad
  | .clear => match argTypes, args with
    | [t], [x] => (match P.underlying t with
      | some (.slice e) => (match zeroOf P e, sizeOfT P e, flatFK P 4 e with
        | some z, some sz, some S => (match flatL z.cells (encR S (zrec S)), Nat.beq sz (llen S), Nat.beq sz 0 with
          | true, true, false => .heavy fun _ tm h => (match opd3 x tm with | some v => sClear S sz h v | none => .fail)
          | _, _, _ => .bad)
        | _, _, _ => .bad)
      | _ => .bad)
    | _, _ => .bad
  | .unsafeSliceData => match args with
    | [x] => .load fun tm h => un1 x tm fun v => (match v with
      | .nil k => (match Nat.beq k.no 1 with | true => .leaf (.nil .p) | false => .fail)
      | .tsl b sz lo _ => (match h.get b with | some (.bytes _ l) => (match Nat.beq sz 1 with | true => .need (decide (lo < l.length)) (.leaf (.eptr b 1 lo 0)) | false => .fail) | _ => .fail)
      | _ => .fail)
    | _ => .bad
  | .unsafeString => match argTypes, args with
    | t :: _, [x, n] => (match P.underlying t with
      | some (.pointer e) => (match P.underlying e with
        | some (.int .u8) => (match sizeOfT P e with
          | some 1 => .heavy fun _ tm h => (match opd3 x tm, opd3 n tm with
            | some (.nil k), some (.i _ _ n) => (match Nat.beq k.no 0 with | true => .need (decide (n = 0)) (.leaf (.s false [], h)) | false => .fail)
            | some (.eptr b z i fo), some (.i _ _ n) => (match h.get b, Nat.beq fo 0 && Nat.beq z 1 with
              | some (.bytes ty l), true => (match Nat.beq ty e with
                | true => .need (nn n && decide (n.toNat < 1048576) && decide (0 < n.toNat) && decide (i + n.toNat ≤ l.length)) (.leaf (.s true ((l.drop i).take n.toNat), h.del b))
                | false => .fail)
              | _, _ => .fail)
            | _, _ => .fail)
          | _ => .bad)
        | _ => .bad)
      | _ => .bad)
    | _, _ => .bad
  | _ => .bad
def sCall (rec : R3) (f : SV) (args : List SV) (h : SH) : DT (SV × SH) :=
  match f with
  | .func g first cap => (match Nat.beq g yieldF with | true => .fail | false => rec g (first ++ (args ++ cap)) h)
  | .yield x => rec yieldF (.yield x :: args) h
  | _ => .fail
def seCall (P : Program) (c : Call) (args : List Operand) : SOp :=
  match c.callee with
  | .builtin b => seBuiltin P b c.argTypes.toList args
  | .value f => match f with
    | .func g => match P.funcs[g]? with
      | some fn => match fn.body with
        | some _ => .heavy fun rec tm h => match Nat.beq g yieldF, opds3 args tm with | false, some vs => rec g vs h | _, _ => .fail
        | none =>
          if fn.name = "internal/abi.NoEscape" then match args with
            | [x] => .pure fun tm => un1 x tm .leaf
            | _ => .bad
          else .bad
      | none => .bad
    | f => .heavy fun rec tm h => match opd3 f tm, opds3 args tm with | some v, some vs => sCall rec v vs h | _, _ => .fail
  | _ => .bad
def seOp (P : Program) (o : Oper) : SOp :=
  match o.op with
  | .move x => .pure fun tm => un1 x tm .leaf
  | .assign x => .pure fun tm => un1 x tm .leaf
  | .pick c a b => .pure fun tm => match opd3 c tm with
    | some (.b false x) => (match x with | true => un1 a tm .leaf | false => un1 b tm .leaf)
    | some v => un2 a b tm fun a b => sPick v a b
    | none => .fail
  | .alloc e => match zeroOf P e with
    | some z => .alloc fun _ => .leaf (.row e (ofAV z).cells none, fun b => .ptr b 0)
    | none => .bad
  | .box e x => .alloc fun tm => match opd3 x tm with | some v => (match v with | .o _ => .fail | v => .leaf (.row e v.cells none, fun b => .ptr b 0)) | none => .fail
  | .build t parts => match P.underlying t, zeroOf P t with
    | some d, some z => match isAggD d, placeFn P d with
      | true, some pf => match places pf parts.toList with
        | some ps => .pure fun tm => match splaces tm ps with | some ps => (match safill ps (ofAV z).cells with | some cs => .leaf (.agg cs) | none => .fail) | none => .fail
        | none => .bad
      | _, _ => .bad
    | _, _ => .bad
  | .buildSlice t len parts => match P.underlying t with
    | some (.slice e) => match zeroOf P e, sizeOfT P e, (placeFn P (.slice e)).bind fun pf => places pf parts.toList with
      | some z, some sz, some ps => match Nat.blt (len * sz) 65536, Nat.beq (llen z.cells) sz with
        | true, true => .alloc fun tm => match splaces tm ps with
          | some ps => (match safill ps (reps (ofAV z).cells len) with | some cs => .leaf (.row e cs none, fun b => .sl b 0 len (.known len)) | none => .fail)
          | none => .fail
        | _, _ => .bad
      | _, _, _ => .bad
    | _ => .bad
  | .load t x => match P.underlying t, sizeOfT P t with
    | some d, some sz => .load fun tm h => un1 x tm fun p => sLoad (isAggD d) sz p h
    | _, _ => .bad
  | .store t x v => match sizeOfT P t with
    | some sz => .heavy fun _ tm h => match opd3 x tm, opd3 v tm with | some p, some v => (sStore sz p v h).bind fun h => .leaf (.undef, h) | _, _ => .fail
    | none => .bad
  | .nilCheck x => .pure fun tm => un1 x tm fun v => match v with | .ptr _ _ => .leaf v | .eptr _ _ _ _ => .leaf v | .func _ _ _ => .leaf v | .yield _ => .leaf v | _ => .fail
  | .binOp op t x y _ => seBin P op t x y
  | .unOp op _ x => match op with
    | .not => .pure fun tm => un1 x tm fun v => match v with | .b o x => .leaf (.b o (!x)) | _ => .fail
    | _ => .bad
  | .convert s d x => seConvert P s d x
  | .makeFunc fn first captured => match fn with
    | .func f => .pure fun tm => match opds3 first.toList tm, opds3 captured.toList tm with | some a, some c => .leaf (.func f a c) | _, _ => .fail
    | _ => .bad
  | .makeMap t r => match r with
    | none => (match P.underlying t with
      | some (.map kt vt) => (match P.underlying kt, P.underlying vt with
        | some .string, some (.int .i64) => .alloc fun _ => .leaf (.smap [], fun b => .map b)
        | _, _ => .alloc fun _ => .leaf (.map [] 0, fun b => .map b))
      | _ => .bad)
    | some _ => .bad
  | .makeSlice t l c => match P.underlying t with
    | some (.slice e) => match zeroOf P e, P.info? e with
      | some z, some i => match Nat.beq (llen z.cells) i.size, Nat.beq i.size 0, Nat.blt i.bytes 65536 with
        | true, false, true => .alloc fun tm => match (opd3 l tm).bind clNat, (opd3 c tm).bind clNat with
          | some l, some c => (match Nat.ble l c, small c with | true, true => .leaf (.row e (reps (ofAV z).cells c) none, fun b => .sl b 0 l (.known c)) | _, _ => .fail)
          | _, _ => .fail
        | _, _, _ => .bad
      | _, _ => .bad
    | _ => .bad
  | .slice t x lo hi mx => match P.underlying t with
    | some .string => (match mx with
      | none => .pure fun tm => (match opd3 x tm, optOpd lo tm, optOpd hi tm with | some v, some lo, some hi => sSliceStr v lo hi | _, _, _ => .fail)
      | some _ => .bad)
    | some (.slice e) => (match sizeOfT P e with
      | some sz => (match Nat.beq sz 0 with
        | false => .load fun tm h => (match opd3 x tm, optOpd lo tm, optOpd hi tm, optOpd mx tm with | some v, some lo, some hi, some mx => sSlice sz h v lo hi mx | _, _, _, _ => .fail)
        | true => .bad)
      | none => .bad)
    | _ => .bad
  | .fieldAddr s x f => match P.underlying s with
    | some (.struct fs) => match fs[f]? with
      | some f => match sizeOfT P f.type with
        | some sz => match Nat.beq sz 0 with
          | false => .pure fun tm => un1 x tm fun v => match v with
            | .ptr b off => .leaf (.ptr b (off + f.offset))
            | .eptr b sz i fo => .leaf (.eptr b sz i (fo + f.offset))
            | _ => .fail
          | true => .bad
        | none => .bad
      | none => .bad
    | _ => .bad
  | .indexAddr t x i => match P.underlying t with
    | some (.slice e) => (match sizeOfT P e with
      | some sz => .pure fun tm => un2 x i tm (sIndexAddr sz)
      | none => .bad)
    | _ => .bad
  | .index t x i => match P.underlying t with
    | some .string => .pure fun tm => un2 x i tm sIndexStr
    | _ => .bad
  | .lookup t m k ok => match P.underlying t with
    | some (.map kt e) => match zeroOf P e, compileEq P 5 kt with
      | some z, some q => .load fun tm h => un2 m k tm fun m k => sLookup q (ofAV z) ok h m k
      | _, _ => .bad
    | _ => .bad
  | .mapUpdate t m k x => match P.underlying t with
    | some (.map kt _) => match compileEq P 5 kt with
      | some q => .heavy fun _ tm h => match opd3 m tm, opd3 k tm, opd3 x tm with | some m, some k, some x => sMapPut q h m k x | _, _, _ => .fail
      | none => .bad
    | _ => .bad
  | .insert t m k x => match P.underlying t with
    | some (.map kt _) => match compileEq P 5 kt with
      | some q => .heavy fun _ tm h => match opd3 m tm, opd3 k tm, opd3 x tm with | some m, some k, some x => sMapPut q h m k x | _, _, _ => .fail
      | none => .bad
    | _ => .bad
  | .extract x i => .pure fun tm => un1 x tm fun v => match v with | .tuple l => ofOpt (lget l i) | _ => .fail
  | .call c => seCall P c c.args.toList
  | _ => .bad

/-! ### Regions -/
structure S3 where
  t : T3
  h : SH
structure SItem3 where
  guard : Option (Option Tmp × Bool)
  dst : Option Tmp
  op : SOp
def tput3 (t : T3) (d : Option Tmp) (v : SV) : T3 := match d with | some d => t.set (posOf d) v | none => t
/-- whether an operation is wanted: what comes if it is, and if not -/
def wanted3 {α : Type} (t : T3) (g : Option (Option Tmp × Bool)) (k : T3 → Bool → DT α) : DT α :=
  match g with
  | none => k t true
  | some g => match g.1 with
    | none => k t false
    | some d => match t.get (posOf d) with
      | some (.b o x) => (match o with
        | false => k t (beqv x g.2)
        | true => .node x (k (t.set (posOf d) (.b false true)) (beqv true g.2)) (k (t.set (posOf d) (.b false false)) (beqv false g.2)))
      | some (.tuple l) => (match l with | [] => k t false | _ :: _ => .fail)
      | _ => .fail
def SOp.run (op : SOp) (rec : R3) (t : T3) (h : SH) : DT (SV × SH) :=
  match op with
  | .bad => .fail
  | .pure f => (f t).bind fun v => .leaf (v, h)
  | .load f => (f t h).bind fun v => .leaf (v, h)
  | .alloc f => (f t).bind fun a => .leaf (a.2 h.nm, h.add a.1)
  | .heavy f => f rec t h
def seOpIn (P : Program) (nt : Nat) (o : Oper) : SOp :=
  match o.op.operands.toList.all okOpd with
  | true => (match o.dst with
    | some d => (match Nat.blt d nt with | true => seOp P o | false => .bad)
    | none => seOp P o)
  | false => .bad
def seItem (P : Program) (nt : Nat) (ops : Array Oper) (o : Oper) : SItem3 :=
  ⟨match o.guard with | none => none | some (j, w) => some ((ops[j]?).bind (·.dst), w), o.dst, seOpIn P nt o⟩
def seItems (P : Program) (nt : Nat) (ops : Array Oper) (rec : R3) : List Oper → S3 → DT S3
  | [], s => .leaf s
  | o :: l, s => (wanted3 s.t (seItem P nt ops o).guard fun t w => match w with
      | true => ((seItem P nt ops o).op.run rec t s.h).bind fun r => .leaf ⟨tput3 t o.dst r.1, r.2⟩
      | false => .leaf ⟨tput3 t o.dst .undef, s.h⟩).bind (seItems P nt ops rec l)
/-- the same value: what must be so -/
def same3 (x y : SV) : Option Bool :=
  match x, y with
  | .b _ u, .b _ w => some (u == w)
  | .i _ k u, .i _ k' w => (match ikeq k k' with | true => some (decide (u = w)) | false => none)
  | .s _ u, .s _ w => some (decide (u = w))
  | .nil k, .nil k' => (match Nat.beq k.no k'.no with | true => some true | false => none)
  | .ptr u i, .ptr w j => (match Nat.beq u w, Nat.beq i j with | true, true => some true | _, _ => none)
  | .map u, .map w => (match Nat.beq u w with | true => some true | false => none)
  | .sl u o l c, .sl w o' l' c' => (match Nat.beq u w, Nat.beq o o', Nat.beq l l', c, c' with
    | true, true, true, .known c, .known c' => (match Nat.beq c c' with | true => some true | false => none)
    | true, true, true, .opn c, .opn c' => (match Nat.beq c c' with | true => some true | false => none)
    | _, _, _, _, _ => none)
  | .tsl u sz lo l, .tsl w sz' lo' l' => (match Nat.beq u w, Nat.beq sz sz' with | true, true => some (decide (lo = lo') && decide (l = l')) | _, _ => none)
  | .func f a c, .func g a' c' => (match Nat.beq f g, a, a', c, c' with | true, [], [], [], [] => some true | _, _, _, _, _ => none)
  | _, _ => none
def sameL3 : List SV → List SV → Option Bool
  | [], [] => some true
  | a :: l, b :: m => match same3 a b, sameL3 l m with | some x, some y => some (x && y) | _, _ => none
  | _, _ => none
def same4 (x y : SV) : Option Bool :=
  match x, y with
  | .agg l, .agg m => sameL3 l m
  | .tuple l, .tuple m => sameL3 l m
  | x, y => same3 x y
structure Look3 where
  ix : Nat
  f : SH → DT SV
  v : SV
def recheck3 (anc : Nat) (h : SH) (ls : List Look3) : DT (List Look3) :=
  match ls with
  | [] => .leaf []
  | k :: l => match Nat.testBit anc k.ix with
    | true => recheck3 anc h l
    | false => (k.f h).bind fun v => match same4 v k.v with
      | some c => .need c ((recheck3 anc h l).bind fun r => .leaf (k :: r))
      | none => .fail
structure Pend3 where
  ix : Nat
  x : Nat
  o : SO
def mat3 (anc : Nat) (l : List Pend3) (h : SH) : SH :=
  match l with
  | [] => h
  | p :: l => match Nat.testBit anc p.ix with
    | true => ⟨(p.x, p.o) :: (mat3 anc l h).objs, (mat3 anc l h).nm⟩
    | false => mat3 anc l h
def matAll3 (l : List Pend3) (h : SH) : SH :=
  match l with
  | [] => h
  | p :: l => ⟨(p.x, p.o) :: (matAll3 l h).objs, (matAll3 l h).nm⟩
def SH.bump (h : SH) : SH := ⟨h.objs, Nat.succ h.nm⟩
/-- the order of a plan, with symbolic operations beside -/
structure PI3 where
  p : PI
  o : SOp
structure PS3 where
  ks : List Look3
  ps : List Pend3
  t : T3
  h : SH
def sePlan (rec : R3) : List PI3 → PS3 → DT S3
  | [], s => .leaf ⟨s.t, matAll3 s.ps s.h⟩
  | p :: l, s => (wanted3 s.t p.p.item.guard fun t w => match w with
      | true => (match p.o with
        | .bad => .fail
        | .pure f => (f t).bind fun v => .leaf (⟨s.ks, s.ps, tput3 t p.p.item.dst v, s.h⟩ : PS3)
        | .load f => (f t s.h).bind fun v => .leaf ⟨⟨p.p.ix, f t, v⟩ :: s.ks, s.ps, tput3 t p.p.item.dst v, s.h⟩
        | .alloc f => (f t).bind fun a => .leaf ⟨s.ks, ⟨p.p.ix, s.h.nm, a.1⟩ :: s.ps, tput3 t p.p.item.dst (a.2 s.h.nm), s.h.bump⟩
        | .heavy f => (f rec t (mat3 p.p.anc s.ps s.h)).bind fun r => (recheck3 p.p.anc r.2 s.ks).bind fun ks => .leaf ⟨ks, lfilter (fun q => bnot (Nat.testBit p.p.anc q.ix)) s.ps, tput3 t p.p.item.dst r.1, r.2⟩)
      | false => .leaf ⟨s.ks, s.ps, tput3 t p.p.item.dst .undef, s.h⟩).bind (sePlan rec l)
def withOps (P : Program) (nt : Nat) (ops : Array Oper) : List PI → Option (List PI3)
  | [] => some []
  | p :: l => match ops[p.ix]?, withOps P nt ops l with | some o, some r => some (⟨p, seOpIn P nt o⟩ :: r) | _, _ => none

/-! ### Code -/
structure E3 where
  e : AExit
  t : T3
  h : SH
abbrev L3 := Nat → Option (S3 → DT E3)
def E3.then (o : E3) (k : S3 → DT E3) : DT E3 := match o.e with | .normal => k ⟨o.t, o.h⟩ | _ => .leaf o
def unroll (c : S3 → DT E3) : Nat → S3 → DT E3
  | 0, _ => .fail
  | n + 1, s => (c s).bind fun o => o.then (unroll c n)
def blkEnd (id : Nat) (o : E3) : E3 := match o.e with | .exit i => (match Nat.beq i id with | true => ⟨.normal, o.t, o.h⟩ | false => o) | _ => o
def setTmp (c : Operand) (t : T3) (b : Bool) : T3 := match c with | .tmp i => t.set (posOf i) (.b false b) | _ => t
def seCode (P : Program) (nt : Nat) (lp : L3) (rec : R3) : Code → S3 → DT E3
  | .skip, s => .leaf ⟨.normal, s.t, s.h⟩
  | .region _ ops draw, s => match draw with
    | false => (seItems P nt ops rec ops.toList s).bind fun r => .leaf ⟨.normal, r.t, r.h⟩
    | true => match (plan P nt ops).bind (withOps P nt ops) with
      | some pl => (sePlan rec pl ⟨[], [], s.t, s.h⟩).bind fun r => .leaf ⟨.normal, r.t, r.h⟩
      | none => .fail
  | .seq a b, s => (seCode P nt lp rec a s).bind fun o => o.then (seCode P nt lp rec b)
  | .cond c a b, s => match opd3 c s.t with
    | some (.b o x) => (match o with
      | false => (match x with | true => seCode P nt lp rec a s | false => seCode P nt lp rec b s)
      | true => .node x (seCode P nt lp rec a ⟨setTmp c s.t true, s.h⟩) (seCode P nt lp rec b ⟨setTmp c s.t false, s.h⟩))
    | _ => .fail
  | .block id c, s => match lp id with
    | some f => f s
    | none => (seCode P nt lp rec c s).bind fun o => .leaf (blkEnd id o)
  | .loop c, s => unroll (seCode P nt lp rec c) 32 s
  | .exit id, s => .leaf ⟨.exit id, s.t, s.h⟩
  | .ret, s => .leaf ⟨.ret, s.t, s.h⟩
  | _, _ => .fail
def initT3 (l : List SV) (i : Nat) (t : T3) : T3 := match l with | [] => t | v :: l => initT3 l (Nat.succ i) (t.set (posOf i) v)
def res3 (P : Program) (r : ResultVar) (t : T3) (h : SH) : DT SV :=
  match r with
  | .tmp i => ofOpt (t.get (posOf i))
  | .cell a ty => match P.underlying ty, sizeOfT P ty, t.get (posOf a) with
    | some d, some sz, some p => sLoad (isAggD d) sz p h
    | _, _, _ => .fail
def resAll3 (P : Program) (h : SH) (t : T3) : List ResultVar → DT (List SV)
  | [] => .leaf []
  | r :: l => (res3 P r t h).bind fun v => (resAll3 P h t l).bind fun vs => .leaf (v :: vs)
def tupled3 (l : List SV) : SV := match l with | [] => .tuple [] | a :: r => match r with | [] => a | b :: s => .tuple (a :: b :: s)
def finish3 (P : Program) (rs : List ResultVar) (o : E3) : DT (SV × SH) :=
  match o.e with
  | .exit _ => .fail
  | _ => (resAll3 P o.h o.t rs).bind fun vs => .leaf (tupled3 vs, o.h)
def seFn (P : Program) (lp : FuncId → L3) (rec : R3) (f : FuncId) (args : List SV) (h : SH) : DT (SV × SH) :=
  match P.funcs[f]? with
  | some fn => match fn.body with
    | some c => (match Nat.ble (llen args) fn.ntmps with
      | true => (seCode P fn.ntmps (lp f) rec c ⟨initT3 args 0 .leaf, h⟩).bind (finish3 P fn.results.toList)
      | false => .fail)
    | none => .fail
  | none => .fail
/-- contracts: the depth that they ask, and what they tell -/
abbrev Spec := List SV → SH → DT (SV × SH)
structure Cfg where
  spec : FuncId → Option (Nat × Spec)
  loop : FuncId → Nat → Option (Nat × (S3 → DT E3))
def Cfg.lp (C : Cfg) (n : Nat) (f : FuncId) : L3 := fun id => match C.loop f id with | some (d, s) => (match Nat.ble d n with | true => some s | false => some fun _ => .fail) | none => none
/-- one round of a range over a function -/
def seRound (P : Program) (rec : R3) (args : List SV) (sh : SH) : DT (SV × SH) :=
  match args with
  | .yield x :: vs => (match sh.get x with
    | some (.loop f ix ts ps a c) => (match noRange a && noRange c && lall (fun p => Nat.blt p (ntOf P f)) ps, setPs ps vs (mkT3 ix ts) with
      | true, some t => (seCode P (ntOf P f) (fun _ => none) rec a ⟨t, sh.del x⟩).bind fun o => (match o.e with
        | .normal => (seCode P (ntOf P f) (fun _ => none) rec c ⟨o.t, o.h⟩).bind fun o => (match o.e with
          | .normal => .leaf (.b false true, ⟨(x, .loop f ix ts ps a c) :: o.h.objs, o.h.nm⟩)
          | _ => .fail)
        | _ => .fail)
      | _, _ => .fail)
    | _ => .fail)
  | _ => .fail
def se (P : Program) (C : Cfg) : Nat → R3
  | 0 => fun _ _ _ => .fail
  | n + 1 => fun f args h => match Nat.beq f yieldF with
    | true => seRound P (se P C n) args h
    | false => match C.spec f with
      | some (d, s) => (match Nat.ble d (Nat.succ n) with | true => s args h | false => .fail)
      | none => seFn P (C.lp n) (se P C n) f args h
end
end Go.Proofs.YtgemonlknehegaaGreatDoor.AI
