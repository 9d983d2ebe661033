/- The chain of TopRefuses, part 22. -/
import Derived.Test.YtgemonlknehegaaGreatDoorK01
namespace Go.Proofs.YtgemonlknehegaaGreatDoor.AI
open Go
set_option linter.unusedVariables false
noncomputable section

/-! ### Trees of outcomes -/
inductive DT (α : Type) where
  | leaf (a : α)
  | node (c : Bool) (x y : DT α)
  | fail
def DT.val {α : Type} : DT α → Option α
  | .leaf a => some a
  | .node c x y => bif c then x.val else y.val
  | .fail => none
def DT.bind {α β : Type} (d : DT α) (k : α → DT β) : DT β :=
  match d with
  | .leaf a => k a
  | .node c x y => .node c (x.bind k) (y.bind k)
  | .fail => .fail
def DT.map {α β : Type} (f : α → β) (d : DT α) : DT β := d.bind fun a => .leaf (f a)
def DT.need {α : Type} (c : Bool) (d : DT α) : DT α := .node c d .fail
def ofOpt {α : Type} (o : Option α) : DT α := match o with | some a => .leaf a | none => .fail

/-! ### Symbolic values and objects -/
inductive SV where
  | b (o : Bool) (x : Bool)
  | i (o : Bool) (k : IntKind) (n : Int)
  | s (o : Bool) (l : List UInt8)
  | nil (k : NK)
  | ptr (x off : Nat)
  | sl (x off len : Nat) (cap : ACap)
  | map (x : Nat)
  | func (f : FuncId) (first cap : List SV)
  | yield (x : Nat)
  | agg (l : List SV)
  | tuple (l : List SV)
  /-- a part of a list of records -/
  | tsl (x sz lo len : Nat)
  | etl (x off skip l sz : Nat)
  /-- a place in a record of a list -/
  | eptr (x sz i fo : Nat)
  | o (a : AV)
inductive Lf where
  | b (x : Bool)
  | n (x : Int)
  | s (x : List UInt8)
def Lf.toB : Lf → Bool | .b x => x | _ => false
def Lf.toN : Lf → Int | .n x => x | _ => 0
def Lf.toS : Lf → List UInt8 | .s x => x | _ => []
abbrev Rc := List Lf
inductive FK where
  | bool
  | int (k : IntKind)
  | str
instance : DecidableEq FK
  | .bool, .bool => isTrue rfl
  | .str, .str => isTrue rfl
  | .int a, .int b => match decEq a b with
    | isTrue h => isTrue (by rw [h])
    | isFalse h => isFalse fun e => h (FK.int.inj e)
  | .bool, .int _ => isFalse (by intro e; cases e)
  | .bool, .str => isFalse (by intro e; cases e)
  | .int _, .bool => isFalse (by intro e; cases e)
  | .int _, .str => isFalse (by intro e; cases e)
  | .str, .bool => isFalse (by intro e; cases e)
  | .str, .int _ => isFalse (by intro e; cases e)
def FK.av (k : FK) (x : Lf) : AV := match k with | .bool => .bool x.toB | .int k => .int k x.toN | .str => .str x.toS
def FK.sv (k : FK) (x : Lf) : SV := match k with | .bool => .b true x.toB | .int k => .i true k x.toN | .str => .s true x.toS
def encR : List FK → Rc → List AV
  | [], _ => []
  | k :: S, r => k.av (r.headD (.n 0)) :: encR S r.tail
def svR : List FK → Rc → List SV
  | [], _ => []
  | k :: S, r => k.sv (r.headD (.n 0)) :: svR S r.tail
def encL (S : List FK) (l : List Rc) : List AV := l.flatMap (encR S)
def fld (r : Rc) (j : Nat) : Lf := r.getD j (.n 0)
def fldN (r : Rc) (j : Nat) : Int := (fld r j).toN
def fldS (r : Rc) (j : Nat) : List UInt8 := (fld r j).toS
inductive SO where
  | row (ty : TypeId) (cells : List SV) (opn : Option Nat)
  | lrow (ty : TypeId) (S : List FK) (l : List Rc)
  | bytes (ty : TypeId) (l : List UInt8)
  | map (es : List (SV × SV × Nat)) (clock : Nat)
  /-- texts and their numbers -/
  | smap (l : List (List UInt8 × Int))
  /-- a range over a function, between two rounds: the function, its temporaries, parameters, code -/
  | loop (f : FuncId) (ix : List Nat) (ts : List SV) (ps : List Nat) (a c : Code)
structure SH where
  objs : List (Nat × SO)
  nm : Nat
def oget (l : List (Nat × SO)) (x : Nat) : Option SO :=
  match l with
  | [] => none
  | p :: l => match Nat.beq p.1 x with | true => some p.2 | false => oget l x
def oset (l : List (Nat × SO)) (x : Nat) (o : SO) : List (Nat × SO) :=
  match l with
  | [] => []
  | p :: l => match Nat.beq p.1 x with | true => (x, o) :: l | false => p :: oset l x o
def odel (l : List (Nat × SO)) (x : Nat) : List (Nat × SO) :=
  match l with
  | [] => []
  | p :: l => match Nat.beq p.1 x with | true => odel l x | false => p :: odel l x
def SH.get (h : SH) (x : Nat) : Option SO := oget h.objs x
def SH.put (h : SH) (x : Nat) (o : SO) : SH := ⟨oset h.objs x o, h.nm⟩
def SH.del (h : SH) (x : Nat) : SH := ⟨odel h.objs x, h.nm⟩
def SH.add (h : SH) (o : SO) : SH := ⟨(h.nm, o) :: h.objs, Nat.succ h.nm⟩
def SH.empty : SH := ⟨[], 0⟩
abbrev T3 := T SV
def mkT3 : List Nat → List SV → T3
  | i :: l, v :: vs => (mkT3 l vs).set (posOf i) v
  | _, _ => .leaf
def setPs : List Nat → List SV → T3 → Option T3
  | [], [], t => some t
  | p :: ps, a :: as, t => setPs ps as (t.set (posOf p) a)
  | _, _, _ => none
/-- the name by which rounds are called -/
def yieldF : FuncId := 1000000
def noRange : Code → Bool
  | .rangeFunc _ _ _ _ => false
  | .seq a b => noRange a && noRange b
  | .cond _ a b => noRange a && noRange b
  | .block _ c => noRange c
  | .loop c => noRange c
  | _ => true
def SV.undef : SV := .tuple []
/-- a value that is written out, as a symbolic one -/
def ofAV1 (v : AV) : SV :=
  match v with
  | .bool b => .b false b
  | .int k n => .i false k n
  | .str s => .s false s
  | .nil k => .nil k
  | .func f a c => match a, c with | [], [] => .func f [] [] | _, _ => .o v
  | v => .o v
def ofAV (v : AV) : SV :=
  match v with
  | .agg l => .agg (l.map ofAV1)
  | .tuple l => match l with | [] => .tuple [] | _ :: _ => .o v
  | v => ofAV1 v
/-- a value that is written out, as such -/
def cl1 (v : SV) : Option AV :=
  match v with
  | .b o x => match o with | false => some (.bool x) | true => none
  | .i o k n => match o with | false => some (.int k n) | true => none
  | .s o l => match o with | false => some (.str l) | true => none
  | .nil k => some (.nil k)
  | _ => none
def opd3 (x : Operand) (t : T3) : Option SV :=
  match x with
  | .tmp i => t.get (posOf i)
  | .const v => some (ofAV (ofValue v))
  | .func f => some (.func f [] [])
  | .global _ => none
def opds3 (xs : List Operand) (t : T3) : Option (List SV) :=
  match xs with
  | [] => some []
  | x :: l => match opd3 x t, opds3 l t with | some v, some vs => some (v :: vs) | _, _ => none
def SV.cells (v : SV) : List SV := match v with | .agg l => l | v => [v]
/-- a value of one cell -/
def SV.one (v : SV) : Bool := match v with | .agg _ => false | .tuple _ => false | .o _ => false | _ => true
def allOne3 (l : List SV) : Bool := match l with | [] => true | v :: l => match v.one with | true => allOne3 l | false => false

/-! ### Pure operations -/
def ar2 (x y : SV) (f : IntKind → Int → Int → DT SV) : DT SV :=
  match x, y with
  | .i _ k a, .i _ k' b => match ikeq k k' with | true => f k a b | false => .fail
  | _, _ => .fail
def nn (a : Int) : Bool := decide (0 ≤ a)
def inB (k : IntKind) (a : Int) : Bool := decide (0 ≤ a ∧ a < (bnd k : Int))
def aBin (op : BinOp) (x y : AV) : Option AV :=
  match op with
  | .add => aAdd x y
  | .sub => aSub x y
  | .mul => aMul x y
  | .quo => aQuo x y
  | .rem => aRem x y
  | .and => aBits Nat.land x y
  | .or => aBits Nat.lor x y
  | .xor => aBits Nat.xor x y
  | .andNot => aBits nAndNot x y
  | .shl => aShl x y
  | .shr => aShr x y
  | .lss => aCmp Nat.blt (fun a b => decide (a < b)) x y
  | .leq => aCmp Nat.ble (fun a b => decide (a ≤ b)) x y
  | .gtr => aCmp (fun a b => Nat.blt b a) (fun a b => decide (b < a)) x y
  | .geq => aCmp (fun a b => Nat.ble b a) (fun a b => decide (b ≤ a)) x y
  | _ => none
/-- a number of bits, of open numbers -/
def nat2S (f : Nat → Nat → Nat) (a b : Int) : Int := Int.ofNat (f a.toNat b.toNat)
def sBinO (op : BinOp) (x y : SV) : DT SV :=
  match op with
  | .add => match x, y with
    | .s _ a, .s _ b => .need (decide (a.length + b.length < 9223372036854775808)) (.leaf (.s true (a ++ b)))
    | _, _ => ar2 x y fun k a b => .leaf (.i true k (k.wrap (a + b)))
  | .sub => ar2 x y fun k a b => .leaf (.i true k (k.wrap (a - b)))
  | .mul => ar2 x y fun k a b => .need (nn a && nn b) (.leaf (.i true k (k.wrap (a * b))))
  | .quo => ar2 x y fun k a b => .need (nn a && decide (0 < b)) (.leaf (.i true k (k.wrap (a / b))))
  | .rem => ar2 x y fun k a b => .need (nn a && decide (0 < b)) (.leaf (.i true k (a % b)))
  | .and => ar2 x y fun k a b => .need (inB k a && inB k b) (.leaf (.i true k (nat2S Nat.land a b)))
  | .or => ar2 x y fun k a b => .need (inB k a && inB k b) (.leaf (.i true k (nat2S Nat.lor a b)))
  | .xor => ar2 x y fun k a b => .need (inB k a && inB k b) (.leaf (.i true k (nat2S Nat.xor a b)))
  | .andNot => ar2 x y fun k a b => .need (inB k a && inB k b) (.leaf (.i true k (nat2S nAndNot a b)))
  | .shl => match x, y with
    | .i _ k a, .i _ _ b => .need (nn a && nn b) (.leaf (.i true k (k.wrap (Int.ofNat (a.toNat * 2 ^ min b.toNat (bitsOf k))))))
    | _, _ => .fail
  | .shr => match x, y with
    | .i _ k a, .i _ _ b => .need (nn a && nn b) (.leaf (.i true k (Int.ofNat (a.toNat / 2 ^ min b.toNat (bitsOf k)))))
    | _, _ => .fail
  | .lss => ar2 x y fun _ a b => .leaf (.b true (decide (a < b)))
  | .leq => ar2 x y fun _ a b => .leaf (.b true (decide (a ≤ b)))
  | .gtr => ar2 x y fun _ a b => .leaf (.b true (decide (b < a)))
  | .geq => ar2 x y fun _ a b => .leaf (.b true (decide (b ≤ a)))
  | _ => .fail
def sBin (op : BinOp) (x y : SV) : DT SV :=
  match cl1 x, cl1 y with
  | some a, some b => match aBin op a b with | some r => .leaf (ofAV r) | none => .fail
  | _, _ => sBinO op x y
/-- equality: (open, truth) -/
structure TB where
  o : Bool
  c : Bool
def TB.sv (x : TB) : SV := .b x.o x.c
def TB.and (x y : TB) : TB :=
  match x.o with
  | false => match x.c with | true => y | false => ⟨false, false⟩
  | true => match y.o with
    | false => match y.c with | true => x | false => ⟨false, false⟩
    | true => ⟨true, x.c && y.c⟩
def SV.isNilK (v : SV) (n : Nat) : Option Bool :=
  match v with
  | .nil k => match Nat.beq k.no n with | true => some true | false => none
  | _ => none
def isRef (v : SV) : Bool := match v with | .ptr _ _ => true | .eptr _ _ _ _ => true | _ => false
def isSlV (v : SV) : Bool := match v with | .sl _ _ _ _ => true | .tsl _ _ _ _ => true | .etl _ _ _ _ _ => true | _ => false
def isMapV (v : SV) : Bool := match v with | .map _ => true | _ => false
def isFuncV (v : SV) : Bool := match v with | .func _ _ _ => true | _ => false
def nilEq (is : SV → Bool) (n : Nat) (x y : SV) : Option TB :=
  match x.isNilK n, y.isNilK n with
  | some _, some _ => some ⟨false, true⟩
  | some _, none => match is y with | true => some ⟨false, false⟩ | false => none
  | none, some _ => match is x with | true => some ⟨false, false⟩ | false => none
  | none, none => none
def part3 (cs : List SV) (off : Nat) (sz : Option Nat) : Option SV :=
  match sz with
  | none => lget cs off
  | some n => match ltake n (ldrop off cs) with | some l => some (.agg l) | none => none
def seqL (q : EqK → SV → SV → Option TB) : List (Nat × Option Nat × EqK) → List SV → List SV → Option TB
  | [], _, _ => some ⟨false, true⟩
  | f :: l, xs, ys => match part3 xs f.1 f.2.1, part3 ys f.1 f.2.1 with
    | some a, some b => match q f.2.2 a b, seqL q l xs ys with
      | some r, some r' => some (r.and r')
      | _, _ => none
    | _, _ => none
def seq3 : Nat → EqK → SV → SV → Option TB
  | 0, _, _, _ => none
  | d + 1, q, x, y => match q with
    | .bool => match x, y with | .b o a, .b o' b => some ⟨o || o', a == b⟩ | _, _ => none
    | .int => match x, y with | .i o k a, .i o' k' b => (match ikeq k k' with | true => some ⟨o || o', decide (a = b)⟩ | false => none) | _, _ => none
    | .str => match x, y with | .s o a, .s o' b => some ⟨o || o', decide (a = b)⟩ | _, _ => none
    | .ptr => match x, y with
      | .ptr a i, .ptr b j => (match Nat.beq a b with | true => some ⟨false, Nat.beq i j⟩ | false => none)
      | _, _ => nilEq isRef 0 x y
    | .slice => match isSlV x && isSlV y with | true => none | false => nilEq isSlV 1 x y
    | .map => match isMapV x && isMapV y with | true => none | false => nilEq isMapV 2 x y
    | .func => match isFuncV x && isFuncV y with | true => none | false => nilEq isFuncV 3 x y
    | .struct fs => match x, y with | .agg xs, .agg ys => seqL (seq3 d) fs xs ys | _, _ => none
def nat3 (v : SV) (k : Bool → Nat → DT SV) : DT SV :=
  match v with
  | .i o _ n => match o with
    | false => match n with | .ofNat n => k false n | _ => .fail
    | true => .need (nn n) (k true n.toNat)
  | _ => .fail
/-- the place of an open index among closed ones -/
def closedIx (i : Nat) (k : Nat → DT SV) : Nat → DT SV
  | 0 => .fail
  | n + 1 => .node (decide (i = n)) (k n) (closedIx i k n)
def sIndexAddr (sz : Nat) (x i : SV) : DT SV :=
  match x with
  | .sl x off len _ => nat3 i fun o k => match o with
    | false => (match Nat.blt k len with | true => .leaf (.ptr x (off + k * sz)) | false => .fail)
    | true => closedIx k (fun k => .leaf (.ptr x (off + k * sz))) len
  | .tsl x sz' lo len => match Nat.beq sz sz' with
    | true => nat3 i fun _ k => .need (decide (k < len)) (.leaf (.eptr x sz (lo + k) 0))
    | false => .fail
  | _ => .fail
def sIndexStr (x i : SV) : DT SV :=
  match x with
  | .s o l => nat3 i fun o' k => match o || o' with
    | false => (match lget l k with | some b => .leaf (.i false .u8 (Int.ofNat b.toNat)) | none => .fail)
    | true => .need (decide (k < l.length)) (.leaf (.i true .u8 (Int.ofNat (l.getD k 0).toNat)))
  | _ => .fail
def optNat (v : Option SV) (d : Bool × Nat) (k : Bool → Nat → DT SV) : DT SV :=
  match v with | none => k d.1 d.2 | some v => nat3 v k
def sSliceStr (x : SV) (lo hi : Option SV) : DT SV :=
  match x with
  | .s o l => optNat hi (o, l.length) fun o1 b => optNat lo (false, 0) fun o2 a => match o || (o1 || o2) with
    | false => (match Nat.ble b (llen l), Nat.ble a b with
      | true, true => (match ltake (Nat.sub b a) (ldrop a l) with | some r => .leaf (.s false r) | none => .fail)
      | _, _ => .fail)
    | true => .need (decide (a ≤ b ∧ b ≤ l.length)) (.leaf (.s true ((l.drop a).take (b - a))))
  | _ => .fail
def sLen (x : SV) : DT SV :=
  match x with
  | .s o l => match o with | false => .leaf (.i false .i64 (Int.ofNat (llen l))) | true => .leaf (.i true .i64 (Int.ofNat l.length))
  | .nil k => match Nat.beq k.no 1 with | true => .leaf (.i false .i64 (Int.ofNat 0)) | false => .fail
  | .sl _ _ len _ => .leaf (.i false .i64 (Int.ofNat len))
  | .tsl _ _ _ len => .leaf (.i true .i64 (Int.ofNat len))
  | .etl _ _ _ _ _ => .leaf (.i false .i64 (Int.ofNat 0))
  | _ => .fail
def sMin (mx : Bool) (x y : SV) : DT SV :=
  match x, y with
  | .i o k a, .i o' k' b => match ikeq k k' with
    | true => (match o || o' with
      | false => (match aMin mx (.int k a) (.int k b) with | some r => .leaf (ofAV r) | none => .fail)
      | true => .leaf (.i true k (if mx then max a b else min a b)))
    | false => .fail
  | _, _ => .fail
def sFoldMin (mx : Bool) : SV → List SV → DT SV
  | a, [] => .leaf a
  | a, b :: l => (sMin mx a b).bind fun c => sFoldMin mx c l
def sPick (c a b : SV) : DT SV :=
  match c with
  | .b o x => match o with
    | false => (match x with | true => .leaf a | false => .leaf b)
    | true => (match a, b with
      | .b _ u, .b _ v => .leaf (.b true (bif x then u else v))
      | a, b => .node x (.leaf a) (.leaf b))
  | _ => .fail
def SV.noO (v : SV) : Bool := match v with | .o _ => false | _ => true
def safill (ps : List (Nat × Nat × SV)) (cs : List SV) : Option (List SV) :=
  match ps with
  | [] => some cs
  | p :: l => match p.2.2.noO && Nat.beq (llen p.2.2.cells) p.2.1 with
    | true => (match lput p.1 p.2.2.cells cs with | some cs => safill l cs | none => none)
    | false => none
def splaces (t : T3) (ps : List (Nat × Nat × Operand)) : Option (List (Nat × Nat × SV)) :=
  match ps with
  | [] => some []
  | p :: l => match opd3 p.2.2 t, splaces t l with | some v, some r => some ((p.1, p.2.1, v) :: r) | _, _ => none
def sConvInt (k : IntKind) (x : SV) : DT SV :=
  match x with
  | .i o _ n => match o with
    | false => (match n with | .ofNat m => .leaf (ofAV (mkNat k m)) | n => .leaf (.i false k (k.wrap n)))
    | true => .leaf (.i true k (k.wrap n))
  | _ => .fail
end
end Go.Proofs.YtgemonlknehegaaGreatDoor.AI
