/-
An abstract evaluator of the model's Code over tree values: definitions alone.
-/
import Derived.Recover
import Derived.Test.YtpolhfiikbmplaaGreatDoorEvG
namespace Go.Ev

/-! ### lists -/
def nth {α : Type} : List α → Nat → Option α
  | [], _ => none
  | x :: _, 0 => some x
  | _ :: l, n + 1 => nth l n
def setNth {α : Type} : List α → Nat → α → List α
  | [], _, _ => []
  | _ :: l, 0, y => y :: l
  | x :: l, n + 1, y => x :: setNth l n y
/-- The first n elements, if there are so many. -/
def takeX {α : Type} : Nat → List α → Option (List α)
  | 0, _ => some []
  | _ + 1, [] => none
  | n + 1, x :: l => match takeX n l with
    | some r => some (x :: r)
    | none => none
/-- The list with ys in the place of what stands from i on; none: it does not fit. -/
def putAt {α : Type} : List α → Nat → List α → Option (List α)
  | l, 0, ys => match takeX ys.length l with
    | some _ => some (ys ++ l.drop ys.length)
    | none => none
  | [], _ + 1, _ => none
  | x :: l, n + 1, ys => match putAt l n ys with
    | some r => some (x :: r)
    | none => none
def mapO {α β : Type} (f : α → Option β) : List α → Option (List β)
  | [] => some []
  | x :: l => match f x with
    | none => none
    | some y => match mapO f l with
      | some r => some (y :: r)
      | none => none
/-- A map that hands a state on. -/
def mapS {α β σ : Type} (f : σ → α → Option (β × σ)) : σ → List α → Option (List β × σ)
  | s, [] => some ([], s)
  | s, x :: l => match f s x with
    | none => none
    | some (y, s1) => match mapS f s1 l with
      | some (r, s2) => some (y :: r, s2)
      | none => none
def allB {α : Type} (p : α → Bool) : List α → Bool
  | [] => true
  | x :: l => match p x with
    | true => allB p l
    | false => false
def rep {α : Type} : Nat → List α → List α
  | 0, _ => []
  | n + 1, l => l ++ rep n l

/-! ### values -/
inductive AV where
  | any
  | bool (b : Bool)
  | int (k : IntKind) (n : Int)
  | str (s : List UInt8)
  | nilp
  | ptr (b off : Nat)
  | ip (cs : List AV)
  | nils
  | sl (n : Nat) (cs : List AV) (cap : Option Nat)
  | sr (b off sz n : Nat) (cap : Option Nat)
  | func (fn : Fn) (first caps : List AV)
  | nilf
  | ifc (t : TypeId) (v : AV)
  | nili
  | agg (cs : List AV)
  | tup (vs : List AV)
  /-- any string but these -/
  | sstr (ne : List (List UInt8))
  /-- any number from lo to hi -/
  | siv (k : IntKind) (lo hi : Int)
instance : Inhabited AV := ⟨.any⟩

def AV.cells : AV → List AV
  | .agg cs => cs
  | v => [v]
/-- A value of one cell. -/
def AV.one : AV → Bool
  | .any => false
  | .agg _ => false
  | .tup _ => false
  | _ => true

def ofScalar : Value → AV
  | .bool b => .bool b
  | .int k n => .int k n
  | .string s => .str s.data.toList
  | .pointer none => .nilp
  | .slice none 0 0 => .nils
  | .func f a b => match a.toList, b.toList with
    | [], [] => .func f [] []
    | _, _ => .any
  | .nilFunc => .nilf
  | .nilIface => .nili
  | .tuple vs => match vs.toList with
    | [] => .tup []
    | _ => .any
  | _ => .any
def ofVal : Value → AV
  | .agg cs => .agg (cs.toList.map ofScalar)
  | v => ofScalar v

/-! ### the abstract heap: the newest block first -/
inductive ABlk where
  | cells (cs : List AV)
  | ro (cs : List AV)
  | dead
structure AH where
  n : Nat
  l : List ABlk
def AH.empty : AH := ⟨0, []⟩
def hget (h : AH) (b : Nat) : Option ABlk := match Nat.blt b h.n with
  | true => nth h.l (h.n - 1 - b)
  | false => none
def hset (h : AH) (b : Nat) (k : ABlk) : AH := match Nat.blt b h.n with
  | true => ⟨h.n, setNth h.l (h.n - 1 - b) k⟩
  | false => h
def hnew (h : AH) (k : ABlk) : AH := ⟨h.n + 1, k :: h.l⟩
def hcells (h : AH) (b : Nat) : Option (List AV) := match hget h b with
  | some (.cells cs) => some cs
  | some (.ro cs) => some cs
  | _ => none

/-- n cells from an address on. -/
def rd (h : AH) (v : AV) (n : Nat) : Option (List AV) := match v with
  | .ptr b off => match hcells h b with
    | some cs => takeX n (cs.drop off)
    | none => none
  | .ip cs => takeX n cs
  | _ => none

/-- What a value can see is made read-only, and told as a tree. -/
def fz : Nat → AH → AV → Option (AV × AH)
  | 0, _, _ => none
  | n + 1, h, v => match v with
    | .ptr b off => match hcells h b with
      | some cs => match mapS (fz n) h cs with
        | some (ds, h1) => some (.ip (ds.drop off), hset h1 b (.ro ds))
        | none => none
      | none => none
    | .sr b off sz k cap => match hcells h b with
      | some cs => match mapS (fz n) h cs with
        | some (ds, h1) => match takeX (k * sz) (ds.drop off) with
          | some es => some (.sl k es cap, hset h1 b (.ro ds))
          | none => none
        | none => none
      | none => none
    | .func f a c => match mapS (fz n) h a with
      | some (a1, h1) => match mapS (fz n) h1 c with
        | some (c1, h2) => some (.func f a1 c1, h2)
        | none => none
      | none => none
    | .ifc t x => match fz n h x with
      | some (y, h1) => some (.ifc t y, h1)
      | none => none
    | .agg cs => match mapS (fz n) h cs with
      | some (ds, h1) => some (.agg ds, h1)
      | none => none
    | .tup cs => match mapS (fz n) h cs with
      | some (ds, h1) => some (.tup ds, h1)
      | none => none
    | v => some (v, h)
def fzDepth : Nat := 64

/-- No address of the abstract heap from k on. -/
def lowRef (k : Nat) : Nat → AV → Bool
  | 0, _ => false
  | n + 1, v => match v with
    | .ptr b _ => Nat.blt b k
    | .sr b _ _ _ _ => Nat.blt b k
    | .func _ a c => allB (lowRef k n) a && allB (lowRef k n) c
    | .ifc _ x => lowRef k n x
    | .agg cs => allB (lowRef k n) cs
    | .tup cs => allB (lowRef k n) cs
    | _ => true
def lowBlk (k : Nat) : ABlk → Bool
  | .cells cs => allB (lowRef k fzDepth) cs
  | .ro cs => allB (lowRef k fzDepth) cs
  | .dead => true

/-! ### types -/
inductive TK where
  | int (k : IntKind) | bool | str | ptr | func | iface | map
  | slice (e : TypeId)
  | arr (n : Nat) (e : TypeId)
  | struct (cmp : Bool) (fs : List (Nat × TypeId))
structure TI where
  k : TK
  sz : Nat
  bytes : Nat
  zero : List AV
def TK.agg : TK → Bool
  | .struct _ _ => true
  | .arr _ _ => true
  | _ => false

/-! ### results -/
inductive CRes where
  | ret (v : AV) (h : AH)
  | pan (v : AV) (h : AH)
  | fail
structure Env where
  ty : TypeId → Option TI
  fn : FuncId → Option Func
  mode : FuncId → Nat
  orc : FuncId → List AV → Option AV
  /-- regions (by number and size) whose order is not settled: they are not walked -/
  sus : Nat → Nat → Bool

/-! ### operations that only read -/
def aInt (op : BinOp) (k : IntKind) (a : Int) (b : Int) : Option AV := match op with
  | .add => some (.int k (k.wrap (a + b)))
  | .sub => some (.int k (k.wrap (a - b)))
  | .mul => some (.int k (k.wrap (a * b)))
  | .quo => if b = 0 then none else some (.int k (k.wrap (a.tdiv b)))
  | .rem => if b = 0 then none else some (.int k (a.tmod b))
  | .and => some (.int k (k.wrap (BitVec.ofInt k.bits a &&& BitVec.ofInt k.bits b).toNat))
  | .or => some (.int k (k.wrap (BitVec.ofInt k.bits a ||| BitVec.ofInt k.bits b).toNat))
  | .xor => some (.int k (k.wrap (BitVec.ofInt k.bits a ^^^ BitVec.ofInt k.bits b).toNat))
  | .andNot => some (.int k (k.wrap (BitVec.ofInt k.bits a &&& ~~~ BitVec.ofInt k.bits b).toNat))
  | .eql => some (.bool (a == b))
  | .neq => some (.bool (a != b))
  | .lss => some (.bool (decide (a < b)))
  | .leq => some (.bool (decide (a ≤ b)))
  | .gtr => some (.bool (decide (a > b)))
  | .geq => some (.bool (decide (a ≥ b)))
  | _ => none
def aShift (op : BinOp) (k : IntKind) (a : Int) (b : Int) : Option AV :=
  if b < 0 then none else match op with
  | .shl => some (.int k (k.wrap (a * 2 ^ (min b.toNat k.bits))))
  | .shr => some (.int k (a.fdiv (2 ^ (min b.toNat k.bits))))
  | _ => none
def aStr (op : BinOp) (x y : List UInt8) : Option AV := match op with
  | .add => if x.length + y.length ≤ 9223372036854775807 then some (.str (x ++ y)) else none
  | .eql => some (.bool (x == y))
  | .neq => some (.bool (!(x == y)))
  | .lss => some (.bool (Op.bytesLess x y))
  | .leq => some (.bool (Op.bytesLess x y || x == y))
  | .gtr => some (.bool (!(Op.bytesLess x y || x == y)))
  | .geq => some (.bool (!(Op.bytesLess x y)))
  | _ => none
def isConstO : Operand → Bool
  | .const _ => true
  | _ => false
/-- '==' of two values that are no numbers and no strings. -/
def aEq (k : TK) (x y : AV) : Option Bool := match k, x, y with
  | .bool, .bool a, .bool b => some (a == b)
  | .ptr, .nilp, .nilp => some true
  | .ptr, .ptr _ _, .nilp => some false
  | .ptr, .nilp, .ptr _ _ => some false
  | .ptr, .ip _, .nilp => some false
  | .ptr, .nilp, .ip _ => some false
  | .iface, .nili, .ifc _ _ => some false
  | .iface, .ifc _ _, .nili => some false
  | .slice _, .nils, .nils => some true
  | .slice _, .sr _ _ _ _ _, .nils => some false
  | .slice _, .sl _ (_ :: _) _, .nils => some false
  | .func, .nilf, .nilf => some true
  | .func, .func _ _ _, .nilf => some false
  | _, _, _ => none
def partA (E : Env) (t : TypeId) (cs : List AV) (off : Nat) : Option AV := match E.ty t with
  | some i => match i.k.agg with
    | true => match takeX i.sz (cs.drop off) with
      | some ds => some (.agg ds)
      | none => none
    | false => nth cs off
  | none => none
/-- '==' of structs whose fields are numbers, strings and bools. -/
def eqFields (E : Env) (xs ys : List AV) : List (Nat × TypeId) → Option Bool
  | [] => some true
  | (off, t) :: fs => match partA E t xs off, partA E t ys off, E.ty t with
    | some (.int k a), some (.int k' b), some ⟨.int _, _, _, _⟩ => if k = k' then (match a == b with
      | true => eqFields E xs ys fs
      | false => some false) else none
    | some (.str a), some (.str b), some ⟨.str, _, _, _⟩ => match a == b with
      | true => eqFields E xs ys fs
      | false => some false
    | some (.bool a), some (.bool b), some ⟨.bool, _, _, _⟩ => match a == b with
      | true => eqFields E xs ys fs
      | false => some false
    | _, _, _ => none
def aEqT (E : Env) (t : TypeId) (x y : AV) (constSide : Bool) : Option Bool := match E.ty t with
  | none => none
  | some i => match i.k, x, y with
    | .struct true fs, .agg xs, .agg ys => eqFields E xs ys fs
    | .iface, .nili, .nili => match constSide with
      | true => some true
      | false => none
    | k, x, y => aEq k x y
/-- A number between two bounds, compared with another one. -/
def cmpIv (op : BinOp) (lo hi b : Int) : Option AV := match op with
  | .eql => if b < lo ∨ hi < b then some (.bool false) else none
  | .neq => if b < lo ∨ hi < b then some (.bool true) else none
  | .lss => if hi < b then some (.bool true) else if b ≤ lo then some (.bool false) else none
  | .leq => if hi ≤ b then some (.bool true) else if b < lo then some (.bool false) else none
  | .gtr => if b < lo then some (.bool true) else if hi ≤ b then some (.bool false) else none
  | .geq => if b ≤ lo then some (.bool true) else if hi < b then some (.bool false) else none
  | _ => none
def memS (s : List UInt8) : List (List UInt8) → Bool
  | [] => false
  | t :: l => match s == t with
    | true => true
    | false => memS s l
/-- A string that is none of these, compared with another one. -/
def cmpNe (op : BinOp) (ne : List (List UInt8)) (t : List UInt8) : Option AV := match memS t ne with
  | false => none
  | true => match op with
    | .eql => some (.bool false)
    | .neq => some (.bool true)
    | _ => none
def aBin (E : Env) (op : BinOp) (t : TypeId) (x y : AV) (constSide : Bool) : Option AV := match x, y with
  | .siv k lo hi, .int k' b => if k = k' then cmpIv op lo hi b else none
  | .sstr ne, .str b => cmpNe op ne b
  | .str a, .sstr ne => cmpNe op ne a
  | .int k a, .int k' b => match op with
    | .shl => aShift .shl k a b
    | .shr => aShift .shr k a b
    | op => if k = k' then aInt op k a b else none
  | .str a, .str b => aStr op a b
  | x, y => match aEqT E t x y constSide with
    | some b => match op with
      | .eql => some (.bool b)
      | .neq => some (.bool (!b))
      | _ => none
    | none => none
def aUn (op : UnOp) (x : AV) : Option AV := match op, x with
  | .neg, .int k n => some (.int k (k.wrap (0 - n)))
  | .xor, .int k n => some (.int k (k.wrap (BitVec.ofInt k.bits (if k.signed then -1 else k.max) ^^^ BitVec.ofInt k.bits n).toNat))
  | .not, .bool b => some (.bool (!b))
  | _, _ => none
/-- The cells of a slice or a string, and how many elements. -/
def elemsOf (h : AH) (sz : Nat) : AV → Option (List AV)
  | .nils => some []
  | .sl n cs _ => match takeX (n * sz) cs with
    | some _ => if cs.length = n * sz then some cs else none
    | none => none
  | .sr b off sz' n _ => if sz' = sz then (match hcells h b with
    | some cs => takeX (n * sz) (cs.drop off)
    | none => none) else none
  | .str s => if sz = 1 then some (s.map fun b => .int .u8 b.toNat) else none
  | _ => none
def lenA : AV → Option Nat
  | .nils => some 0
  | .sl n _ _ => some n
  | .sr _ _ _ n _ => some n
  | .str s => some s.length
  | _ => none
def bytesOfCells : List AV → Option (List UInt8)
  | [] => some []
  | .int .u8 n :: l => match bytesOfCells l with
    | some r => some (UInt8.ofNat n.toNat :: r)
    | none => none
  | _ => none
def aConv (E : Env) (h : AH) (src dst : TypeId) (x : AV) : Option AV := match E.ty src, E.ty dst, x with
  | some _, some ⟨.int k, _, _, _⟩, .int _ n => some (.int k (k.wrap n))
  | some _, some ⟨.str, _, _, _⟩, .str s => some (.str s)
  | some ⟨.slice e, _, _, _⟩, some ⟨.str, _, _, _⟩, x => match E.ty e with
    | some ⟨.int .u8, _, _, _⟩ => match elemsOf h 1 x with
      | some cs => match bytesOfCells cs with
        | some s => some (.str s)
        | none => none
      | none => none
    | _ => none
  | _, _, _ => none
/-- A bound of a slice expression: from 0 to y. -/
def bndA (y : Nat) : AV → Option Nat
  | .int _ n => if 0 ≤ n ∧ n ≤ (y : Int) then some n.toNat else none
  | _ => none
def bndO (y dflt : Nat) : Option AV → Option Nat
  | none => some dflt
  | some v => bndA y v
/-- The bounds l and h (of a length n), and the capacity if it is known. A third bound must lie inside what is known. -/
def bnds (n : Nat) (cap : Option Nat) (lo hi mx : Option AV) : Option (Nat × Nat × Option Nat) :=
  match mx with
  | some m => match bndA (cap.getD n) m, hi with
    | some m, some hi => match bndA m hi with
      | some h => match bndO h 0 lo with
        | some l => some (l, h, some m)
        | none => none
      | none => none
    | _, _ => none
  | none => match bndO (cap.getD n) n hi with
    | some h => match bndO h 0 lo with
      | some l => some (l, h, cap)
      | none => none
    | none => none
def aSlice (E : Env) (t : TypeId) (x : AV) (lo hi mx : Option AV) : Option AV := match x with
  | .str s => match E.ty t, mx with
    | some ⟨.str, _, _, _⟩, none => match bndO s.length s.length hi with
      | some h => match bndO h 0 lo with
        | some l => some (.str ((s.take h).drop l))
        | none => none
      | none => none
    | _, _ => none
  | .nils => match E.ty t with
    | some ⟨.slice e, _, _, _⟩ => match E.ty e with
      | some _ => match bnds 0 (some 0) lo hi mx with
        | some _ => some .nils
        | none => none
      | none => none
    | _ => none
  | .sl n cs cap => match E.ty t with
    | some ⟨.slice e, _, _, _⟩ => match E.ty e with
      | some i => if cs.length = n * i.sz then (match bnds n cap lo hi mx with
        | some (l, h, m) => if h ≤ n then some (.sl (h - l) ((cs.take (h * i.sz)).drop (l * i.sz)) (m.map (· - l))) else none
        | none => none) else none
      | none => none
    | _ => none
  | .sr b off sz n cap => match E.ty t with
    | some ⟨.slice e, _, _, _⟩ => match E.ty e with
      | some i => if i.sz = sz then (match bnds n cap lo hi mx with
        | some (l, h, m) => if l = 0 ∨ l < h then some (.sr b (off + l * sz) sz (h - l) (m.map (· - l)))
            else some (.sl 0 [] (m.map (· - l)))
        | none => none) else none
      | none => none
    | _ => none
  | _ => none
def aIndexAddr (E : Env) (t : TypeId) (x ix : AV) : Option AV := match ix with
  | .int _ i => match E.ty t with
    | some ⟨.slice e, _, _, _⟩ => match E.ty e with
      | some ei => match x with
        | .sl n cs _ => if 0 ≤ i ∧ i < (n : Int) then (if cs.length = n * ei.sz then (match cs with
          | [] => none
          | _ => some (.ip (cs.drop (i.toNat * ei.sz)))) else none) else none
        | .sr b off sz n _ => if 0 ≤ i ∧ i < (n : Int) then (if sz = ei.sz then some (.ptr b (off + i.toNat * sz)) else none) else none
        | _ => none
      | none => none
    | some ⟨.arr n e, _, _, _⟩ => match E.ty e with
      | some ei => if 0 ≤ i ∧ i < (n : Int) then (match x with
        | .ptr b off => some (.ptr b (off + i.toNat * ei.sz))
        | .ip cs => some (.ip (cs.drop (i.toNat * ei.sz)))
        | _ => none) else none
      | none => none
    | _ => none
  | _ => none
def aIndex (E : Env) (t : TypeId) (x ix : AV) : Option AV := match ix with
  | .int _ i => if 0 ≤ i then (match x, E.ty t with
    | .str s, some ⟨.str, _, _, _⟩ => match nth s i.toNat with
      | some b => some (.int .u8 b.toNat)
      | none => none
    | .agg cs, some ⟨.arr n e, _, _, _⟩ => if i < (n : Int) then (match E.ty e with
      | some ei => partA E e cs (i.toNat * ei.sz)
      | none => none) else none
    | _, _ => none) else none
  | _ => none
def zeroA (i : TI) : Option AV := match i.k.agg with
  | true => some (.agg i.zero)
  | false => match i.zero with
    | [z] => some z
    | _ => none
def aAssert (E : Env) (x : AV) (asserted : TypeId) (commaOk : Bool) : Option AV := match E.ty asserted with
  | none => none
  | some i => match i.k with
    | .iface => none
    | .map => none
    | _ => match x with
      | .nili => match commaOk, zeroA i with
        | true, some z => some (.tup [z, .bool false])
        | _, _ => none
      | .ifc t v => if t = asserted then some (if commaOk then .tup [v, .bool true] else v) else match commaOk, zeroA i with
        | true, some z => some (.tup [z, .bool false])
        | _, _ => none
      | _ => none
def fillA (place : Nat → Option (Nat × Nat)) (cells : List AV) : List (Nat × AV) → Option (List AV)
  | [] => some cells
  | (i, v) :: rest => match place i with
    | none => none
    | some (off, size) => match v with
      | .any => none
      | v => if v.cells.length = size then (match putAt cells off v.cells with
        | some cs => fillA place cs rest
        | none => none) else none
def aBuild (E : Env) (t : TypeId) (parts : List (Nat × AV)) : Option AV := match E.ty t with
  | some ⟨.struct _ fs, _, _, zero⟩ => match mapO (fun (f : Nat × TypeId) => match E.ty f.2 with
      | some i => some (f.1, i.sz)
      | none => none) fs with
    | some places => match fillA (nth places) zero parts with
      | some cs => some (.agg cs)
      | none => none
    | none => none
  | some ⟨.arr _ e, _, _, zero⟩ => match E.ty e with
    | some i => match fillA (fun j => some (j * i.sz, i.sz)) zero parts with
      | some cs => some (.agg cs)
      | none => none
    | none => none
  | _ => none
def foldMax (gt : Int → Int → Bool) : AV → List AV → Option AV
  | x, [] => some x
  | .int k x, .int _ y :: l => foldMax gt (.int k (if gt y x then y else x)) l
  | _, _ => none

/-- Operations that only read. -/
def aopR (E : Env) (ev : Operand → AV) (h : AH) (op : Op) : Option AV := match op with
  | .move x => some (ev x)
  | .assign x => some (ev x)
  | .pick c a b => match ev c with
    | .bool true => some (ev a)
    | .bool false => some (ev b)
    | _ => none
  | .build t parts => aBuild E t (parts.toList.map fun p => (p.1, ev p.2))
  | .load t a => match E.ty t with
    | some i => match i.k.agg with
      | true => match rd h (ev a) i.sz with
        | some cs => some (.agg cs)
        | none => none
      | false => match rd h (ev a) 1 with
        | some [c] => some c
        | _ => none
    | none => none
  | .nilCheck x => match ev x with
    | .ptr b off => some (.ptr b off)
    | .ip cs => some (.ip cs)
    | .func (.func f) a c => some (.func (.func f) a c)
    | .ifc t v => some (.ifc t v)
    | _ => none
  | .binOp op t x y _ => aBin E op t (ev x) (ev y) (isConstO x || isConstO y)
  | .unOp op _ x => aUn op (ev x)
  | .convert src dst x => aConv E h src dst (ev x)
  | .makeInterface t x => match E.ty t with
    | some i => match i.k with
      | .iface => none
      | _ => some (.ifc t (ev x))
    | none => none
  | .makeFunc fn first caps => some (.func fn (first.toList.map ev) (caps.toList.map ev))
  | .slice t x lo hi mx => aSlice E t (ev x) (lo.map ev) (hi.map ev) (mx.map ev)
  | .fieldAddr s x f => match E.ty s with
    | some ⟨.struct _ fs, _, _, _⟩ => match nth fs f with
      | some (off, t) => match E.ty t with
        | some i => match i.sz with
          | 0 => none
          | _ + 1 => match ev x with
            | .ptr b o => some (.ptr b (o + off))
            | .ip cs => some (.ip (cs.drop off))
            | _ => none
        | none => none
      | none => none
    | _ => none
  | .field s x f => match E.ty s with
    | some ⟨.struct _ fs, _, _, _⟩ => match nth fs f with
      | some (off, t) => match ev x with
        | .agg cs => partA E t cs off
        | _ => none
      | none => none
    | _ => none
  | .indexAddr t x ix => aIndexAddr E t (ev x) (ev ix)
  | .index t x ix => aIndex E t (ev x) (ev ix)
  | .typeAssert x _ t ok => aAssert E (ev x) t ok
  | .extract x i => match ev x with
    | .tup vs => nth vs i
    | _ => none
  | .call c => match c.callee with
    | .builtin .len => match c.args.toList, c.argTypes.toList with
      | [x], [t] => match E.ty t with
        | some i => match i.k, ev x with
          | .arr n _, _ => some (.int .i64 n)
          | .slice _, .nils => some (.int .i64 0)
          | .slice _, .sl n _ _ => some (.int .i64 n)
          | .slice _, .sr _ _ _ n _ => some (.int .i64 n)
          | .str, .str s => some (.int .i64 s.length)
          | _, _ => none
        | none => none
      | _, _ => none
    | .builtin .max => match c.args.toList with
      | x :: y :: l => foldMax (fun y x => decide (y > x)) (ev x) ((y :: l).map ev)
      | _ => none
    | .builtin .min => match c.args.toList with
      | x :: y :: l => foldMax (fun y x => decide (y < x)) (ev x) ((y :: l).map ev)
      | _ => none
    | _ => none
  | _ => none

/-! ### operations that write, and calls -/
inductive OR where
  | val (v : AV) (h : AH)
  | skip (h : AH)
  | pan (v : AV) (h : AH)
  | call (f : FuncId) (args : List AV)
  | defer (f : FuncId) (args caps : List AV)
  | recov
  | fail

def growCells (E : Env) (e : TypeId) (len : Nat) : Option (List AV) := match E.ty e with
  | some i => some (rep len i.zero)
  | none => none
def aAppend (E : Env) (h : AH) (t1 t2 : TypeId) (s x : AV) : OR := match E.ty t1, E.ty t2 with
  | some ⟨.slice e, _, _, _⟩, some ti2 => match ti2.k, E.ty e with
    | .int _, _ => .fail
    | _, some ei => match ei.sz with
      | 0 => .fail
      | _ + 1 => match elemsOf h ei.sz x, lenA x with
        | some news, some m => match s with
          | .nils => match m with
            | 0 => .val .nils h
            | _ + 1 => if m * ei.bytes ≤ 140737488355328 ∧ m ≤ 9223372036854775807 ∧ allB AV.one news = true then .val (.sr h.n 0 ei.sz m none) (hnew h (.cells news)) else .fail
          | .sl n cs cap => match m with
            | 0 => .val (.sl n cs cap) h
            | _ + 1 => match cap with
              | some c => if c < n + m ∧ (n + m) * ei.bytes ≤ 140737488355328 ∧ n + m ≤ 9223372036854775807 ∧ cs.length = n * ei.sz ∧ allB AV.one news = true ∧ allB AV.one cs = true then .val (.sr h.n 0 ei.sz (n + m) none) (hnew h (.cells (cs ++ news))) else .fail
              | none => .fail
          | .sr b off sz n cap => if sz = ei.sz then (match m with
            | 0 => .val (.sr b off sz n cap) h
            | _ + 1 => match hget h b with
              | some (.cells bs) => match takeX (n * sz) (bs.drop off), off with
                | some old, 0 => if (n + m) * ei.bytes ≤ 140737488355328 ∧ n + m ≤ 9223372036854775807 ∧ allB AV.one news = true then
                    .val (.sr h.n 0 sz (n + m) none) (hnew (hset h b .dead) (.cells (old ++ news))) else .fail
                | _, _ => .fail
              | some (.ro bs) => match takeX (n * sz) (bs.drop off), cap with
                | some old, some c => if c < n + m ∧ (n + m) * ei.bytes ≤ 140737488355328 ∧ n + m ≤ 9223372036854775807 ∧ allB AV.one news = true then
                    .val (.sr h.n 0 sz (n + m) none) (hnew h (.cells (old ++ news))) else .fail
                | _, _ => .fail
              | _ => .fail) else .fail
          | _ => .fail
        | _, _ => .fail
    | _, _ => .fail
  | _, _ => .fail
def writeA (h : AH) (v : AV) (cs : List AV) : Option AH := match allB AV.one cs, v with
  | true, .ptr b off => match hget h b with
    | some (.cells bs) => match putAt bs off cs with
      | some ds => some (hset h b (.cells ds))
      | none => none
    | _ => none
  | _, _ => none
def aCopy (E : Env) (h : AH) (t1 : TypeId) (d x : AV) : OR := match E.ty t1 with
  | some ⟨.slice e, _, _, _⟩ => match E.ty e with
    | some ei => match elemsOf h ei.sz x, lenA x, d with
      | some cs, some m, .sr b off sz n _ => if sz = ei.sz then (match writeA h (.ptr b off) (cs.take (Nat.min m n * sz)) with
        | some h1 => .val (.int .i64 (Nat.min m n : Nat)) h1
        | none => .fail) else .fail
      | _, _, _ => .fail
    | none => .fail
  | _ => .fail
def aMake (E : Env) (h : AH) (t : TypeId) (len cap : AV) : OR := match E.ty t, len, cap with
  | some ⟨.slice e, _, _, _⟩, .int _ l, .int _ c => match E.ty e with
    | some ei => if 0 ≤ l ∧ l ≤ c ∧ c ≤ 9223372036854775807 ∧ (ei.bytes : Int) * c ≤ 281474976710656 ∧ 0 < ei.sz then
        .val (.sr h.n 0 ei.sz l.toNat (some c.toNat)) (hnew h (.cells (rep c.toNat ei.zero))) else .fail
    | none => .fail
  | _, _, _ => .fail
def aCallVal (f : AV) (args : List AV) : OR := match f with
  | .func (.func g) first caps => .call g (first ++ args ++ caps)
  | _ => .fail

def aop (E : Env) (ev : Operand → AV) (h : AH) (op : Op) : OR := match op with
  | .alloc e => match E.ty e with
    | some i => .val (.ptr h.n 0) (hnew h (.cells i.zero))
    | none => .fail
  | .box _ x => match ev x with
    | .any => .fail
    | v => .val (.ptr h.n 0) (hnew h (.cells v.cells))
  | .buildSlice t len parts => match E.ty t with
    | some ⟨.slice e, _, _, _⟩ => match E.ty e with
      | some i => match i.sz with
        | 0 => .fail
        | sz + 1 => if len * (sz + 1) ≤ 16777216 then (match fillA (fun j => some (j * i.sz, i.sz)) (rep len i.zero) (parts.toList.map fun p => (p.1, ev p.2)) with
          | some cs => .val (.sr h.n 0 i.sz len (some len)) (hnew h (.cells cs))
          | none => .fail) else .fail
      | none => .fail
    | _ => .fail
  | .store t a x => match E.ty t, ev x with
    | _, .any => .fail
    | some i, v => if v.cells.length = i.sz then (match writeA h (ev a) v.cells with
      | some h1 => .skip h1
      | none => .fail) else .fail
    | none, _ => .fail
  | .makeSlice t l c => aMake E h t (ev l) (ev c)
  | .panic x => match ev x with
    | .ifc t v => .pan (.ifc t v) h
    | _ => .fail
  | .defer c => match c.callee with
    | .value f => match ev f with
      | .func (.func g) first caps => .defer g (first ++ c.args.toList.map ev) caps
      | _ => .fail
    | _ => .fail
  | .call c => match c.callee with
    | .value f => aCallVal (ev f) (c.args.toList.map ev)
    | .builtin .append => match c.args.toList, c.argTypes.toList with
      | [s, x], [t1, t2] => aAppend E h t1 t2 (ev s) (ev x)
      | _, _ => .fail
    | .builtin .copy => match c.args.toList, c.argTypes.toList with
      | [d, x], t1 :: _ => aCopy E h t1 (ev d) (ev x)
      | _, _ => .fail
    | .builtin .recover => .recov
    | .builtin .panic => match c.args.toList with
      | [x] => match ev x with
        | .ifc t v => .pan (.ifc t v) h
        | _ => .fail
      | _ => .fail
    | _ => match aopR E ev h op with
      | some v => .val v h
      | none => .fail
  | op => match aopR E ev h op with
    | some v => .val v h
    | none => .fail

/-! ### calls by their mode -/
/-- 0: what the callee is handed is made read-only; it runs on a heap of its own. 1: it runs on the caller's heap; what it lays is struck. 2: it runs on the caller's heap. -/
def fzL (h : AH) (vs : List AV) : Option (List AV × AH) := mapS (fz fzDepth) h vs
def pureCall (E : Env) (call : FuncId → List AV → AH → CRes) (f : FuncId) (args : List AV) : CRes := match E.orc f args with
  | some v => .ret v .empty
  | none => match call f args .empty with
    | .ret v h2 => match fz fzDepth h2 v with
      | some (u, _) => .ret u .empty
      | none => .fail
    | .pan v h2 => match fz fzDepth h2 v with
      | some (u, _) => .pan u .empty
      | none => .fail
    | .fail => .fail
def cutTo (h : AH) (n : Nat) : Option AH := match allB (lowBlk n) (h.l.drop (h.n - n)) with
  | true => some ⟨n, h.l.drop (h.n - n)⟩
  | false => none
def callA (E : Env) (call : FuncId → List AV → AH → CRes) (f : FuncId) (args : List AV) (h : AH) : CRes := match E.mode f with
  | 0 => match fzL h args with
    | some (args1, h1) => match pureCall E call f args1 with
      | .ret v _ => .ret v h1
      | .pan v _ => .pan v h1
      | .fail => .fail
    | none => .fail
  | 1 => match call f args h with
    | .ret v h2 => match fz fzDepth h2 v with
      | some (u, h3) => match cutTo h3 h.n with
        | some h4 => .ret u h4
        | none => .fail
      | none => .fail
    | .pan v h2 => match fz fzDepth h2 v with
      | some (u, h3) => match cutTo h3 h.n with
        | some h4 => .pan u h4
        | none => .fail
      | none => .fail
    | .fail => .fail
  | _ => call f args h

/-! ### a frame, regions, code -/
inductive Rec where
  | off
  | ret
  | pan (v : AV) (recovered : Bool)
structure Dfr where
  f : FuncId
  args : List AV
  caps : List AV
structure St where
  fr : List AV
  h : AH
  ds : List Dfr
  u : Rec
inductive XR where
  | norm (s : St)
  | exit (id : Nat) (s : St)
  | ret (s : St)
  | pan (v : AV) (s : St)
  | fail

def glook (g : Nat) : List (Nat × IntKind × List Int) → Option (List AV)
  | [] => none
  | (i, k, ns) :: l => match Nat.beq i g with
    | true => some (ns.map (AV.int k))
    | false => glook g l
/-- A table of the program that nobody writes. -/
def gget (g : Nat) : Option (List AV) := glook g gtab
def evA (fr : List AV) : Operand → AV
  | .tmp t => match nth fr t with
    | some v => v
    | none => .tup []
  | .const v => ofVal v
  | .global g => match gget g with
    | some cs => .ip cs
    | none => .any
  | .func f => .func (.func f) [] []
def putA (fr : List AV) (dst : Option Tmp) (v : AV) : List AV := match dst with
  | some d => setNth fr d v
  | none => fr
def wantedA (ops : List Oper) (fr : List AV) (o : Oper) : Option Bool := match o.guard with
  | none => some true
  | some (j, want) => match nth ops j with
    | some oj => match oj.dst with
      | some d => match nth fr d with
        | some (.bool b) => some (b == want)
        | some .any => none
        | _ => some false
      | none => some false
    | none => some false
/-- The value of an operation that leaves the heap alone; new memory is told as read-only. -/
def quietVal (E : Env) (call : FuncId → List AV → AH → CRes) (ev : Operand → AV) (h : AH) (op : Op) : Option AV := match op with
  | .alloc e => match E.ty e with
    | some i => some (.ip i.zero)
    | none => none
  | .box _ x => match ev x with
    | .any => none
    | v => match allB (lowRef 0 fzDepth) v.cells with
      | true => some (.ip v.cells)
      | false => none
  | .buildSlice _ _ _ => match aop E ev h op with
    | .val (.sr _ _ _ n cap) h1 => match h1.l with
      | .cells cs :: _ => match allB (lowRef 0 fzDepth) cs with
        | true => some (.sl n cs cap)
        | false => none
      | _ => none
    | _ => none
  | .call c => match c.callee with
    | .value f => match aCallVal (ev f) (c.args.toList.map ev) with
      | .call g args => match E.mode g, allB (lowRef 0 fzDepth) args with
        | 0, true => match pureCall E call g args with
          | .ret v _ => some v
          | _ => none
        | _, _ => none
      | _ => none
    | .builtin .len => aopR E ev h op
    | .builtin .max => aopR E ev h op
    | .builtin .min => aopR E ev h op
    | _ => none
  | op => aopR E ev h op

def aOps (E : Env) (call : FuncId → List AV → AH → CRes) (all : List Oper) : List Oper → St → XR
  | [], s => .norm s
  | o :: rest, s => match wantedA all s.fr o with
    | none => .fail
    | some false => aOps E call all rest ⟨putA s.fr o.dst (.tup []), s.h, s.ds, s.u⟩
    | some true => match aop E (evA s.fr) s.h o.op with
      | .val v h => aOps E call all rest ⟨putA s.fr o.dst v, h, s.ds, s.u⟩
      | .skip h => aOps E call all rest ⟨putA s.fr o.dst (.tup []), h, s.ds, s.u⟩
      | .pan v h => .pan v ⟨s.fr, h, s.ds, s.u⟩
      | .call f args => match callA E call f args s.h with
        | .ret v h => aOps E call all rest ⟨putA s.fr o.dst v, h, s.ds, s.u⟩
        | .pan v h => .pan v ⟨s.fr, h, s.ds, s.u⟩
        | .fail => .fail
      | .defer f args caps => aOps E call all rest ⟨putA s.fr o.dst (.tup []), s.h, ⟨f, args, caps⟩ :: s.ds, s.u⟩
      | .recov => match s.u with
        | .off => .fail
        | .ret => aOps E call all rest ⟨putA s.fr o.dst .nili, s.h, s.ds, .ret⟩
        | .pan v false => aOps E call all rest ⟨putA s.fr o.dst v, s.h, s.ds, .pan v true⟩
        | .pan v true => aOps E call all rest ⟨putA s.fr o.dst .nili, s.h, s.ds, .pan v true⟩
      | .fail => .fail
/-! regions that draw: any order that the edges allow comes to the same -/
/-- Operations that may write. -/
def wrOp (E : Env) : Op → Bool
  | .store _ _ _ => true
  | .makeSlice _ _ _ => true
  | .call c => match c.callee with
    | .value (.func f) => match E.mode f with
      | 0 => false
      | _ => true
    | .value _ => false
    | .builtin .append => true
    | .builtin .copy => true
    | _ => false
  | _ => false
/-- Operations that look at the heap. -/
def tcOp (E : Env) : Op → Bool
  | .load _ _ => true
  | .convert _ _ _ => true
  | op => wrOp E op
/-- pf: the cells of the variables that the region makes. -/
structure DS where
  fr : List AV
  pf : List AV
  h : AH
def isPend : AV → Bool
  | .agg _ => true
  | _ => false
def freeD (pf : List AV) : Option Tmp → Bool
  | none => true
  | some d => match nth pf d with
    | some v => !isPend v
    | none => true
def pendOf (pf : List AV) : Operand → Option (Nat × List AV)
  | .tmp d => match nth pf d with
    | some (.agg zs) => some (d, zs)
    | _ => none
  | _ => none
def loudD (E : Env) (call : FuncId → List AV → AH → CRes) (ev : Operand → AV) (h : AH) (op : Op) : Option (AV × Option (Nat × AV) × AH) := match aop E ev h op with
  | .val v h1 => some (v, none, h1)
  | .skip h1 => some (.tup [], none, h1)
  | .call f args => match callA E call f args h with
    | .ret v h1 => some (v, none, h1)
    | _ => none
  | _ => none
def doneD (E : Env) (call : FuncId → List AV → AH → CRes) (fr pf : List AV) (h : AH) (dst : Option Tmp) (op : Op) : Option (AV × Option (Nat × AV) × AH) := match op with
  | .alloc e => match dst, E.ty e with
    | some d, some i => some (.any, some (d, .agg i.zero), h)
    | _, _ => none
  | .store t a x => match pendOf pf a with
    | some (d, zs) => match E.ty t, evA fr x with
      | some i, v => if v.cells.length = i.sz ∧ i.sz = zs.length ∧ allB AV.one v.cells = true then some (.tup [], some (d, .agg v.cells), h) else none
      | none, _ => none
    | none => loudD E call (evA fr) h op
  | op => match wrOp E op with
    | true => loudD E call (evA fr) h op
    | false => match quietVal E call (evA fr) h op with
      | some v => some (v, none, h)
      | none => none
def coreD (E : Env) (call : FuncId → List AV → AH → CRes) (all : List Oper) (o : Oper) (fr pf : List AV) (h : AH) : Option (AV × Option (Nat × AV) × AH) := match wantedA all fr o with
  | none => none
  | some false => some (.tup [], none, h)
  | some true => doneD E call fr pf h o.dst o.op
def putP (pf : List AV) : Option (Nat × AV) → List AV
  | none => pf
  | some (d, v) => setNth pf d v
def stepD (E : Env) (call : FuncId → List AV → AH → CRes) (all : List Oper) (o : Oper) (s : DS) : Option DS := match freeD s.pf o.dst with
  | false => none
  | true => match coreD E call all o s.fr s.pf s.h with
    | some (v, p, h1) => some ⟨putA s.fr o.dst v, putP s.pf p, h1⟩
    | none => none
def lexD (E : Env) (call : FuncId → List AV → AH → CRes) (all : List Oper) : List Oper → DS → Option DS
  | [], s => some s
  | o :: rest, s => match stepD E call all o s with
    | some s1 => lexD E call all rest s1
    | none => none
/-- The variables that the region made are laid in the heap. -/
def thawD : List Oper → DS → DS
  | [], s => s
  | o :: l, s => match o.op, o.dst with
    | .alloc _, some d => match nth s.pf d with
      | some (.agg cs) => thawD l ⟨setNth s.fr d (.ptr s.h.n 0), setNth s.pf d .any, hnew s.h (.cells cs)⟩
      | _ => thawD l s
    | _, _ => thawD l s
def hasAlloc : List Oper → Bool
  | [] => false
  | o :: l => match o.op with
    | .alloc _ => true
    | _ => hasAlloc l
def drawA (E : Env) (call : FuncId → List AV → AH → CRes) (ops : List Oper) (fr : List AV) (h : AH) : Option (List AV × AH) := match hasAlloc ops with
  | true => match lexD E call ops ops ⟨fr, fr.map fun _ => .any, h⟩ with
    | some s1 => match thawD ops s1 with
      | ⟨fr2, pf2, h2⟩ => match allB (fun v => !isPend v) pf2 with
        | true => some (fr2, h2)
        | false => none
    | none => none
  | false => match lexD E call ops ops ⟨fr, [], h⟩ with
    | some s1 => some (s1.fr, s1.h)
    | none => none
/-! a region that draws, and panics -/
def apart2 (E : Env) (ops : Array Oper) (i j : Oper) : Bool := i.apart ops j && !(wrOp E i.op && tcOp E j.op) && !(tcOp E i.op && wrOp E j.op)
/-- For every operation, a number whose bits say for whom it waits. -/
def upOf (md : Region.Mode) (us : List Nat) : List Edge → Nat
  | [] => 0
  | e :: l => match Region.binds md e with
    | true => 2 ^ e.on ||| (match nth us e.on with | some u => u | none => 0) ||| upOf md us l
    | false => upOf md us l
def upsOf (md : Region.Mode) : List Oper → List Nat → List Nat
  | [], us => us
  | o :: l, us => upsOf md l (us ++ [upOf md us o.after.toList])
def panD (E : Env) (call : FuncId → List AV → AH → CRes) (all : List Oper) (o : Oper) (fr : List AV) (h : AH) : Option (AV × AH) := match wantedA all fr o with
  | some true => match o.op with
    | .panic x => match evA fr x with
      | .ifc t v => some (.ifc t v, h)
      | _ => none
    | .call c => match c.callee with
      | .value f => match aCallVal (evA fr f) (c.args.toList.map (evA fr)) with
        | .call g args => match callA E call g args h with
          | .pan v h1 => some (v, h1)
          | _ => none
        | _ => none
      | _ => none
    | _ => none
  | _ => none
/-- What the region may have written is not known any more. -/
def hvA : List Oper → List AV → List AV
  | [], fr => fr
  | o :: l, fr => hvA l (putA fr o.dst .any)
def failIdx (E : Env) (call : FuncId → List AV → AH → CRes) (all : List Oper) : List Oper → DS → Nat → Option Nat
  | [], _, _ => none
  | o :: l, s, i => match stepD E call all o s with
    | some s1 => failIdx E call all l s1 (i + 1)
    | none => some i
def allocsFrom : List Oper → Nat → List Nat
  | [], _ => []
  | o :: l, i => match o.op with
    | .alloc _ => i :: allocsFrom l (i + 1)
    | _ => allocsFrom l (i + 1)
def lexI (E : Env) (call : FuncId → List AV → AH → CRes) (all : List Oper) : List Nat → DS → Option DS
  | [], s => some s
  | k :: l, s => match nth all k with
    | some o => match stepD E call all o s with
      | some s1 => lexI E call all l s1
      | none => none
    | none => none
def memB (k : Nat) : List Nat → Bool
  | [] => false
  | i :: l => match Nat.beq i k with
    | true => true
    | false => memB k l
def edgesIn (md : Region.Mode) (done : List Nat) : List Edge → Bool
  | [] => true
  | e :: l => match Region.binds md e with
    | true => memB e.on done && edgesIn md done l
    | false => edgesIn md done l
def bitOf (us : List Nat) (j k : Nat) : Bool := match nth us j with
  | some u => u.testBit k
  | none => false
def othersB (E : Env) (ops : Array Oper) (us : List Nat) (done : List Nat) (leaf : Nat) (k : Nat) (ok : Oper) : Nat → List Oper → Bool
  | _, [] => true
  | j, oj :: l => (memB j done || Nat.beq j k || bitOf us j k || (apart2 E ops ok oj && (!Nat.beq j leaf || !wrOp E ok.op))) && othersB E ops us done leaf k ok (j + 1) l
def leafB (us : List Nat) (done : List Nat) (leaf : Nat) : Nat → List Oper → Bool
  | _, [] => true
  | j, _ :: l => (memB j done || Nat.beq j leaf || bitOf us j leaf) && leafB us done leaf (j + 1) l
def panB (E : Env) (md : Region.Mode) (ops : Array Oper) (us : List Nat) (leaf : Nat) : List Nat → List Nat → Bool
  | [], done => !memB leaf done && (match nth ops.toList leaf with
    | some o => edgesIn md done o.after.toList
    | none => false) && leafB us done leaf 0 ops.toList
  | k :: l, done => !memB k done && !Nat.beq k leaf && (match nth ops.toList k with
    | some o => edgesIn md done o.after.toList && othersB E ops us done leaf k o 0 ops.toList
    | none => false) && panB E md ops us leaf l (k :: done)
def panicD (E : Env) (call : FuncId → List AV → AH → CRes) (ops : Array Oper) (fr : List AV) (h : AH) : Option (AV × List AV × AH) :=
  match failIdx E call ops.toList ops.toList ⟨fr, fr.map fun _ => .any, h⟩ 0 with
  | none => none
  | some i => match nth ops.toList i with
    | none => none
    | some o => match lexI E call ops.toList (List.range i ++ allocsFrom (ops.toList.drop (i + 1)) (i + 1)) ⟨fr, fr.map fun _ => .any, h⟩ with
      | none => none
      | some s1 => match Nat.blt (List.range i ++ allocsFrom (ops.toList.drop (i + 1)) (i + 1)).length ops.toList.length && panB E .any ops (upsOf .any ops.toList []) i (List.range i ++ allocsFrom (ops.toList.drop (i + 1)) (i + 1)) [] with
        | false => none
        | true => match panD E call ops.toList o s1.fr s1.h with
          | some (v, h1) => some (v, hvA ops.toList fr, h1)
          | none => none
def aLoop (body : St → XR) : Nat → St → XR
  | 0, _ => .fail
  | n + 1, s => match body s with
    | .norm s1 => aLoop body n s1
    | r => r
def aCode (E : Env) (call : FuncId → List AV → AH → CRes) (fuel : Nat) : Code → St → XR
  | .skip, s => .norm s
  | .label _, s => .norm s
  | .region _ ops false, s => aOps E call ops.toList ops.toList s
  | .region id ops true, s => match E.sus id ops.size with
    | true => .fail
    | false => match drawA E call ops.toList s.fr s.h with
      | some (fr, h) => .norm ⟨fr, h, s.ds, s.u⟩
      | none => match panicD E call ops s.fr s.h with
        | some (v, fr, h) => .pan v ⟨fr, h, s.ds, s.u⟩
        | none => .fail
  | .seq a b, s => match aCode E call fuel a s with
    | .norm s1 => aCode E call fuel b s1
    | r => r
  | .cond c a b, s => match evA s.fr c with
    | .bool true => aCode E call fuel a s
    | .bool false => aCode E call fuel b s
    | _ => .fail
  | .block id c, s => match aCode E call fuel c s with
    | .exit id' s1 => match Nat.beq id' id with
      | true => .norm s1
      | false => .exit id' s1
    | r => r
  | .loop c, s => aLoop (aCode E call fuel c) fuel s
  | .exit id, s => .exit id s
  | .ret, s => .ret s
  | _, _ => .fail

/-! ### a function -/
def aResults (E : Env) (fr : List AV) (h : AH) : List ResultVar → Option (List AV)
  | [] => some []
  | r :: rs => match (match r with
      | .tmp t => some (evA fr (.tmp t))
      | .cell a t => aopR E (evA fr) h (.load t (.tmp a))) with
    | some v => match aResults E fr h rs with
      | some vs => some (v :: vs)
      | none => none
    | none => none
def tupA : List AV → AV
  | [v] => v
  | vs => .tup vs
def aBody (E : Env) (call : FuncId → List AV → AH → CRes) (fuel : Nat) (fn : Func) (c : Code) (args : List AV) (h : AH) (u : Rec) : XR :=
  aCode E call fuel c ⟨args ++ List.replicate (fn.ntmps - args.length) (.tup []), h, [], u⟩
def noLoop : Code → Bool
  | .seq a b => noLoop a && noLoop b
  | .cond _ a b => noLoop a && noLoop b
  | .block _ c => noLoop c
  | .loop _ => false
  | _ => true
/-- The deferred calls, the last one first. -/
def aLeave (E : Env) (call : FuncId → List AV → AH → CRes) (fuel : Nat) (fn : Func) (fr : List AV) : List Dfr → Rec → AH → CRes
  | [], .ret, h => match aResults E fr h fn.results.toList with
    | some vs => .ret (tupA vs) h
    | none => .fail
  | [], .pan v false, h => .pan v h
  | [], _, _ => .fail
  | d :: ds, u, h => match E.fn d.f with
    | none => .fail
    | some g => match g.body, g.results.toList with
      | some c, [] => match noLoop c with
       | false => .fail
       | true => match aBody E call fuel g c (d.args ++ d.caps) h u with
        | .norm ⟨_, h1, [], u1⟩ => aLeave E call fuel fn fr ds (match u1 with | .pan _ true => .ret | u => u) h1
        | .ret ⟨_, h1, [], u1⟩ => aLeave E call fuel fn fr ds (match u1 with | .pan _ true => .ret | u => u) h1
        | _ => .fail
      | _, _ => .fail
def aFun (E : Env) (call : FuncId → List AV → AH → CRes) (fuel : Nat) (f : FuncId) (args : List AV) (h : AH) : CRes := match E.fn f with
  | none => .fail
  | some fn => match fn.body with
    | none => .fail
    | some c => match aBody E call fuel fn c args h .off with
      | .norm s => aLeave E call fuel fn s.fr s.ds .ret s.h
      | .ret s => aLeave E call fuel fn s.fr s.ds .ret s.h
      | .pan v s => aLeave E call fuel fn s.fr s.ds (.pan v false) s.h
      | _ => .fail
def evCall (E : Env) : Nat → FuncId → List AV → AH → CRes
  | 0 => fun _ _ _ => .fail
  | n + 1 => fun f args h => aFun E (evCall E n) n f args h
end Go.Ev
