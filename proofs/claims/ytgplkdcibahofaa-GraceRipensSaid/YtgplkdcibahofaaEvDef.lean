/-
  The evaluator: a big-step predicate transformer over loaded code, on abstract values and an abstract heap. No program is named here.
-/
import Derived.Orders
namespace Go.Proofs.Ytgplkdcibahofaa.Ev
open Go

/-- Abstract values. 'E t' is the plain Lean type of the elements of type number t. -/
inductive AV (E : Nat → Type) : Type where
  | top
  | bool (b : Bool)
  | int (k : IntKind) (n : Int)
  | str (s : ByteArray)
  | nilp
  | ptr (id off : Nat)
  | eptr (t id i off : Nat)
  | rptr (t : Nat) (x : E t) (off : Nat)
  | nils (t : Nat)
  | sl (t : Nat) (l : List (E t))
  | own (t id : Nat)
  | view (t id lo n : Nat)
  | viewc (t id lo n c : Nat)
  | tsl (t : Nat) (l : List (E t))
  | nilmap
  | map (id : Nat)
  | nilf
  | fn (f : Nat) (first caps : List (AV E))
  | agg (cells : List (AV E))
  | aarr (t : Nat) (l : List (E t))
  | tuple (vs : List (AV E))

inductive Blk (E : Nat → Type) : Type where
  | dead
  | cells (l : List (AV E))
  | arr (t : Nat) (l : List (E t)) (fro : Bool)
  | map (kt vt : Nat) (m : List (E kt × E vt))

inductive TyK where
  | bool | int (k : IntKind) | str
  | struct (fs : List (Nat × Nat × Bool))      -- offset, type, is the name other than '_'
  | array (n e : Nat) | slice (e : Nat) | ptr (e : Nat) | map (k v : Nat) | func | other

def isArr : TyK → Bool
  | .array _ _ => true
  | _ => false

structure Ty (E : Nat → Type) where
  k : TyK
  size : Nat
  bytes : Nat
  zero : List (AV E)

structure Ctx where
  E : Nat → Type
  enc : (t : Nat) → E t → List (AV E)
  dec : (t : Nat) → List (AV E) → Option (E t)
  z : (t : Nat) → E t
  ty : Nat → Option (Ty E)
  toInts : (t : Nat) → List (E t) → Option (List Int)
  ofInts : (t : Nat) → List Int → Option (List (E t))

/-! registers -/
inductive Tr (E : Nat → Type) where
  | lf
  | nd (v : AV E) (l r : Tr E)

def Tr.get {E : Nat → Type} : Tr E → Nat → AV E
  | .lf, _ => .top
  | .nd v l r, n => match n with
    | 0 => v
    | m + 1 => match m % 2 with
      | 0 => l.get (m / 2)
      | _ => r.get (m / 2)

/-- what comes of an operation: nothing that can be told; a value; a value if something holds; the same with another heap -/
inductive OpR (E : Nat → Type) where
  | no
  | val (v : AV E)
  | chk (p : Prop) (v : AV E)
  | mem (v : AV E) (h : List (Blk E))
  | chm (p : Prop) (v : AV E) (h : List (Blk E))
  | anyB (p : Bool → Prop)

inductive Ex where
  | normal | exit (id : Nat) | ret

def br (c : Bool) (A B : Prop) : Prop := match c with
  | true => A
  | false => B

/-! Values, rows and heaps are made plain before what follows gets them: the evaluator's terms stay small. Each of these is 'k' of what it is given. -/

def forceL1 {E : Nat → Type} (f : AV E → (AV E → Prop) → Prop) : List (AV E) → (List (AV E) → Prop) → Prop
  | [], k => k []
  | v :: r, k => f v fun v' => forceL1 f r fun r' => k (v' :: r')

def natGo : Nat → Nat → (Nat → Prop) → Prop
  | 0, a, k => k a
  | n + 1, a, k => natGo n (a + 1) k

/-- a block's number, made plain -/
def natK (n : Nat) (k : Nat → Prop) : Prop := natGo n 0 k

def force0 {E : Nat → Type} (v : AV E) (k : AV E → Prop) : Prop := match v with
  | .top => k .top
  | .bool b => k (.bool b)
  | .int i n => k (.int i n)
  | .str s => k (.str s)
  | .nilp => k .nilp
  | .ptr i o => natK i fun i => k (.ptr i o)
  | .eptr t i j o => natK i fun i => k (.eptr t i j o)
  | .rptr t x o => k (.rptr t x o)
  | .nils t => k (.nils t)
  | .sl t l => k (.sl t l)
  | .own t i => natK i fun i => k (.own t i)
  | .view t i l n => natK i fun i => k (.view t i l n)
  | .viewc t i l n c => natK i fun i => k (.viewc t i l n c)
  | .tsl t l => k (.tsl t l)
  | .nilmap => k .nilmap
  | .map i => natK i fun i => k (.map i)
  | .nilf => k .nilf
  | .fn f a b => k (.fn f a b)
  | .agg cs => k (.agg cs)
  | .aarr t l => k (.aarr t l)
  | .tuple vs => k (.tuple vs)

def forceV {E : Nat → Type} : Nat → AV E → (AV E → Prop) → Prop
  | 0, v, k => force0 v k
  | d + 1, v, k => match v with
    | .agg cs => forceL1 (forceV d) cs fun cs' => k (.agg cs')
    | .tuple cs => forceL1 (forceV d) cs fun cs' => k (.tuple cs')
    | .fn f a b => forceL1 (forceV d) a fun a' => forceL1 (forceV d) b fun b' => k (.fn f a' b')
    | v => force0 v k

def forceB {E : Nat → Type} (b : Blk E) (k : Blk E → Prop) : Prop := match b with
  | .dead => k .dead
  | .cells l => forceL1 (forceV 3) l fun l' => k (.cells l')
  | .arr t l f => k (.arr t l f)
  | .map a b m => k (.map a b m)

def forceH {E : Nat → Type} : List (Blk E) → (List (Blk E) → Prop) → Prop
  | [], k => k []
  | b :: r, k => forceB b fun b' => forceH r fun r' => k (b' :: r')

def forceT {E : Nat → Type} : Tr E → (Tr E → Prop) → Prop
  | .lf, k => k .lf
  | .nd v l r, k => forceV 3 v fun v' => forceT l fun l' => forceT r fun r' => k (.nd v' l' r')

/-- a register is written -/
def setK {E : Nat → Type} : Nat → Tr E → Nat → AV E → (Tr E → Prop) → Prop
  | 0, _, _, _, _ => False
  | d + 1, .lf, n, v, k => match n with
    | 0 => k (.nd v .lf .lf)
    | m + 1 => match m % 2 with
      | 0 => setK d .lf (m / 2) v fun l => k (.nd .top l .lf)
      | _ => setK d .lf (m / 2) v fun r => k (.nd .top .lf r)
  | d + 1, .nd u l r, n, v, k => match n with
    | 0 => k (.nd v l r)
    | m + 1 => match m % 2 with
      | 0 => setK d l (m / 2) v fun l' => k (.nd u l' r)
      | _ => setK d r (m / 2) v fun r' => k (.nd u l r')

section
variable (C : Ctx)
set_option linter.unusedVariables false

abbrev V := AV C.E
abbrev H := List (Blk C.E)

def Ctx.size (t : Nat) : Nat := match C.ty t with
  | some ty => ty.size
  | none => 0

def cellsOf {E : Nat → Type} : AV E → Option (List (AV E))
  | .agg cs => some cs
  | .tuple _ => none
  | .aarr _ _ => none
  | .top => none
  | v => some [v]

def cellsAll {E : Nat → Type} : List (AV E) → Option (List (AV E))
  | [] => some []
  | v :: r => match cellsOf v, cellsAll r with
    | some a, some b => some (a ++ b)
    | _, _ => none

def isAgg (t : Nat) : Option (Bool × Nat) := match C.ty t with
  | some ty => match ty.k with
    | .struct _ => some (true, ty.size)
    | .array _ _ => some (true, ty.size)
    | .bool => some (false, ty.size)
    | .int _ => some (false, ty.size)
    | .str => some (false, ty.size)
    | .slice _ => some (false, ty.size)
    | .ptr _ => some (false, ty.size)
    | .map _ _ => some (false, ty.size)
    | .func => some (false, ty.size)
    | .other => none
  | none => none

/-- a value of type t out of a row of cells -/
def pickAt (t : Nat) (cs : List (V C)) (off : Nat) : Option (V C) := match isAgg C t with
  | some (true, n) => match Nat.beq ((cs.drop off).take n).length n with
    | true => some (.agg ((cs.drop off).take n))
    | false => none
  | some (false, _) => cs[off]?
  | none => none

/-- a row of cells with some of them put in the place of others -/
def splice {α : Type} : List α → Nat → List α → Option (List α)
  | cs, 0, [] => some cs
  | _ :: cs, 0, v :: vs => (splice cs 0 vs).map (v :: ·)
  | c :: cs, n + 1, vs => (splice cs n vs).map (c :: ·)
  | _, _, _ => none

/-- a slice that is only read from now on: its contents -/
def frz1 (h : H C) : V C → Option (V C × H C)
  | .nils t => some (.sl t [], h)
  | .own t id => match h[id]? with
    | some (.arr t' l _) => if e : t' = t then some (.sl t (e ▸ l), h.set id (.arr t' l true)) else none
    | _ => none
  | .view t id lo n => match h[id]? with
    | some (.arr t' l _) => if e : t' = t then some (.sl t (((e ▸ l : List (C.E t)).drop lo).take n), h.set id (.arr t' l true)) else none
    | _ => none
  | .viewc t id lo n _ => match h[id]? with
    | some (.arr t' l _) => if e : t' = t then some (.sl t (((e ▸ l : List (C.E t)).drop lo).take n), h.set id (.arr t' l true)) else none
    | _ => none
  | .tsl t l => some (.sl t l, h)
  | .agg _ => none
  | .tuple _ => none
  | v => some (v, h)

def frzL (h : H C) : List (V C) → Option (List (V C) × H C)
  | [] => some ([], h)
  | v :: r => match frz1 C h v with
    | some (v', h') => match frzL h' r with
      | some (r', h'') => some (v' :: r', h'')
      | none => none
    | none => none

def frz (h : H C) : V C → Option (V C × H C)
  | .agg cs => match frzL C h cs with
    | some (cs', h') => some (.agg cs', h')
    | none => none
  | v => frz1 C h v

def frzArgs (h : H C) : List (V C) → Option (List (V C) × H C)
  | [] => some ([], h)
  | v :: r => match frz C h v with
    | some (v', h') => match frzArgs h' r with
      | some (r', h'') => some (v' :: r', h'')
      | none => none
    | none => none

/-- does a value lead to no memory -/
def noRef1 {E : Nat → Type} : AV E → Bool
  | .bool _ | .int _ _ | .str _ | .nilp | .nils _ | .nilmap | .nilf => true
  | _ => false

def noRef {E : Nat → Type} : AV E → Bool
  | .agg cs => cs.all noRef1
  | .tuple vs => vs.all fun v => match v with
    | .agg cs => cs.all noRef1
    | v => noRef1 v
  | v => noRef1 v

/-- A summary by a plain function of what is handed in: it changes nothing. -/
def pureS (g : List (V C) → Option (V C)) (args : List (V C)) (h : H C) : OpR C.E :=
  match frzArgs C h args with
  | some (args', h') => match g args' with
    | some v => match noRef v with
      | true => .val v
      | false => .mem v h'
    | none => .no
  | none => .no

abbrev Sums := Nat → Option (List (V C) → H C → OpR C.E)

abbrev R := Tr C.E

def ev (sl : R C) : Operand → V C
  | .tmp t => sl.get t
  | .const v => match v with
    | .bool b => .bool b
    | .int k n => .int k n
    | .string s => .str s
    | .pointer none => .nilp
    | .map none => .nilmap
    | .nilFunc => .nilf
    | _ => .top
  | .func f => .fn f [] []
  | .global _ => .top

/-- an operand at a type: a nil slice has a type of elements -/
def evT (sl : R C) (t : Nat) (x : Operand) : V C := match x with
  | .const (.slice none 0 0) => match C.ty t with
    | some ty => match ty.k with
      | .slice e => .nils e
      | _ => .top
    | none => .top
  | x => ev C sl x

/-- the type of a slice's elements, if it is told -/
def elemOf (t : Nat) : Option Nat := match C.ty t with
  | some ty => match ty.k with
    | .slice e => match C.ty e with
      | some _ => some e
      | none => none
    | _ => none
  | none => none

/-- how many elements an array has, and of which type -/
def arrOf (t : Nat) : Option (Nat × Nat) := match C.ty t with
  | some ty => match ty.k with
    | .array n e => match C.ty e with
      | some _ => some (n, e)
      | none => none
    | _ => none
  | none => none

def fieldOf (t f : Nat) : Option (Nat × Nat) := match C.ty t with
  | some ty => match ty.k with
    | .struct fs => match fs[f]? with
      | some (o, t', _) => some (o, t')
      | none => none
    | _ => none
  | none => none

def ftOf (t f : Nat) : Nat := match fieldOf C t f with
  | some (_, t') => t'
  | none => 0

/-- are all cells of the elements of a type told -/
def full (t : Nat) : Bool := Nat.beq (C.enc t (C.z t)).length (C.size t) && Nat.blt 0 (C.size t)

/-- what a slice holds -/
def content (h : H C) (t : Nat) : V C → Option (List (C.E t))
  | .nils t' => match Nat.beq t' t with | true => some [] | false => none
  | .sl t' l => if e : t' = t then some (e ▸ l) else none
  | .own t' id => match Nat.beq t' t with
    | true => match h[id]? with
      | some (.arr t'' l _) => if e : t'' = t then some (e ▸ l) else none
      | _ => none
    | false => none
  | .view t' id lo n => match Nat.beq t' t with
    | true => match h[id]? with
      | some (.arr t'' l _) => if e : t'' = t then some (((e ▸ l : List (C.E t)).drop lo).take n) else none
      | _ => none
    | false => none
  | .viewc t' id lo n _ => match Nat.beq t' t with
    | true => match h[id]? with
      | some (.arr t'' l _) => if e : t'' = t then some (((e ▸ l : List (C.E t)).drop lo).take n) else none
      | _ => none
    | false => none
  | .tsl t' l => if e : t' = t then some (e ▸ l) else none
  | _ => none

/-- equality at a type -/
def eqV : Nat → Nat → List (V C) → List (V C) → Option Bool
  | 0, _, _, _ => none
  | d + 1, t, xs, ys => match C.ty t with
    | some ty => match ty.k with
      | .bool => match xs, ys with
        | [.bool a], [.bool b] => some (a == b)
        | _, _ => none
      | .int _ => match xs, ys with
        | [.int k a], [.int k' b] => if k = k' then some (a == b) else none
        | _, _ => none
      | .str => match xs, ys with
        | [.str a], [.str b] => some (a.toList == b.toList)
        | _, _ => none
      | .struct fs => fields d fs xs ys
      | _ => none
    | none => none
where
  fields (d : Nat) : List (Nat × Nat × Bool) → List (V C) → List (V C) → Option Bool
  | [], _, _ => some true
  | (o, t', named) :: fs, xs, ys => match named with
    | false => fields d fs xs ys
    | true => match isAgg C t' with
      | some (_, n) => match eqV d t' ((xs.drop o).take n) ((ys.drop o).take n), fields d fs xs ys with
        | some a, some b => some (a && b)
        | _, _ => none
      | none => none

def intOp {E : Nat → Type} (op : BinOp) (k : IntKind) (a b : Int) : OpR E := match op with
  | .add => .val (.int k (k.wrap (a + b)))
  | .sub => .val (.int k (k.wrap (a - b)))
  | .mul => .val (.int k (k.wrap (a * b)))
  | .quo => .chk (b ≠ 0) (.int k (k.wrap (a.tdiv b)))
  | .rem => .chk (b ≠ 0) (.int k (a.tmod b))
  | .and => .val (.int k (k.wrap (BitVec.ofInt k.bits a &&& BitVec.ofInt k.bits b).toNat))
  | .or => .val (.int k (k.wrap (BitVec.ofInt k.bits a ||| BitVec.ofInt k.bits b).toNat))
  | .xor => .val (.int k (k.wrap (BitVec.ofInt k.bits a ^^^ BitVec.ofInt k.bits b).toNat))
  | .andNot => .val (.int k (k.wrap (BitVec.ofInt k.bits a &&& ~~~(BitVec.ofInt k.bits b)).toNat))
  | .eql => .val (.bool (a == b))
  | .neq => .val (.bool (a != b))
  | .lss => .val (.bool (decide (a < b)))
  | .leq => .val (.bool (decide (a ≤ b)))
  | .gtr => .val (.bool (decide (a > b)))
  | .geq => .val (.bool (decide (a ≥ b)))
  | _ => .no

def strOp {E : Nat → Type} (op : BinOp) (a b : ByteArray) : OpR E := match op with
  | .add => .chk (((a.size + b.size : Nat) : Int) ≤ 9223372036854775807) (.str (a ++ b))
  | .eql => .val (.bool (a.toList == b.toList))
  | .neq => .val (.bool (!(a.toList == b.toList)))
  | .lss => .val (.bool (Op.bytesLess a.toList b.toList))
  | .leq => .val (.bool (Op.bytesLess a.toList b.toList || (a.toList == b.toList)))
  | .gtr => .val (.bool (!(Op.bytesLess a.toList b.toList || (a.toList == b.toList))))
  | .geq => .val (.bool (!(Op.bytesLess a.toList b.toList)))
  | _ => .no

def opBin (op : BinOp) (t : Nat) (x y : V C) : OpR C.E := match x, y with
  | .int k a, .int k' b => match op with
    | .shl => .chk (0 ≤ b) (.int k (k.wrap (a * 2 ^ (min b.toNat k.bits))))
    | .shr => .chk (0 ≤ b) (.int k (a.fdiv (2 ^ (min b.toNat k.bits))))
    | _ => if k = k' then intOp op k a b else .no
  | .str a, .str b => strOp op a b
  | .bool a, .bool b => match C.ty t with
    | some ty => match ty.k, op with
      | .bool, .eql => .val (.bool (a == b))
      | .bool, .neq => .val (.bool (!(a == b)))
      | _, _ => .no
    | none => .no
  | .agg a, .agg b => match isAgg C t, op, eqV C 8 t a b with
    | some (true, _), .eql, some r => .val (.bool r)
    | some (true, _), .neq, some r => .val (.bool (!r))
    | _, _, _ => .no
  | _, _ => .no

/-- a part of what a place holds -/
def cellsAt (h : H C) : V C → Option (List (V C) × Nat)
  | .ptr id off => match h[id]? with
    | some (.cells l) => some (l, off)
    | _ => none
  | .eptr t id i off => match h[id]? with
    | some (.arr t' l _) => if e : t' = t then some (C.enc t ((e ▸ l : List (C.E t)).getD i (C.z t)), off) else none
    | _ => none
  | .rptr t x off => some (C.enc t x, off)
  | _ => none

def storeAt (h : H C) (p : V C) (vs : List (V C)) : Option (H C) := match p with
  | .ptr id off => match h[id]? with
    | some (.cells l) => match splice l off vs with
      | some l' => some (h.set id (.cells l'))
      | none => none
    | _ => none
  | .eptr t id i off => match frzL C h vs with
    | some (vs', h') => match h'[id]? with
      | some (.arr t' l false) => if e : t' = t then
          match splice (C.enc t ((e ▸ l : List (C.E t)).getD i (C.z t))) off vs' with
          | some cs => match C.dec t cs with
            | some x => some (h'.set id (.arr t ((e ▸ l : List (C.E t)).set i x) false))
            | none => none
          | none => none
        else none
      | _ => none
    | none => none
  | _ => none

def fillParts (t : Nat) : List (Nat × V C) → List (V C) → Option (List (V C))
  | [], cs => some cs
  | (f, v) :: r, cs => match fieldOf C t f, cellsOf v with
    | some (o, ft), some vs => match C.ty ft with
      | some fty => match Nat.beq vs.length fty.size, splice cs o vs with
        | true, some cs' => fillParts t r cs'
        | _, _ => none
      | none => none
    | _, _ => none

def elemsOf (e : Nat) : List (V C) → H C → Option (List (C.E e) × H C)
  | [], h => some ([], h)
  | v :: r, h => match cellsOf v with
    | some cs => match Nat.beq cs.length (C.size e), frzL C h cs with
      | true, some (cs', h') => match C.dec e cs' with
        | some x => match elemsOf e r h' with
          | some (xs, h'') => some (x :: xs, h'')
          | none => none
        | none => none
      | _, _ => none
    | none => none

/-- the parts of a slice literal, in order and without gaps -/
def inOrder : List (Nat × Operand) → Nat → Bool
  | [], _ => true
  | (i, _) :: r, n => Nat.beq i n && inOrder r (n + 1)

def byteAt (s : ByteArray) (i : Int) : Int := ((s.data.toList.getD i.toNat 0).toNat : Int)

def strOfInts (l : List Int) : ByteArray := ⟨(l.map fun i => UInt8.ofNat i.toNat).toArray⟩
def intsOfStr (s : ByteArray) : List Int := s.data.toList.map fun b => (b.toNat : Int)

/-- bytes that may be in one slice, by the model's own bound -/
def roomOk (n bytes : Nat) : Prop := n * bytes ≤ 17592186044416

def strSlice {E : Nat → Type} (s : ByteArray) (lo hi : Option (AV E)) : OpR E := match lo, hi with
  | none, none => .val (.str s)
  | some (.int _ a), none => .chk (0 ≤ a ∧ a ≤ (s.size : Int)) (.str (s.extract a.toNat s.size))
  | none, some (.int _ b) => .chk (0 ≤ b ∧ b ≤ (s.size : Int)) (.str (s.extract 0 b.toNat))
  | some (.int _ a), some (.int _ b) => .chk ((0 ≤ b ∧ b ≤ (s.size : Int)) ∧ 0 ≤ a ∧ a ≤ b) (.str (s.extract a.toNat b.toNat))
  | _, _ => .no

/-- a slice, cut: 'lo0' is where it begins in its row, n its length -/
def cutOf {E : Nat → Type} (n : Nat) (whole : AV E) (part : Nat → Nat → AV E) (lo hi : Option (AV E)) : OpR E := match lo, hi with
  | none, none => .val whole
  | some (.int _ a), none => .chk (0 ≤ a ∧ a ≤ (n : Int)) (part a.toNat n)
  | none, some (.int _ b) => .chk (0 ≤ b ∧ b ≤ (n : Int)) (part 0 b.toNat)
  | some (.int _ a), some (.int _ b) => .chk ((0 ≤ b ∧ b ≤ (n : Int)) ∧ 0 ≤ a ∧ a ≤ b) (part a.toNat b.toNat)
  | _, _ => .no

def cutL {α β : Type} (lo hi : Option β) (l : List α) (a b : Nat) : List α := match lo, hi with
  | some _, none => l.drop a
  | none, _ => l.take b
  | _, _ => (l.take b).drop a

/-- .. where a slice's capacity is known -/
def cutC {E : Nat → Type} (n c : Nat) (whole : AV E) (part : Nat → Nat → AV E) (lo hi : Option (AV E)) : OpR E := match lo, hi with
  | none, none => .val whole
  | some (.int _ a), none => .chk (0 ≤ a ∧ a ≤ (n : Int)) (part a.toNat n)
  | none, some (.int _ b) => .chk (0 ≤ b ∧ b ≤ (c : Int)) (part 0 b.toNat)
  | some (.int _ a), some (.int _ b) => .chk ((0 ≤ b ∧ b ≤ (c : Int)) ∧ 0 ≤ a ∧ a ≤ b) (part a.toNat b.toNat)
  | _, _ => .no

def sliceOp (h : H C) (e : Nat) (x : V C) (lo hi : Option (V C)) : OpR C.E := match x with
  | .sl t l => match Nat.beq t e with
    | true => cutOf l.length (.sl t l) (fun a b => .sl t (cutL lo hi l a b)) lo hi
    | false => .no
  | .own t id => match Nat.beq t e, h[id]? with
    | true, some (.arr t' l _) => match Nat.beq t' t with
      | true => cutOf l.length (.own t id) (fun a b => .view t id a (b - a)) lo hi
      | false => .no
    | _, _ => .no
  | .view t id lo0 n => match Nat.beq t e with
    | true => cutOf n (.view t id lo0 n) (fun a b => .view t id (lo0 + a) (b - a)) lo hi
    | false => .no
  | .viewc t id lo0 n c => match Nat.beq t e with
    | true => cutC n c (.viewc t id lo0 n c) (fun a b => .viewc t id (lo0 + a) (b - a) (c - a)) lo hi
    | false => .no
  | .tsl t l => match Nat.beq t e with
    | true => cutOf l.length (.tsl t l) (fun a b => .sl t (cutL lo hi l a b)) lo hi
    | false => .no
  | .nils t => match Nat.beq t e, lo, hi with
    | true, none, none => .val (.nils t)
    | _, _, _ => .no
  | _ => .no

/-- x[a:b:m] -/
def cut3 (h : H C) (e : Nat) (x : V C) (a b m : Int) : OpR C.E := match x with
  | .nils t => match Nat.beq t e with
    | true => .chk (a = 0 ∧ b = 0 ∧ m = 0) (.nils t)
    | false => .no
  | .sl t l => match Nat.beq t e with
    | true => .chk ((0 ≤ a ∧ a ≤ b) ∧ b = m ∧ m ≤ (l.length : Int)) (.tsl t ((l.take b.toNat).drop a.toNat))
    | false => .no
  | .own t id => match Nat.beq t e, h[id]? with
    | true, some (.arr t' l _) => match Nat.beq t' t with
      | true => .chk ((0 ≤ a ∧ a ≤ b) ∧ b ≤ m ∧ m ≤ (l.length : Int)) (.viewc t id a.toNat (b.toNat - a.toNat) (m.toNat - a.toNat))
      | false => .no
    | _, _ => .no
  | .view t id lo0 n => match Nat.beq t e with
    | true => .chk ((0 ≤ a ∧ a ≤ b) ∧ b ≤ m ∧ m ≤ (n : Int)) (.viewc t id (lo0 + a.toNat) (b.toNat - a.toNat) (m.toNat - a.toNat))
    | false => .no
  | .viewc t id lo0 n c => match Nat.beq t e with
    | true => .chk ((0 ≤ a ∧ a ≤ b) ∧ b ≤ m ∧ m ≤ (c : Int)) (.viewc t id (lo0 + a.toNat) (b.toNat - a.toNat) (m.toNat - a.toNat))
    | false => .no
  | _ => .no

def slice3Op (h : H C) (e : Nat) (x : V C) (lo : Option (V C)) (hi mx : V C) : OpR C.E := match lo, hi, mx with
  | none, .int _ b, .int _ m => cut3 C h e x 0 b m
  | some (.int _ a), .int _ b, .int _ m => cut3 C h e x a b m
  | _, _, _ => .no

def indexAddrOp (h : H C) (e : Nat) (x : V C) (i : Int) : OpR C.E := match x with
  | .sl t l => match Nat.beq t e with
    | true => .chk (0 ≤ i ∧ i < (l.length : Int)) (.rptr t (l.getD i.toNat (C.z t)) 0)
    | false => .no
  | .own t id => match Nat.beq t e, h[id]? with
    | true, some (.arr t' l _) => match Nat.beq t' t with
      | true => .chk (0 ≤ i ∧ i < (l.length : Int)) (.eptr t id i.toNat 0)
      | false => .no
    | _, _ => .no
  | .view t id lo n => match Nat.beq t e, h[id]? with
    | true, some (.arr t' l _) => match Nat.beq t' t with
      | true => .chk (0 ≤ i ∧ i < (n : Int)) (.eptr t id (lo + i.toNat) 0)
      | false => .no
    | _, _ => .no
  | .viewc t id lo n _ => match Nat.beq t e, h[id]? with
    | true, some (.arr t' l _) => match Nat.beq t' t with
      | true => .chk (0 ≤ i ∧ i < (n : Int)) (.eptr t id (lo + i.toNat) 0)
      | false => .no
    | _, _ => .no
  | .tsl t l => match Nat.beq t e with
    | true => .chk (0 ≤ i ∧ i < (l.length : Int)) (.rptr t (l.getD i.toNat (C.z t)) 0)
    | false => .no
  | _ => .no

def arrAddrOp (h : H C) (n e : Nat) (x : V C) (i : Int) : OpR C.E := match x with
  | .ptr id off => match off, h[id]? with
    | 0, some (.arr t l _) => match Nat.beq t e with
      | true => .chk (0 ≤ i ∧ i < (n : Int) ∧ l.length = n) (.eptr t id i.toNat 0)
      | false => .no
    | _, _ => .no
  | _ => .no

def lenOp (h : H C) (t : Nat) (x : V C) : Option Int := match C.ty t with
  | some ty => match ty.k, x with
    | .str, .str s => some (s.size : Int)
    | .slice _, .nils _ => some 0
    | .slice _, .sl _ l => some (l.length : Int)
    | .slice _, .own _ id => match h[id]? with
      | some (.arr _ l _) => some (l.length : Int)
      | _ => none
    | .slice _, .view _ _ _ n => some (n : Int)
    | .slice _, .viewc _ _ _ n _ => some (n : Int)
    | .slice _, .tsl _ l => some (l.length : Int)
    | .map _ _, .nilmap => some 0
    | .map _ _, .map id => match h[id]? with
      | some (.map _ _ m) => some (m.length : Int)
      | _ => none
    | _, _ => none
  | none => none

/-- append: the old row is dead, the new one takes a new number -/
def appendTo (h : H C) (e : Nat) (x : V C) (ys : List (C.E e)) (bytes : Nat) : OpR C.E := match x with
  | .nils t => if t = e then .chm (roomOk ys.length bytes) (.own e h.length) (h ++ [.arr e ys false]) else .no
  | .own t id => if t = e then match h[id]? with
      | some (.arr t' l false) => if q : t' = e then
          .chm (roomOk (l.length + ys.length) bytes) (.own e h.length) (h.set id .dead ++ [.arr e ((q ▸ l : List (C.E e)) ++ ys) false])
        else .no
      | _ => .no
    else .no
  | .view t id 0 n => if t = e then match h[id]? with
      | some (.arr t' l false) => if q : t' = e then
          .chm (roomOk (n + ys.length) bytes) (.own e h.length) (h.set id .dead ++ [.arr e (((q ▸ l : List (C.E e)).take n) ++ ys) false])
        else .no
      | _ => .no
    else .no
  | .viewc t id lo n c => if t = e then match h[id]? with
      | some (.arr t' l _) => if q : t' = e then
          match n, c with
          | 0, 0 => .chm (roomOk ys.length bytes) (.own e h.length) (h ++ [.arr e ys false])
          | n, c => .chm (roomOk (n + ys.length) bytes ∧ c < n + ys.length) (.own e h.length) (h ++ [.arr e ((((q ▸ l : List (C.E e)).drop lo).take n) ++ ys) false])
        else .no
      | _ => .no
    else .no
  | .tsl t l => if q : t = e then
      match (q ▸ l : List (C.E e)) with
      | [] => .chm (roomOk ys.length bytes) (.own e h.length) (h ++ [.arr e ys false])
      | x :: l => .chm (roomOk ((x :: l).length + ys.length) bytes ∧ 0 < ys.length) (.own e h.length) (h ++ [.arr e ((x :: l) ++ ys) false])
    else .no
  | _ => .no

/-- does a value lead to this block -/
def leadsTo {E : Nat → Type} (id : Nat) : AV E → Bool
  | .own _ i => Nat.beq i id
  | .view _ i _ _ => Nat.beq i id
  | .viewc _ i _ _ _ => Nat.beq i id
  | _ => false

def clash {E : Nat → Type} (x y : AV E) : Bool := match x with
  | .own _ i => leadsTo i y
  | .view _ i _ _ => leadsTo i y
  | _ => false

def isStr : TyK → Bool
  | .str => true
  | _ => false

def appendOp (h : H C) (xt yt : Nat) (x y : V C) : OpR C.E := match elemOf C xt with
  | some e => match C.ty e, full C e, clash x y with
    | some ety, true, false => match !(isArr ety.k) && Nat.blt 0 ety.bytes with
     | false => .no
     | true => match y with
      | .str s => match C.ty yt, C.ofInts e (intsOfStr s) with
        | some yty, some ys => match isStr yty.k, Nat.beq (C.size e) 1 with
          | true, true => appendTo C h e x ys ety.bytes
          | _, _ => .no
        | _, _ => .no
      | y => match elemOf C yt, content C h e y with
        | some e', some ys => match Nat.beq e' e with
          | true => appendTo C h e x ys ety.bytes
          | false => .no
        | _, _ => .no
    | _, _, _ => .no
  | none => .no

/-- copy into a row of the call's own, from what is read -/
def copyTo (h : H C) (e id lo n : Nat) (ys : List (C.E e)) : OpR C.E := match h[id]? with
  | some (.arr t' l false) => if q : t' = e then
      .mem (.int .i64 ((min ys.length n : Nat) : Int)) (h.set id (.arr e ((q ▸ l : List (C.E e)).take lo ++ ys.take (min ys.length n) ++ (q ▸ l : List (C.E e)).drop (lo + min ys.length n)) false))
    else .no
  | _ => .no

def copyOp (h : H C) (xt yt : Nat) (x y : V C) : OpR C.E := match x with
  | .own e id => match elemOf C xt, elemOf C yt, clash x y, full C e with
    | some e', some _, false, true => match Nat.beq e' e, h[id]?, content C h e y with
      | true, some (.arr _ l false), some ys => copyTo C h e id 0 l.length ys
      | _, _, _ => .no
    | _, _, _, _ => .no
  | _ => .no

def clearOp (h : H C) (t : Nat) (x : V C) : OpR C.E := .no

def minmax (lt : Int → Int → Bool) : Int → List (V C) → Option Int
  | x, [] => some x
  | x, .int _ y :: r => minmax lt (match lt x y with | true => y | false => x) r
  | _, _ => none

def lookupM {α β : Type} (eq : α → Bool) : List (α × β) → Option β
  | [] => none
  | (k, v) :: r => match eq k with
    | true => some v
    | false => lookupM eq r

def eqEnc : List (V C) → List (V C) → Option Bool
  | [.int _ a], [.int _ b] => some (a == b)
  | [.str a], [.str b] => some (a.toList == b.toList)
  | _, _ => none

def builtinOp (h : H C) (b : Builtin) (ts : List Nat) (xs : List (V C)) : OpR C.E := match b, ts, xs with
  | .len, [t], [x] => match lenOp C h t x with
    | some n => .val (.int .i64 n)
    | none => .no
  | .append, [t, t'], [x, y] => appendOp C h t t' x y
  | .copy, [t, t'], [x, y] => copyOp C h t t' x y
  | .clear, [t], [x] => clearOp C h t x
  | .min, _, .int k x :: r => match minmax C (fun x y => decide (y < x)) x r with
    | some n => .val (.int k n)
    | none => .no
  | .max, _, .int k x :: r => match minmax C (fun x y => decide (x < y)) x r with
    | some n => .val (.int k n)
    | none => .no
  | _, _, _ => .no

/-- what is handed in, each at its type -/
def argsT (sl : R C) : List Operand → List Nat → List (V C)
  | [], _ => []
  | x :: xs, [] => ev C sl x :: argsT sl xs []
  | x :: xs, t :: ts => evT C sl t x :: argsT sl xs ts

/-- A call of something that has a summary. -/
def callS (S : Sums C) (h : H C) (f : V C) (xs : List (V C)) : OpR C.E := match f with
  | .fn f first caps => match S f with
    | some s => s (first ++ xs ++ caps) h
    | none => .no
  | _ => .no

def okv {E : Nat → Type} (v : Option (AV E)) : OpR E := match v with
  | some v => .val v
  | none => .no

def isU8 (e : Nat) : Bool := match C.ty e with
  | some ty => match ty.k with
    | .int .u8 => Nat.beq ty.size 1 && full C e
    | _ => false
  | none => false

def convertOp (h : H C) (s d : TyK) (v : V C) : OpR C.E := match s, d with
  | .int _, .int k => match v with
    | .int _ n => .val (.int k (k.wrap n))
    | _ => .no
  | .str, .str => match v with
    | .str s => .val (.str s)
    | _ => .no
  | .slice e, .str => match isU8 C e, content C h e v with
    | true, some l => match C.toInts e l with
      | some is => .val (.str (strOfInts is))
      | none => .no
    | _, _ => .no
  | _, _ => .no

/-- an array's value -/
def loadArr (h : H C) (n e : Nat) (p : V C) : OpR C.E := match p with
  | .ptr id off => match off, h[id]? with
    | 0, some (.arr t l _) => match Nat.beq t e with
      | true => .chk (l.length = n) (.aarr t l)
      | false => .no
    | _, _ => .no
  | _ => .no

/-- a slice held against nil: it is nil only if it has no elements -/
def emptyP (h : H C) : V C → Option Prop
  | .nils _ => some True
  | .sl _ l => some (l = [])
  | .tsl _ l => some (l = [])
  | .own _ id => match h[id]? with
    | some (.arr _ l _) => some (l = [])
    | _ => none
  | .view _ _ _ n => some (n = 0)
  | .viewc _ _ _ n _ => some (n = 0)
  | _ => none

def nilCmp (h : H C) (op : BinOp) (t : Nat) (x : V C) : OpR C.E := match elemOf C t, x, op with
  | some _, .nils _, .eql => .val (.bool true)
  | some _, .nils _, .neq => .val (.bool false)
  | some _, x, .eql => match emptyP C h x with
    | some p => .anyB fun b => b = true → p
    | none => .no
  | some _, x, .neq => match emptyP C h x with
    | some p => .anyB fun b => b = false → p
    | none => .no
  | _, _, _ => .no

/-- One operation. -/
def opF (S : Sums C) (sl : R C) (h : H C) (o : Oper) : OpR C.E :=
  match o.op with
  | .move x => .val (evT C sl o.type x)
  | .assign x => .val (evT C sl o.type x)
  | .pick c a b => match ev C sl c with
    | .bool true => .val (evT C sl o.type a)
    | .bool false => .val (evT C sl o.type b)
    | _ => .no
  | .alloc t => match C.ty t with
    | some ty => match isArr ty.k with
      | true => match arrOf C t with
        | some (n, e) => .mem (.ptr h.length 0) (h ++ [.arr e (List.replicate n (C.z e)) false])
        | none => .no
      | false => .mem (.ptr h.length 0) (h ++ [.cells ty.zero])
    | none => .no
  | .box t x => match evT C sl t x with
    | .aarr e l => .mem (.ptr h.length 0) (h ++ [.arr e l false])
    | v => match C.ty t, cellsOf v with
      | some ty, some cs => match Nat.beq cs.length ty.size with
        | true => .mem (.ptr h.length 0) (h ++ [.cells cs])
        | false => .no
      | _, _ => .no
  | .build t parts => match C.ty t with
    | some ty => match ty.k with
      | .struct _ => match fillParts C t (parts.toList.map fun p => (p.1, evT C sl (ftOf C t p.1) p.2)) ty.zero with
        | some cs => .val (.agg cs)
        | none => .no
      | _ => .no
    | none => .no
  | .buildSlice t n parts => match elemOf C t with
    | some e => match inOrder parts.toList 0 && Nat.beq parts.toList.length n && Nat.blt 0 (C.size e) && Nat.ble (n * C.size e) 16777216 with
      | true => match elemsOf C e (parts.toList.map fun (_, x) => evT C sl e x) h with
        | some (xs, h') => .mem (.own e h'.length) (h' ++ [.arr e xs false])
        | none => .no
      | false => .no
    | none => .no
  | .load t a => match arrOf C t with
    | some (n, e) => loadArr C h n e (ev C sl a)
    | none => match cellsAt C h (ev C sl a) with
      | some (cs, off) => okv (pickAt C t cs off)
      | none => .no
  | .store t a x => match cellsOf (evT C sl t x), C.ty t with
    | some vs, some ty => match Nat.beq vs.length ty.size with
      | true => match storeAt C h (ev C sl a) vs with
        | some h' => .mem .top h'
        | none => .no
      | false => .no
    | _, _ => .no
  | .nilCheck x => match ev C sl x with
    | .ptr id off => .val (.ptr id off)
    | .eptr t id i off => .val (.eptr t id i off)
    | .rptr t x off => .val (.rptr t x off)
    | .fn f a b => .val (.fn f a b)
    | _ => .no
  | .binOp op t x y _ => match evT C sl t y with
    | .nils _ => nilCmp C h op t (evT C sl t x)
    | y => opBin C op t (evT C sl t x) y
  | .unOp op _ x => match op, ev C sl x with
    | .not, .bool b => .val (.bool !b)
    | .neg, .int k n => .val (.int k (k.wrap (0 - n)))
    | .xor, .int k n => .val (.int k (k.wrap (BitVec.ofInt k.bits (if k.signed then -1 else k.max) ^^^ BitVec.ofInt k.bits n).toNat))
    | _, _ => .no
  | .convert s d x => match C.ty s, C.ty d with
    | some sty, some dty => convertOp C h sty.k dty.k (evT C sl s x)
    | _, _ => .no
  | .makeFunc fn first caps => match fn with
    | .func f => .val (.fn f (first.toList.map (ev C sl)) (caps.toList.map (ev C sl)))
    | _ => .no
  | .makeSlice t l c => match elemOf C t, ev C sl l, ev C sl c with
    | some e, .int _ n, .int _ m => match C.ty e with
      | some ety => match isArr ety.k with
        | false => .chm (n = m ∧ 0 ≤ n ∧ n < 4294967296 ∧ roomOk n.toNat ety.bytes) (.own e h.length) (h ++ [.arr e (List.replicate n.toNat (C.z e)) false])
        | true => .no
      | none => .no
    | _, _, _ => .no
  | .slice t x lo hi (some mx) => match elemOf C t, hi with
    | some e, some hi => slice3Op C h e (evT C sl t x) (lo.map (ev C sl)) (ev C sl hi) (ev C sl mx)
    | _, _ => .no
  | .slice t x lo hi none => match evT C sl t x with
    | .str s => match C.ty t with
      | some ty => match ty.k with
        | .str => strSlice s (lo.map (ev C sl)) (hi.map (ev C sl))
        | _ => .no
      | none => .no
    | v => match elemOf C t with
      | some e => sliceOp C h e v (lo.map (ev C sl)) (hi.map (ev C sl))
      | none => .no
  | .fieldAddr t x f => match fieldOf C t f, ev C sl x with
    | some (o, _), .ptr id off => .val (.ptr id (off + o))
    | some (o, _), .eptr e id i off => .val (.eptr e id i (off + o))
    | some (o, _), .rptr e x off => .val (.rptr e x (off + o))
    | _, _ => .no
  | .field t x f => match fieldOf C t f, ev C sl x with
    | some (o, ft), .agg cs => okv (pickAt C ft cs o)
    | _, _ => .no
  | .indexAddr t x i => match ev C sl i with
    | .int _ i => match elemOf C t with
      | some e => indexAddrOp C h e (evT C sl t x) i
      | none => match arrOf C t with
        | some (n, e) => arrAddrOp C h n e (ev C sl x) i
        | none => .no
    | _ => .no
  | .index t x i => match C.ty t, ev C sl x, ev C sl i with
    | some ty, .str s, .int _ i => match ty.k with
      | .str => .chk (0 ≤ i ∧ i < (s.size : Int)) (.int .u8 (byteAt s i))
      | _ => .no
    | some _, .aarr e l, .int _ i => match arrOf C t with
      | some (n, e') => match Nat.beq e' e, isAgg C e, C.enc e (l.getD i.toNat (C.z e)) with
        | true, some (false, 1), [v] => .chk (0 ≤ i ∧ i < (n : Int) ∧ l.length = n) v
        | _, _, _ => .no
      | none => .no
    | _, _, _ => .no
  | .extract x i => match ev C sl x with
    | .tuple vs => okv vs[i]?
    | _ => .no
  | .call c => match c.callee with
    | .builtin b => builtinOp C h b c.argTypes.toList (argsT C sl c.args.toList c.argTypes.toList)
    | .value f => callS C S h (ev C sl f) (argsT C sl c.args.toList c.argTypes.toList)
    | _ => .no
  | _ => .no

def fuel : Nat := 12

def put (sl : R C) (d : Option Nat) (v : V C) (K : R C → Prop) : Prop := match d with
  | some d => setK fuel sl d v K
  | none => K sl

/-- the call of a function by its body: args, heap, what follows -/
abbrev Enter := Nat → List (V C) → H C → (V C → H C → Prop) → Prop

def after (h : H C) (r : OpR C.E) (K : V C → H C → Prop) (other : Prop) : Prop := match r with
  | .val v => forceV 3 v fun v => K v h
  | .chk p v => p ∧ forceV 3 v fun v => K v h
  | .mem v h => forceV 3 v fun v => forceH h fun h => K v h
  | .chm p v h => p ∧ forceV 3 v fun v => forceH h fun h => K v h
  | .anyB p => ∀ b, p b → K (.bool b) h
  | .no => other

def argsOf (sl : R C) (c : Call) : List (V C) := argsT C sl c.args.toList c.argTypes.toList

def opK (S : Sums C) (N : Enter C) (sl : R C) (h : H C) (o : Oper) (K : V C → H C → Prop) : Prop :=
  after C h (opF C S sl h o) K (match o.op with
    | .call c => match c.callee with
      | .value f => match ev C sl f with
        | .fn g first caps => N g (first ++ argsOf C sl c ++ caps) h K
        | _ => False
      | _ => False
    | _ => False)

/-- an operation under its guard: what is done, and what is done where it is passed over -/
def guarded (ops : List Oper) (sl : R C) (o : Oper) (run skip : R C → Prop) : Prop := match o.guard with
  | none => run sl
  | some (j, want) => match ops[j]? with
    | some oj => match oj.dst with
      | some t => match sl.get t with
        | .bool b => match want with
          | true => br b (setK fuel sl t (.bool true) run) (setK fuel sl t (.bool false) skip)
          | false => br b (setK fuel sl t (.bool true) skip) (setK fuel sl t (.bool false) run)
        | .tuple vs => match vs with
          | [] => skip sl
          | _ => False
        | _ => False
      | none => False
    | none => False

def opsK (S : Sums C) (N : Enter C) (ops : List Oper) : List Oper → R C → H C → (R C → H C → Prop) → Prop
  | [], sl, h, K => K sl h
  | o :: r, sl, h, K => guarded C ops sl o
      (fun sl => opK C S N sl h o fun v h => put C sl o.dst v fun sl => opsK S N ops r sl h K)
      (fun sl => put C sl o.dst (.tuple []) fun sl => opsK S N ops r sl h K)

/-! regions whose order is drawn: each operation is told in the part of the heap that it may reach, and none may write what another one that is not ordered with it may reach -/

/-- are all blocks that a value leads to among these -/
def allIds {E : Nat → Type} (p : Nat → Bool) : Nat → AV E → Bool
  | _, .ptr id _ => p id
  | _, .eptr _ id _ _ => p id
  | _, .own _ id => p id
  | _, .view _ id _ _ => p id
  | _, .viewc _ id _ _ _ => p id
  | _, .map id => p id
  | d + 1, .fn _ a b => a.all (allIds p d) && b.all (allIds p d)
  | d + 1, .agg cs => cs.all (allIds p d)
  | d + 1, .tuple cs => cs.all (allIds p d)
  | 0, .fn _ _ _ => false
  | 0, .agg _ => false
  | 0, .tuple _ => false
  | _, _ => true

def blkAll {E : Nat → Type} (p : Nat → Bool) : Blk E → Bool
  | .cells l => l.all (allIds p 4)
  | _ => true

/-- the numbers of the blocks that a value leads to at once -/
def ids1 {E : Nat → Type} : AV E → List Nat
  | .ptr id _ => [id]
  | .eptr _ id _ _ => [id]
  | .own _ id => [id]
  | .view _ id _ _ => [id]
  | .viewc _ id _ _ _ => [id]
  | .map id => [id]
  | _ => []

def idsOf {E : Nat → Type} : Nat → AV E → List Nat
  | d + 1, .agg cs => cs.flatMap (idsOf d)
  | d + 1, .tuple cs => cs.flatMap (idsOf d)
  | d + 1, .fn _ a b => a.flatMap (idsOf d) ++ b.flatMap (idsOf d)
  | _, v => ids1 v

/-- all that is reached from some blocks -/
def reach (h : H C) : Nat → List Nat → List Nat → List Nat
  | 0, _, acc => acc
  | _, [], acc => acc
  | d + 1, i :: r, acc => match acc.contains i with
    | true => reach h d r acc
    | false => match h[i]? with
      | some (.cells l) => reach h d (l.flatMap (idsOf 4) ++ r) (i :: acc)
      | some .dead => reach h d r acc
      | none => reach h d r acc
      | _ => reach h d r (i :: acc)

/-- the heap but for what is not named -/
def only {E : Nat → Type} (keep : List Nat) : Nat → List (Blk E) → List (Blk E)
  | _, [] => []
  | n, b :: r => (match keep.contains n with | true => b | false => .dead) :: only keep (n + 1) r

/-- what an operation has made of its part, put back -/
def over {E : Nat → Type} (keep : List Nat) : Nat → List (Blk E) → List (Blk E) → List (Blk E)
  | _, [], new => new
  | _, h, [] => h
  | n, b :: r, c :: s => (match keep.contains n with | true => c | false => b) :: over keep (n + 1) r s

/-- may this operation write, as far as its form tells? -/
def writes : Op → Bool
  | .store .. | .mapUpdate .. | .insert .. | .buildSlice .. => true
  | .call c => match c.callee with
    | .builtin b => match b with
      | .len | .min | .max => false
      | _ => true
    | _ => true
  | .next .. | .range .. | .entry .. | .mapEntry .. | .entryStore .. => true
  | _ => false

def operandsOf (o : Oper) : List Operand := o.op.operands.toList

/-- the operations that must be behind this one are known: those ahead of it, as a list of numbers -/
def dedupL : List Nat → List Nat → List Nat
  | acc, [] => acc
  | acc, x :: r => match acc.contains x with
    | true => dedupL acc r
    | false => dedupL (x :: acc) r

def predsOf (done : List (List Nat)) (o : Oper) : List Nat :=
  dedupL [] <| o.after.toList.flatMap fun e => match Region.binds .any e with
    | true => e.on :: (done[e.on]?).getD []
    | false => []

structure Rec where
  preds : List Nat
  dst : Option Nat
  looks : List Nat
  reads : List Nat
  wr : List Nat

def tmpsOf (o : Oper) (ops : List Oper) : List Nat :=
  (operandsOf o).filterMap (fun | .tmp t => some t | _ => none) ++ (match o.guard with
    | some (j, _) => match ops[j]? with
      | some oj => oj.dst.toList
      | none => []
    | none => [])

def meets (a b : List Nat) : Bool := a.any b.contains

/-- two operations that are not ordered do not disturb each other -/
def apart (a b : Rec) : Bool :=
  !(meets a.dst.toList b.looks) && !(meets b.dst.toList a.looks) && !(meets a.dst.toList b.dst.toList) &&
  !(meets a.wr (b.reads ++ b.wr)) && !(meets b.wr a.reads)

/-- is the new operation (number n) apart from all that are not ahead of it? -/
def allApart (r : Rec) : Nat → List Rec → Bool
  | _, [] => true
  | i, q :: rest => (r.preds.contains i || apart r q) && allApart r (i + 1) rest

def fromTo : Nat → Nat → List Nat
  | 0, _ => []
  | n + 1, a => a :: fromTo n (a + 1)

def allOf (sl : R C) (h : H C) (o : Oper) : List Nat := reach C h 64 (((operandsOf o).map (ev C sl)).flatMap (idsOf 4)) []

/-- does a value have no room for more -/
def noRoom {E : Nat → Type} : AV E → Bool
  | .viewc _ _ _ _ _ => true
  | .tsl _ _ => true
  | _ => false

/-- may it write, what it is handed being known: where there is no room, append does not -/
def wrAt (sl : R C) (o : Oper) : Bool := match o.op with
  | .call c => match c.callee with
    | .builtin b => match b, c.args.toList with
      | .append, x :: _ => !(noRoom (ev C sl x))
      | _, _ => writes o.op
    | _ => writes o.op
  | _ => writes o.op

def recOf (ops : List Oper) (o : Oper) (wr : Bool) (preds al : List Nat) (old new : Nat) : Rec :=
  ⟨preds, o.dst, tmpsOf o ops, al, (match wr with | true => al | false => []) ++ fromTo (new - old) old⟩

def freshDst (d : Option Nat) : List Rec → Bool
  | [] => true
  | q :: r => (match d, q.dst with
    | some a, some b => !(Nat.beq a b)
    | _, _ => true) && freshDst d r

/-- the heap behind an operation -/
def behind (wr : Bool) (al : List Nat) (h h' : H C) : H C := match wr with
  | true => over al 0 h h'
  | false => h ++ h'.drop h.length

/-- what an operation leaves leads to what it could reach, or is new -/
def closedD (al : List Nat) (n : Nat) (v : V C) (h' : H C) : Bool :=
  Nat.ble n h'.length && allIds (fun i => al.contains i || Nat.ble n i) 4 v && (h'.drop n).all (blkAll (fun i => al.contains i || Nat.ble n i)) && al.all fun i => match h'[i]? with
    | some b => blkAll (fun i => al.contains i || Nat.ble n i) b
    | none => true

/-- what an operation must come after stands ahead of it -/
def edgesOk (n : Nat) (o : Oper) : Bool := o.after.toList.all fun e => !(Region.binds .any e) || Nat.blt e.on n

def okD (recs : List Rec) (o : Oper) (r : Rec) : Bool := edgesOk recs.length o && freshDst o.dst recs && allApart r 0 recs

/-- .. where the order is drawn: what is not told for certain is not told -/
def afterD (h : H C) (r : OpR C.E) (K : V C → H C → Prop) (other : Prop) : Prop := match r with
  | .anyB _ => other
  | r => after C h r K other

def stepD (S : Sums C) (ops : List Oper) (sl : R C) (h : H C) (recs : List Rec) (o : Oper) (K : List Rec → R C → H C → Prop) : Prop :=
  guarded C ops sl o
    (fun sl => afterD C (only (allOf C sl h o) 0 h) (opF C S sl (only (allOf C sl h o) 0 h) o)
      (fun v h' => match okD recs o (recOf ops o (wrAt C sl o) (predsOf (recs.map Rec.preds) o) (allOf C sl h o) h.length h'.length) && closedD C (allOf C sl h o) h.length v h' with
        | true => forceH (behind C (wrAt C sl o) (allOf C sl h o) h h') fun h'' => put C sl o.dst v fun sl' =>
            K (recs ++ [recOf ops o (wrAt C sl o) (predsOf (recs.map Rec.preds) o) (allOf C sl h o) h.length h'.length]) sl' h''
        | false => False) False)
    (fun sl => match okD recs o (recOf ops o false (predsOf (recs.map Rec.preds) o) [] 0 0) with
      | true => put C sl o.dst (.tuple []) fun sl' => K (recs ++ [recOf ops o false (predsOf (recs.map Rec.preds) o) [] 0 0]) sl' h
      | false => False)

def drawK (S : Sums C) (ops : List Oper) : List Oper → List Rec → R C → H C → (R C → H C → Prop) → Prop
  | [], _, sl, h, K => K sl h
  | o :: r, recs, sl, h, K => stepD C S ops sl h recs o fun recs' sl' h' => drawK S ops r recs' sl' h' K

/-! .. where nothing is written: what may be drawn is told by the region's text alone -/
def sRec (ops : List Oper) (o : Oper) (preds : List Nat) : Rec := ⟨preds, o.dst, tmpsOf o ops, [], []⟩

def staticL (ops : List Oper) : List Oper → List Rec → Bool
  | [], _ => true
  | o :: r, recs => okD recs o (sRec ops o (predsOf (recs.map Rec.preds) o)) && staticL ops r (recs ++ [sRec ops o (predsOf (recs.map Rec.preds) o)])

/-- what an operation may see: a call that is handed nothing of the call's own, nothing -/
def qHeap (o : Oper) (h : H C) : H C := match writes o.op with
  | true => only [] 0 h
  | false => h

def qShut (o : Oper) (n : Nat) (v : V C) : Bool := match writes o.op with
  | true => allIds (fun _ => false) 4 v
  | false => allIds (fun i => Nat.blt i n) 4 v

def afterQ (o : Oper) (n : Nat) (r : OpR C.E) (K : V C → Prop) : Prop := match r with
  | .val v => forceV 3 v fun v => match qShut C o n v with
    | true => K v
    | false => False
  | .chk p v => p ∧ forceV 3 v fun v => match qShut C o n v with
    | true => K v
    | false => False
  | _ => False

def quietK (S : Sums C) (ops : List Oper) : List Oper → R C → H C → (R C → H C → Prop) → Prop
  | [], sl, h, K => K sl h
  | o :: r, sl, h, K => guarded C ops sl o
      (fun sl => afterQ C o h.length (opF C S sl (qHeap C o h) o) fun v => put C sl o.dst v fun sl => quietK S ops r sl h K)
      (fun sl => put C sl o.dst (.tuple []) fun sl => quietK S ops r sl h K)

/-- A region whose order is drawn. -/
inductive Drawn (S : Sums C) (ops : List Oper) (sl : R C) (h : H C) (K : R C → H C → Prop) : Prop
  | any (hk : drawK C S ops ops [] sl h K)
  | quiet (hs : staticL ops ops [] = true) (hw : h.all (blkAll (fun i => Nat.blt i h.length)) = true) (hk : quietK C S ops ops sl h K)

/-! code -/

/-- blocks are numbered anew from 'base' on, in the order in which the registers lead to them; what is not led to falls away -/
def renV {E : Nat → Type} (m : Nat → Option Nat) : Nat → AV E → AV E
  | _, .ptr id off => match m id with | some id => .ptr id off | none => .top
  | _, .eptr t id i off => match m id with | some id => .eptr t id i off | none => .top
  | _, .own t id => match m id with | some id => .own t id | none => .top
  | _, .view t id lo n => match m id with | some id => .view t id lo n | none => .top
  | _, .viewc t id lo n c => match m id with | some id => .viewc t id lo n c | none => .top
  | _, .map id => match m id with | some id => .map id | none => .top
  | d + 1, .fn f a b => .fn f (a.map (renV m d)) (b.map (renV m d))
  | d + 1, .agg cs => match cs.all (allIds (fun i => (m i).isSome) d) with | true => .agg (cs.map (renV m d)) | false => .top
  | d + 1, .tuple cs => .tuple (cs.map (renV m d))
  | 0, .fn _ _ _ => .top
  | 0, .agg _ => .top
  | 0, .tuple _ => .top
  | _, v => v

def renB {E : Nat → Type} (m : Nat → Option Nat) : Blk E → Blk E
  | .cells l => match l.all (allIds (fun i => (m i).isSome) 4) with | true => .cells (l.map (renV m 4)) | false => .dead
  | b => b

def trList {E : Nat → Type} : Tr E → List (AV E)
  | .lf => []
  | .nd v l r => v :: (trList l ++ trList r)

def trMap {E : Nat → Type} (f : AV E → AV E) : Tr E → Tr E
  | .lf => .lf
  | .nd v l r => .nd (f v) (trMap f l) (trMap f r)

def findAt (base : Nat) : List Nat → Nat → Nat → Option Nat
  | [], _, _ => none
  | j :: r, n, i => match Nat.beq j i with
    | true => some (base + n)
    | false => findAt base r (n + 1) i

def place (base : Nat) (kept : List Nat) (i : Nat) : Option Nat := match Nat.blt i base with
  | true => some i
  | false => findAt base kept 0 i

/-- all behind 'base', and no two the same -/
def okKept (base : Nat) : List Nat → Bool
  | [] => true
  | i :: r => Nat.ble base i && !(r.contains i) && okKept base r

def pickB {E : Nat → Type} (h : List (Blk E)) : List Nat → List (Blk E)
  | [] => []
  | i :: r => (h[i]?).getD .dead :: pickB h r

def blkIds {E : Nat → Type} : Blk E → List Nat
  | .cells l => l.flatMap (idsOf 4)
  | _ => []

def killK {E : Nat → Type} : List Nat → Tr E → (Tr E → Prop) → Prop
  | [], sl, K => K sl
  | t :: r, sl, K => setK fuel sl t .top fun sl => killK r sl K

/-- the blocks that are kept, in their new order -/
def kept (base : Nat) (sl : R C) (h : H C) : List Nat :=
  (reach C h 256 ((trList sl).flatMap (idsOf 4) ++ (h.take base).flatMap blkIds) []).reverse.filter (fun i => !(Nat.blt i base))

def tidyK (base : Nat) (sl : R C) (h : H C) (K : R C → H C → Prop) : Prop := match okKept base (kept C base sl h) with
  | true => forceT (trMap (renV (place base (kept C base sl h)) 4) sl) fun sl' =>
    forceH ((h.take base).map (renB (place base (kept C base sl h))) ++ (pickB h (kept C base sl h)).map (renB (place base (kept C base sl h)))) fun h' => K sl' h'
  | false => False

/-- registers of which nothing is told take no room -/
def prune {E : Nat → Type} : Tr E → (Tr E → Prop) → Prop
  | .lf, k => k .lf
  | .nd v l r, k => prune l fun l' => prune r fun r' => match v, l', r' with
    | .top, .lf, .lf => k .lf
    | v, l', r' => k (.nd v l' r')

def mkSet {E : Nat → Type} : Nat → Tr E → Nat → AV E → Tr E
  | 0, t, _, _ => t
  | d + 1, .lf, n, v => match n with
    | 0 => .nd v .lf .lf
    | m + 1 => match m % 2 with
      | 0 => .nd .top (mkSet d .lf (m / 2) v) .lf
      | _ => .nd .top .lf (mkSet d .lf (m / 2) v)
  | d + 1, .nd u l r, n, v => match n with
    | 0 => .nd v l r
    | m + 1 => match m % 2 with
      | 0 => .nd u (mkSet d l (m / 2) v) r
      | _ => .nd u l (mkSet d r (m / 2) v)

/-- registers out of a list -/
def mk {E : Nat → Type} : List (Nat × AV E) → Tr E
  | [] => .lf
  | (n, v) :: r => mkSet 12 (mk r) n v

/-- nil slices get rows of their own -/
def nilV {E : Nat → Type} (n : Nat) : AV E → AV E × List (Blk E)
  | .nils t => (.own t n, [.arr t [] false])
  | v => (v, [])

def nilL {E : Nat → Type} : Nat → List (AV E) → List (AV E) × List (Blk E)
  | _, [] => ([], [])
  | n, v :: r => match nilV n v with
    | (v', a) => match nilL (n + a.length) r with
      | (r', b) => (v' :: r', a ++ b)

def nilT {E : Nat → Type} : Nat → Tr E → Tr E × List (Blk E)
  | _, .lf => (.lf, [])
  | n, .nd v l r => match nilV n v with
    | (v', a) => match nilT (n + a.length) l with
      | (l', b) => match nilT (n + a.length + b.length) r with
        | (r', c) => (.nd v' l' r', a ++ (b ++ c))

def isNil {E : Nat → Type} : AV E → Bool
  | .nils _ => true
  | _ => false

def hasNilT {E : Nat → Type} : Tr E → Bool
  | .lf => false
  | .nd v l r => isNil v || (hasNilT l || hasNilT r)

/-- .. in variables, from number k on -/
def nilToK {E : Nat → Type} : Nat → Nat → List (Blk E) → (List (Blk E) → Prop) → Prop
  | 0, _, h, K => K h
  | n + 1, k, h, K => match h[k]? with
    | some (.cells l) => match l.any isNil with
      | true => match nilL h.length l with
        | (l', a) => forceH (h.set k (.cells l') ++ a) fun h => nilToK n (k + 1) h K
      | false => nilToK n (k + 1) h K
    | _ => nilToK n (k + 1) h K

def nilK (sl : R C) (h : H C) (K : R C → H C → Prop) : Prop := match hasNilT sl with
  | true => match nilT h.length sl with
    | (sl', a) => forceT sl' fun sl' => forceH (h ++ a) fun h => nilToK h.length 0 h fun h => K sl' h
  | false => nilToK h.length 0 h fun h => K sl h

def canonK (base : Nat) (kill : List Nat) (sl : R C) (h : H C) (K : R C → H C → Prop) : Prop :=
  killK kill sl fun sl => prune sl fun sl => nilK C sl h fun sl h => match Nat.beq h.length base with
    | true => K sl h
    | false => tidyK C base sl h K

structure FnI (E : Nat → Type) where
  fn : Func
  kills : List (Nat × List Nat)     -- of a loop, by its body's first region: what falls away between rounds

def firstRegion : Code → Nat
  | .region id _ _ => id
  | .seq a _ => firstRegion a
  | .block _ b => firstRegion b
  | .cond _ a _ => firstRegion a
  | .loop b => firstRegion b
  | .scope b => firstRegion b
  | _ => 0

def killsOf (l : List (Nat × List Nat)) (n : Nat) : List Nat := match l with
  | [] => []
  | (m, k) :: r => match Nat.beq m n with
    | true => k
    | false => killsOf r n

def iter (body : R C → H C → (Ex → R C → H C → Prop) → Prop) (cn : R C → H C → (R C → H C → Prop) → Prop) (K : Ex → R C → H C → Prop) : Nat → R C → H C → Prop
  | 0, _, _ => False
  | n + 1, sl, h => body sl h fun e sl h => match e with
    | .normal => cn sl h (iter body cn K n)
    | .exit i => K (.exit i) sl h
    | .ret => K .ret sl h

theorem loop_ind {α : Type} (st : α → R C) (hp : α → H C) (I : α → Prop) (μ : α → Nat) {body : R C → H C → (Ex → R C → H C → Prop) → Prop} {cn : R C → H C → (R C → H C → Prop) → Prop} {K : Ex → R C → H C → Prop} (x0 : α) (h0 : I x0)
    (step : ∀ x n, I x → (∀ y, I y → μ y < μ x → iter C body cn K n (st y) (hp y)) → iter C body cn K (n + 1) (st x) (hp x)) : ∃ n, iter C body cn K n (st x0) (hp x0) := by
  suffices h : ∀ m x, I x → μ x ≤ m → iter C body cn K (m + 1) (st x) (hp x) from ⟨_, h _ x0 h0 (Nat.le_refl _)⟩
  intro m
  induction m with
  | zero => exact fun x hx hm => step x 0 hx fun y _ hy => by omega
  | succ m ih => exact fun x hx hm => step x (m + 1) hx fun y hy hlt => ih y hy (by omega)

def codeK (S : Sums C) (N : Enter C) (base : Nat) (kills : List (Nat × List Nat)) : Code → R C → H C → (Ex → R C → H C → Prop) → Prop
  | .skip, sl, h, K => K .normal sl h
  | .region _ ops draw, sl, h, K => match draw with
    | false => opsK C S N ops.toList ops.toList sl h (K .normal)
    | true => Drawn C S ops.toList sl h (K .normal)
  | .seq a b, sl, h, K => codeK S N base kills a sl h fun e sl h => match e with
    | .normal => codeK S N base kills b sl h K
    | .exit i => K (.exit i) sl h
    | .ret => K .ret sl h
  | .cond c a b, sl, h, K => match ev C sl c with
    | .bool c => br c (codeK S N base kills a sl h K) (codeK S N base kills b sl h K)
    | _ => False
  | .block id b, sl, h, K => codeK S N base kills b sl h fun e sl h => match e with
    | .exit i => match Nat.beq i id with
      | true => K .normal sl h
      | false => K (.exit i) sl h
    | .normal => K .normal sl h
    | .ret => K .ret sl h
  | .loop b, sl, h, K => canonK C base (killsOf kills (firstRegion b)) sl h fun sl h => ∃ n, iter C (codeK S N base kills b) (canonK C base (killsOf kills (firstRegion b))) K n sl h
  | .exit i, sl, h, K => K (.exit i) sl h
  | .ret, sl, h, K => K .ret sl h
  | _, _, _, _ => False

def argsK : Nat → List (V C) → R C → (R C → Prop) → Prop
  | _, [], t, k => k t
  | n, v :: r, t, k => forceV 3 v fun v => setK fuel t n v fun t => argsK (n + 1) r t k

def resOne (sl : R C) (h : H C) : ResultVar → Option (V C)
  | .tmp t => some (sl.get t)
  | .cell a t => match cellsAt C h (sl.get a) with
    | some (cs, off) => pickAt C t cs off
    | none => none

def resAll (sl : R C) (h : H C) : List ResultVar → Option (List (V C))
  | [] => some []
  | r :: rs => match resOne C sl h r, resAll sl h rs with
    | some v, some vs => some (v :: vs)
    | _, _ => none

def resV (sl : R C) (h : H C) (rs : List ResultVar) : Option (V C) := match resAll C sl h rs with
  | some [v] => some v
  | some vs => some (.tuple vs)
  | none => none

/-- what was made and is led to no more falls away -/
def gc (base : Nat) (v : V C) (h : H C) : H C :=
  match allIds (fun i => Nat.blt i base) 4 v && (h.take base).all (blkAll (fun i => Nat.blt i base)) with
  | true => h.take base
  | false => h

/-- a result that is an array's value, of a variable -/
def arrRes (sl : R C) (h : H C) : List ResultVar → Option (OpR C.E)
  | [.cell a t] => match arrOf C t with
    | some (n, e) => some (loadArr C h n e (sl.get a))
    | none => none
  | _ => none

def endV (base : Nat) (h : H C) (v : V C) (K : V C → H C → Prop) : Prop := match nilV h.length v with
  | (v, a) => tidyK C base (.nd v .lf .lf) (h ++ a) fun sl h => K (sl.get 0) h

def bodyEnd (f : FnI C.E) (base : Nat) (sl : R C) (h : H C) (K : V C → H C → Prop) : Prop := match arrRes C sl h f.fn.results.toList with
  | some r => match r with
    | .chk p v => p ∧ endV C base h v K
    | _ => False
  | none => match resV C sl h f.fn.results.toList with
    | some v => endV C base h v K
    | none => False

def bodyK (S : Sums C) (N : Enter C) (f : FnI C.E) (args : List (V C)) (h : H C) (K : V C → H C → Prop) : Prop := match f.fn.body with
  | some c => argsK C 0 args .lf fun sl => codeK C S N h.length f.kills c sl h fun e sl h' => match e with
    | .exit _ => False
    | .normal => bodyEnd C f h.length sl h' K
    | .ret => bodyEnd C f h.length sl h' K
  | none => False

/-- a call, its callees by their summaries, else by their bodies, so deep -/
def callK (F : Nat → Option (FnI C.E)) (S : Sums C) : Nat → Enter C
  | 0 => fun _ _ _ _ => False
  | d + 1 => fun f args h K => match F f with
    | some i => bodyK C S (callK F S d) i args h K
    | none => False

end
end Go.Proofs.Ytgplkdcibahofaa.Ev
