/-
  What abstract values, rows and heaps say of the machine's own: the relation that the evaluator keeps. No program is named here.
-/
import Derived.Test.YtgplkdcibahofaaEvDef
import Derived.Laws.Cells
namespace Go.Proofs.Ytgplkdcibahofaa.Ev
open Go

/-- where the blocks lie, how long rows are, how much room they have -/
structure Env where
  sz : Nat
  ρ : Nat → Nat
  len : Nat → Nat
  cap : Nat → Nat

abbrev FH := Nat → Option Obj
def FH.cell (F : FH) (b o : Nat) : Option Value := match F b with
  | some (.cells c _ _) => c[o]?
  | _ => none

def AV.one {E : Nat → Type} : AV E → Bool
  | .agg _ => false
  | .aarr _ _ => false
  | .tuple _ => false
  | .top => false
  | _ => true

/-- without memory of the call's own -/
def AV.plain {E : Nat → Type} : AV E → Bool
  | .bool _ => true
  | .int _ _ => true
  | .str _ => true
  | .nilp => true
  | .nils _ => true
  | .sl _ _ => true
  | .nilmap => true
  | .nilf => true
  | _ => false

section
variable (C : Ctx)

inductive RV (e : Env) (F : FH) : AV C.E → Value → Prop where
  | top (v : Value) : RV e F .top v
  | bool (b : Bool) : RV e F (.bool b) (.bool b)
  | int (k : IntKind) (n : Int) : RV e F (.int k n) (.int k n)
  | str (s : ByteArray) : RV e F (.str s) (.string s)
  | nilp : RV e F .nilp (.pointer none)
  | ptr (id off : Nat) (h : id < e.sz) : RV e F (.ptr id off) (.pointer (some ⟨e.ρ id, off, none⟩))
  | eptr (t id i off : Nat) (h : id < e.sz) (h1 : i < e.len id) : RV e F (.eptr t id i off) (.pointer (some ⟨e.ρ id, i * C.size t + off, none⟩))
  | rptr (t : Nat) (x : C.E t) (off b o : Nat) (vs : Nat → Value)
      (h : ∀ j c, (C.enc t x)[j]? = some c → F.cell b (o + j) = some (vs j))
      (h2 : ∀ j c, (C.enc t x)[j]? = some c → RV e F c (vs j)) : RV e F (.rptr t x off) (.pointer (some ⟨b, o + off, none⟩))
  | nils (t : Nat) : RV e F (.nils t) (.slice none 0 0)
  | sl (t : Nat) (l : List (C.E t)) (a : Option Addr) (c b o : Nat) (vs : Nat → Nat → Value) (hc : l.length ≤ c)
      (ha : l ≠ [] → a = some ⟨b, o, none⟩)
      (h : ∀ i x j cc, l[i]? = some x → (C.enc t x)[j]? = some cc → F.cell b (o + i * C.size t + j) = some (vs i j))
      (h2 : ∀ i x j cc, l[i]? = some x → (C.enc t x)[j]? = some cc → RV e F cc (vs i j)) : RV e F (.sl t l) (.slice a l.length c)
  | own (t id : Nat) (a : Option Addr) (c : Nat) (h : id < e.sz) (h1 : e.len id ≤ c) (h2 : c ≤ e.cap id)
      (h3 : c ≠ 0 → a = some ⟨e.ρ id, 0, none⟩) : RV e F (.own t id) (.slice a (e.len id) c)
  | view (t id lo n : Nat) (a : Option Addr) (c : Nat) (h : id < e.sz) (h1 : n ≤ c) (h2 : lo + c ≤ e.cap id)
      (h3 : c ≠ 0 → a = some ⟨e.ρ id, lo * C.size t, none⟩) (h4 : lo + n ≤ e.len id) : RV e F (.view t id lo n) (.slice a n c)
  | viewc (t id lo n c : Nat) (a : Option Addr) (h : id < e.sz) (h1 : n ≤ c) (h2 : lo + c ≤ e.len id)
      (h3 : c ≠ 0 → a = some ⟨e.ρ id, lo * C.size t, none⟩) : RV e F (.viewc t id lo n c) (.slice a n c)
  | tsl (t : Nat) (l : List (C.E t)) (a : Option Addr) (b o : Nat) (vs : Nat → Nat → Value)
      (ha : l ≠ [] → a = some ⟨b, o, none⟩)
      (h : ∀ i x j cc, l[i]? = some x → (C.enc t x)[j]? = some cc → F.cell b (o + i * C.size t + j) = some (vs i j))
      (h2 : ∀ i x j cc, l[i]? = some x → (C.enc t x)[j]? = some cc → RV e F cc (vs i j)) : RV e F (.tsl t l) (.slice a l.length l.length)
  | nilmap : RV e F .nilmap (.map none)
  | map (id : Nat) (h : id < e.sz) : RV e F (.map id) (.map (some (e.ρ id)))
  | nilf : RV e F .nilf .nilFunc
  | fn (f : Nat) (a b : List (AV C.E)) (va vb : Array Value) (ha : va.size = a.length) (hb : vb.size = b.length)
      (h1 : ∀ i c, a[i]? = some c → RV e F c (va.getD i undef)) (h2 : ∀ i c, b[i]? = some c → RV e F c (vb.getD i undef)) :
      RV e F (.fn f a b) (.func (.func f) va vb)
  | agg (cs : List (AV C.E)) (vs : Array Value) (hs : vs.size = cs.length) (h1 : ∀ (i : Nat) (c : AV C.E), cs[i]? = some c → AV.one c = true)
      (h : ∀ i c, cs[i]? = some c → RV e F c (vs.getD i undef)) : RV e F (.agg cs) (.agg vs)
  | aarr (t : Nat) (l : List (C.E t)) (vs : Array Value) (hs : vs.size = l.length * C.size t) (h1 : ∀ j, j < vs.size → (vs.getD j undef).oneCell' = true)
      (h : ∀ i x j cc, l[i]? = some x → (C.enc t x)[j]? = some cc → RV e F cc (vs.getD (i * C.size t + j) undef)) : RV e F (.aarr t l) (.agg vs)
  | tuple (cs : List (AV C.E)) (vs : Array Value) (hs : vs.size = cs.length)
      (h : ∀ i c, cs[i]? = some c → RV e F c (vs.getD i undef)) : RV e F (.tuple cs) (.tuple vs)

structure FLe (F F' : FH) : Prop where
  le : ∀ b o, F b = some o → F' b = some o
theorem FLe.refl (F : FH) : FLe F F := ⟨fun _ _ h => h⟩
theorem FLe.trans {F G K : FH} (h : FLe F G) (h' : FLe G K) : FLe F K := ⟨fun b o x => h'.le b o (h.le b o x)⟩
theorem FLe.cell {F F' : FH} (h : FLe F F') {b o : Nat} {v : Value} (hc : F.cell b o = some v) : F'.cell b o = some v := by
  unfold FH.cell at *
  cases hF : F b with
  | none => simp [hF] at hc
  | some x => rw [h.le b x hF]; rw [hF] at hc; exact hc

/-- the first n blocks are where they were -/
structure ELe (e e' : Env) : Prop where
  sz : e.sz ≤ e'.sz
  ρ : ∀ i, i < e.sz → e'.ρ i = e.ρ i
  len : ∀ i, i < e.sz → e'.len i = e.len i
  cap : ∀ i, i < e.sz → e'.cap i = e.cap i
theorem ELe.refl (e : Env) : ELe e e := ⟨Nat.le_refl _, fun _ _ => rfl, fun _ _ => rfl, fun _ _ => rfl⟩
theorem ELe.trans {a b c : Env} (h : ELe a b) (k : ELe b c) : ELe a c :=
  ⟨Nat.le_trans h.sz k.sz, fun i hi => (k.ρ i (Nat.lt_of_lt_of_le hi h.sz)).trans (h.ρ i hi), fun i hi => (k.len i (Nat.lt_of_lt_of_le hi h.sz)).trans (h.len i hi),
    fun i hi => (k.cap i (Nat.lt_of_lt_of_le hi h.sz)).trans (h.cap i hi)⟩

variable {C}

theorem RV.mono {e e' : Env} {F F' : FH} (he : ELe e e') (hF : FLe F F') {a : AV C.E} {v : Value} (h : RV C e F a v) : RV C e' F' a v := by
  induction h with
  | top v => exact .top v
  | bool b => exact .bool b
  | int k n => exact .int k n
  | str s => exact .str s
  | nilp => exact .nilp
  | ptr id off h => rw [← he.ρ id h]; exact .ptr id off (Nat.lt_of_lt_of_le h he.sz)
  | eptr t id i off h h1 => rw [← he.ρ id h]; exact .eptr t id i off (Nat.lt_of_lt_of_le h he.sz) (by rw [he.len id h]; exact h1)
  | rptr t x off b o vs h h2 ih => exact .rptr t x off b o vs (fun j c hj => hF.cell (h j c hj)) ih
  | nils t => exact .nils t
  | sl t l a c b o vs hc ha h h2 ih => exact .sl t l a c b o vs hc ha (fun i x j cc h1 h2 => hF.cell (h i x j cc h1 h2)) ih
  | own t id a c h h1 h2 h3 =>
    rw [← he.len id h]
    exact .own t id a c (Nat.lt_of_lt_of_le h he.sz) (by rw [he.len id h]; exact h1) (by rw [he.cap id h]; exact h2) (fun hc => by rw [he.ρ id h]; exact h3 hc)
  | view t id lo n a c h h1 h2 h3 h4 =>
    exact .view t id lo n a c (Nat.lt_of_lt_of_le h he.sz) h1 (by rw [he.cap id h]; exact h2) (fun hc => by rw [he.ρ id h]; exact h3 hc) (by rw [he.len id h]; exact h4)
  | viewc t id lo n c a h h1 h2 h3 =>
    exact .viewc t id lo n c a (Nat.lt_of_lt_of_le h he.sz) h1 (by rw [he.len id h]; exact h2) (fun hc => by rw [he.ρ id h]; exact h3 hc)
  | tsl t l a b o vs ha h h2 ih => exact .tsl t l a b o vs ha (fun i x j cc h1 h2 => hF.cell (h i x j cc h1 h2)) ih
  | nilmap => exact .nilmap
  | map id h => rw [← he.ρ id h]; exact .map id (Nat.lt_of_lt_of_le h he.sz)
  | nilf => exact .nilf
  | fn f a b va vb ha hb h1 h2 ih1 ih2 => exact .fn f a b va vb ha hb ih1 ih2
  | agg cs vs hs h1 h ih => exact .agg cs vs hs h1 ih
  | aarr t l vs hs h1 h ih => exact .aarr t l vs hs h1 ih
  | tuple cs vs hs h ih => exact .tuple cs vs hs ih

/-- what of the types must hold of the program -/
def undOk (P : Program) (t : Nat) : TyK → Bool
  | .bool => match P.underlying t with | some .bool => true | _ => false
  | .int k => match P.underlying t with | some (.int k') => decide (k' = k) | _ => false
  | .str => match P.underlying t with | some .string => true | _ => false
  | .struct fs => match P.underlying t with
    | some (.struct gs) => decide (gs.toList.map (fun f => (f.offset, f.type, f.name != "_")) = fs) && !P.eqGuardType P.depth t && !P.stoodInHeld t &&
        gs.toList.all fun f => !(Nat.beq (match P.info? f.type with | some i => i.size | none => 0) 0)
    | _ => false
  | .array n e => match P.underlying t with | some (.array n' e') => decide (n' = n ∧ e' = e) | _ => false
  | .slice e => match P.underlying t with | some (.slice e') => decide (e' = e) | _ => false
  | .ptr e => match P.underlying t with | some (.pointer e') => decide (e' = e) | _ => false
  | .map k v => match P.underlying t with | some (.map k' v') => decide (k' = k ∧ v' = v) | _ => false
  | .func => match P.underlying t with | some (.func ..) => true | _ => false
  | .other => true

def zeroIs {E : Nat → Type} : AV E → Value → Bool
  | .bool b, .bool c => b == c
  | .int k n, .int k' m => decide (k = k' ∧ n = m)
  | .str s, .string s' => decide (s.data.toList = [] ∧ s'.data.toList = [])
  | .nilp, .pointer none => true
  | .nils _, .slice none 0 0 => true
  | .nilmap, .map none => true
  | .nilf, .nilFunc => true
  | _, _ => false

def zerosAre {E : Nat → Type} : List (AV E) → List Value → Bool
  | [], [] => true
  | a :: r, v :: s => zeroIs a v && zerosAre r s
  | _, _ => false

def tyOk (P : Program) (t : Nat) (ty : Ty C.E) : Bool := undOk P t ty.k && match P.info? t with
  | some i => decide (i.size = ty.size ∧ i.bytes = ty.bytes) && match i.zero with
    | some z => zerosAre ty.zero z.cells.toList && Nat.beq ty.zero.length ty.size
    | none => false
  | none => false

def zSame {E : Nat → Type} : AV E → AV E → Bool
  | .sl _ l, .nils _ => l.isEmpty
  | .bool b, .bool c => b == c
  | .int k n, .int k' m => decide (k = k' ∧ n = m)
  | .str s, .str s' => decide (s.data.toList = [] ∧ s'.data.toList = [])
  | _, _ => false

def zsSame {E : Nat → Type} : List (AV E) → List (AV E) → Bool
  | [], [] => true
  | a :: r, b :: s => zSame a b && zsSame r s
  | _, _ => false

variable (C) in
structure Ok (P : Program) : Prop where
  ty : ∀ t ty, C.ty t = some ty → tyOk P t ty = true
  dec : ∀ t cs x, C.dec t cs = some x → C.enc t x = cs
  enc : ∀ t x c, c ∈ C.enc t x → c.plain = true
  len : ∀ t x, (C.enc t x).length ≤ C.size t
  len2 : ∀ t x, (C.enc t x).length = (C.enc t (C.z t)).length
  ofs : ∀ t l xs, C.ofInts t l = some xs → xs.length = l.length ∧ ∀ (i : Nat) (n : Int), l[i]? = some n → ∃ x, xs[i]? = some x ∧ C.enc t x = [.int .u8 n]
  tos : ∀ t xs l, C.toInts t xs = some l → l.length = xs.length ∧ ∀ (i : Nat) (x : C.E t), xs[i]? = some x → ∃ n, l[i]? = some n ∧ C.enc t x = [.int .u8 n]
  z : ∀ t ty, C.ty t = some ty → C.enc t (C.z t) = [] ∨ (isArr ty.k = false ∧ zsSame (C.enc t (C.z t)) ty.zero = true)
  arr : ∀ t n el ty ety, C.ty t = some ty → ty.k = .array n el → C.ty el = some ety → isArr ety.k = false ∧ ty.zero = (List.replicate n ety.zero).flatten
  orders : P.follows .mixedOrders = true

end
end Go.Proofs.Ytgplkdcibahofaa.Ev
