/-
  Plain facts on lists and whole numbers. No program stands here.
-/
import Derived.Test.YtgplkdcibahofaaEvLib
namespace Go.Proofs.Ytgplkdcibahofaa.Ev
open Go

abbrev big : Nat := 4294967296

def manyI (l : List Int) (n : Int) : Nat := l.countP fun x => x == n
def inB (a b x : Int) : Bool := decide (a ≤ x) && decide (x ≤ b)
def upB (l : List Int) (i : Nat) : Bool := decide (l.getD i 0 < l.getD (i + 1) 0)
def riseB (l : List Int) : Bool := allB (l.length - 1) (upB l)
def oneB (l : List Int) (i : Nat) : Bool := inB 0 63 (l.getD i 0) && manyI l (l.getD i 0) == 1
def onceB (l : List Int) : Bool := allB l.length (oneB l)
def nodesB (l : List Int) : Bool := riseB l && decide (l.length ≤ 64) && onceB l

def eqL (l k : List Int) : Bool := decide (l = k)

theorem manyI_le (l : List Int) (n : Int) : manyI l n ≤ l.length := List.countP_le_length
theorem manyI_snoc (l : List Int) (n : Int) (i : Nat) (h : i < l.length) : manyI (l.take (i + 1)) n = manyI (l.take i) n + if l.getD i 0 == n then 1 else 0 := by
  unfold manyI
  rw [List.take_succ_eq_append_getElem h, List.countP_append]
  simp [List.countP_cons, List.getD_eq_getElem?_getD, h]

theorem getD_take {α : Type} {l : List α} {i n : Nat} {z : α} (h : i < n) : (l.take n).getD i z = l.getD i z := by
  simp [List.getD_eq_getElem?_getD, h]

theorem take_snoc {α : Type} {l : List α} {z : α} (i : Nat) (h : i < l.length) : l.take (i + 1) = l.take i ++ [l.getD i z] := by
  rw [List.take_succ_eq_append_getElem h, List.getD_eq_getElem?_getD]
  simp [h]

/-- all up to i, and no further -/
def Upto (n : Nat) (p : Nat → Bool) (i : Nat) : Prop := i ≤ n ∧ ∀ j, j < i → p j = true
theorem Upto.zero {n : Nat} {p : Nat → Bool} : Upto n p 0 := ⟨Nat.zero_le _, fun j hj => by omega⟩
theorem Upto.succ {n : Nat} {p : Nat → Bool} {i : Nat} (h : Upto n p i) (hi : i < n) (hp : p i = true) : Upto n p (i + 1) :=
  ⟨hi, fun j hj => (Nat.lt_or_ge j i).elim (h.2 j) fun h1 => (show j = i by omega) ▸ hp⟩
theorem Upto.all {n : Nat} {p : Nat → Bool} {i : Nat} (h : Upto n p i) (hi : n ≤ i) : allB n p = true := allB_true.mpr fun j hj => h.2 j (by omega)

end Go.Proofs.Ytgplkdcibahofaa.Ev
