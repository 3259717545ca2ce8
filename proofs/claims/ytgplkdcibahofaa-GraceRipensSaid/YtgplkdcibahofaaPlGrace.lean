/-
  What the grace of a doubt is, in plain numbers and lists. No program stands here.
-/
import Derived.Test.YtgplkdcibahofaaCtRef2
import Derived.Test.YtgplkdcibahofaaEvOk
namespace Go.Proofs.Ytgplkdcibahofaa.Ev
open Go

def riseOk (l : List Int) (i : Nat) : Bool := inB 0 63 (l.getD i 0) && (i == 0 || decide (l.getD (i - 1) 0 < l.getD i 0))
def risesB (l : List Int) : Bool := allB l.length (riseOk l) && decide (0 < l.length)

def d0 : Doubt := ⟨0, 0, 0, []⟩
def dOk (l : List Doubt) (i : Nat) : Bool := inB 0 63 (l.getD i d0).who && (i == 0 || decide ((l.getD (i - 1) d0).who < (l.getD i d0).who)) && inB 0 1099511627776 (l.getD i d0).at_ && risesB (l.getD i d0).by_
def checkB (l : List Doubt) : Bool := allB l.length (dOk l)
/-- no list of a node's is too long to be counted -/
def slimB (l : List Doubt) : Prop := l.length ≤ big ∧ ∀ i, (l.getD i d0).by_.length ≤ big

def rulesB (a b c : Int) : Bool := inB 1 1000 a && inB 1 20 b && inB 0 10 c
def errZ (ok : Bool) : Int := match ok with | true => 0 | false => 1

def blen : Nat → Nat → Nat
  | 0, _ => 0
  | d + 1, n => match n with
    | 0 => 0
    | n => blen d (n / 2) + 1
def lenZ (n : Int) : Int := blen 8 n.toNat

def minZ (k c : Int) : Int := match decide (c < k) with | true => c | false => k
def graceZ (a b c n k : Int) : Int := match c == 0 with
  | true => a * lenZ n
  | false => a * lenZ n * b - ((a * lenZ n * b - a * lenZ n) * minZ k c).tdiv c
def askB (a b c n k : Int) : Bool := rulesB a b c && inB 1 64 n && !(decide (k < 0))
def valZ (ok : Bool) (g : Int) : Int := match ok with | true => g | false => 0

theorem lenZ_bd {n : Int} (h1 : 1 ≤ n) (h2 : n ≤ 64) : 1 ≤ lenZ n ∧ lenZ n ≤ 7 := by
  obtain ⟨m, rfl⟩ : ∃ m : Nat, n = m := ⟨n.toNat, by omega⟩
  have hm : m < 65 ∧ 1 ≤ m := by omega
  clear h1 h2
  revert m
  have : ∀ m : Nat, m < 65 → 1 ≤ m → 1 ≤ lenZ m ∧ lenZ m ≤ 7 := by decide +kernel
  exact fun m hm => this m hm.1 hm.2

theorem askB_iff {a b c n k : Int} : askB a b c n k = true ↔ (1 ≤ a ∧ a ≤ 1000 ∧ 1 ≤ b ∧ b ≤ 20 ∧ 0 ≤ c ∧ c ≤ 10 ∧ 1 ≤ n ∧ n ≤ 64 ∧ 0 ≤ k) := by
  simp [askB, rulesB, inB]; omega

theorem minZ_bd {k c : Int} (h1 : 0 ≤ k) (h2 : 0 ≤ c) : 0 ≤ minZ k c ∧ minZ k c ≤ c ∧ minZ k c ≤ k := by
  unfold minZ
  split
  · rename_i h; have := of_decide_eq_true h; omega
  · rename_i h; have := of_decide_eq_false h; omega

theorem grace_bd {a b c n k : Int} (h : askB a b c n k = true) : a * lenZ n ≤ graceZ a b c n k ∧ graceZ a b c n k ≤ a * lenZ n * b ∧ 1 ≤ a * lenZ n ∧ a * lenZ n * b ≤ 140000 := by
  obtain ⟨g1, g2, g3, g4, g5, g6, g7, g8, g9⟩ := askB_iff.mp h
  have l1 := lenZ_bd g7 g8
  have p1 : 1 ≤ a * lenZ n ∧ a * lenZ n ≤ 7000 := ⟨by have := Int.mul_le_mul g1 l1.1 (by omega) (by omega); omega, by have := Int.mul_le_mul g2 l1.2 (by omega) (by omega); omega⟩
  have p2 : a * lenZ n ≤ a * lenZ n * b ∧ a * lenZ n * b ≤ 140000 := by
    generalize a * lenZ n = x at p1
    exact ⟨by have := Int.mul_le_mul_of_nonneg_left g3 (show 0 ≤ x by omega); omega, by have := Int.mul_le_mul p1.2 g4 (by omega) (by omega); omega⟩
  unfold graceZ
  split
  · omega
  · rename_i h0
    have hc : 0 < c := by
      have : c ≠ 0 := by simpa using h0
      omega
    have p3 := minZ_bd g9 g5
    generalize a * lenZ n * b = y at p2 ⊢
    generalize a * lenZ n = x at p1 p2 ⊢
    have p4 : 0 ≤ (y - x) * minZ k c := Int.mul_nonneg (by omega) p3.1
    have p5 : ((y - x) * minZ k c).tdiv c ≤ y - x := by
      rw [Int.tdiv_eq_ediv_of_nonneg p4]
      have h6 : (y - x) * minZ k c ≤ (y - x) * c := Int.mul_le_mul_of_nonneg_left p3.2.1 (by omega)
      have h7 := Int.ediv_le_ediv hc h6
      rwa [Int.mul_ediv_cancel _ (by omega)] at h7
    have p6 : 0 ≤ ((y - x) * minZ k c).tdiv c := Int.tdiv_nonneg p4 g5
    omega

def slim (d : Doubt) : Doubt := ⟨d.who, d.inc, d.at_, d.by_.take 65⟩
def fewTo (l : List Doubt) (i : Nat) : List Doubt := (l.take i).map slim
theorem slim_id {d : Doubt} (h : d.by_.length ≤ 65) : slim d = d := by unfold slim; rw [List.take_of_length_le h]
theorem fewTo_snoc (l : List Doubt) (i : Nat) (h : i < l.length) : fewTo l (i + 1) = fewTo l i ++ [slim (l.getD i d0)] := by
  unfold fewTo
  rw [take_snoc (z := d0) i h, List.map_append]; rfl
theorem fewTo_len (l : List Doubt) (i : Nat) (h : i ≤ l.length) : (fewTo l i).length = i := by simp [fewTo]; omega
theorem set_self (l : List Doubt) (i : Nat) (h : i < l.length) : l.set i (l.getD i d0) = l := by
  rw [List.getD_eq_getElem?_getD, List.getElem?_eq_getElem h]
  exact List.set_getElem_self h
def few (l : List Doubt) : List Doubt := fewTo l 65
theorem few_end {l : List Doubt} {i : Nat} (h : l.length ≤ i ∨ 65 ≤ i) (h2 : i ≤ 65) : fewTo l i = few l := by
  unfold few fewTo
  rcases h with h | h
  · rw [List.take_of_length_le h, List.take_of_length_le (by omega)]
  · rw [show i = 65 by omega]
theorem few_slim (l : List Doubt) : slimB (few l) := by
  unfold slimB few fewTo big
  refine ⟨by simp; omega, fun i => ?_⟩
  by_cases h : i < ((l.take 65).map slim).length
  · rw [List.getD_eq_getElem?_getD, List.getElem?_eq_getElem h]
    simp [slim]; omega
  · rw [List.getD_eq_getElem?_getD, List.getElem?_eq_none (by omega)]
    simp [d0]

def dOk9 (l : List Doubt) (i : Nat) : Bool := inB 0 63 (l.getD i d0).who && (i == 0 || decide ((l.getD (i - 1) d0).who < (l.getD i d0).who)) && inB 0 1099511627776 (l.getD i d0).at_ && decide (0 < (l.getD i d0).by_.length) && nodesB (l.getD i d0).by_
def may9 (l : List Doubt) : Bool := allB l.length (dOk9 l)

def okR (l : List Doubt) (a b c n now : Int) : Bool := checkB l && rulesB a b c && inB 1 64 n && inB 0 1099511627776 now
def ripeD (a b c n now : Int) (d : Doubt) : Bool := decide (d.at_ + graceZ a b c n ((d.by_.length : Int) - 1) ≤ now)
def pickL {α : Type} (ok : Bool) (l : List α) (p : α → Bool) : List α := match ok with | true => l.filter p | false => []

def pickTo (p : Doubt → Bool) (l : List Doubt) (i : Nat) : List Doubt := (l.take i).filter p
theorem pickTo_yes {p : Doubt → Bool} {l : List Doubt} {i : Nat} (h : i < l.length) (hp : p (l.getD i d0) = true) : pickTo p l (i + 1) = pickTo p l i ++ [l.getD i d0] := by
  unfold pickTo
  rw [take_snoc (z := d0) i h, List.filter_append]
  simp only [List.filter_cons, hp, List.filter_nil]
  rfl
theorem pickTo_no {p : Doubt → Bool} {l : List Doubt} {i : Nat} (h : i < l.length) (hp : p (l.getD i d0) = false) : pickTo p l (i + 1) = pickTo p l i := by
  unfold pickTo
  rw [take_snoc (z := d0) i h, List.filter_append]
  simp only [List.filter_cons, hp, List.filter_nil]
  simp
theorem pickTo_len (p : Doubt → Bool) (l : List Doubt) (i : Nat) : (pickTo p l i).length ≤ l.length := by
  unfold pickTo
  exact Nat.le_trans (List.length_filter_le ..) (by simp; omega)
theorem pickTo_end {p : Doubt → Bool} {l : List Doubt} {i : Nat} (h : l.length ≤ i) : pickTo p l i = pickL true l p := by
  unfold pickTo pickL
  rw [List.take_of_length_le h]

theorem checkB_get {l : List Doubt} (h : checkB l = true) {i : Nat} (hi : i < l.length) : 0 ≤ (l.getD i d0).who ∧ (l.getD i d0).who ≤ 63 ∧ (i = 0 ∨ (l.getD (i - 1) d0).who < (l.getD i d0).who) ∧ 0 ≤ (l.getD i d0).at_ ∧ (l.getD i d0).at_ ≤ 1099511627776 ∧ risesB (l.getD i d0).by_ = true ∧ 0 < (l.getD i d0).by_.length := by
  have h1 := allB_true.mp h i hi
  unfold dOk at h1
  simp only [inB, Bool.and_eq_true, decide_eq_true_eq, Bool.or_eq_true, beq_iff_eq] at h1
  have h2 := h1.2
  unfold risesB at h2
  simp only [Bool.and_eq_true, decide_eq_true_eq] at h2
  exact ⟨h1.1.1.1.1, h1.1.1.1.2, h1.1.1.2, h1.1.2.1, h1.1.2.2, h1.2, h2.2⟩

end Go.Proofs.Ytgplkdcibahofaa.Ev
