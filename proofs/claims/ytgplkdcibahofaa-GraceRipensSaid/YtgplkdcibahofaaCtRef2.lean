/-
  What the document's small functions over lists of numbers do (tattleref02, tattleref08).
-/
import Derived.Test.YtgplkdcibahofaaPlList
import Derived.Test.YtgplkdcibahofaaEvOk
namespace Go.Proofs.Ytgplkdcibahofaa.Ev
open Go
set_option linter.unusedVariables false
set_option maxRecDepth 100000

abbrev NN (S : Sums ctx) : Enter ctx := callF ctx fnTab S 6

def gMany : List (V ctx) → OpR E
  | [.sl 3 l, .int .i64 n] => .chk (l.length ≤ big) (.int .i64 (manyI l n : Nat))
  | _ => .no

theorem wMany (S : Sums ctx) (l : List Int) (n : Int) (hl : l.length ≤ big) : Gets ctx S (NN S) i38 [.sl 3 l, .int .i64 n] (.int .i64 (manyI l n : Nat)) := by
  refine ⟨rfl, ?_⟩
  (conv => whnf)
  (refine loop_from (fun i : Nat => mk [(0, .sl 3 l), (1, .int .i64 n), (4, .int .i64 0), (5, .int .i64 (manyI (l.take i) n : Nat)), (6, .int .i64 i)]) (fun _ => []) (fun i => i ≤ l.length) (fun i => l.length - i) 0 (Nat.zero_le _) rfl rfl ?_)
  intro i m hi ih
  (conv => whnf)
  (refine br_intro (fun h1 => ?_) (fun h1 => ?_) <;> (conv => whnf))
  · have h2 : i < l.length := lt_of h1
    have h5 := manyI_le (l.take i) n
    have h6 : (l.take i).length = i := by simp; omega
    unfold big at hl
    have e1 : IntKind.i64.wrap ((i : Int) + 1) = ((i + 1 : Nat) : Int) := wrap_succ (by omega)
    have e2 : IntKind.i64.wrap ((manyI (l.take i) n : Int) + 1) = ((manyI (l.take i) n + 1 : Nat) : Int) := wrap_succ (by omega)
    (refine And.intro (in_of h2) ?_; (conv => whnf))
    (refine br_intro (fun h3 => ?_) (fun h3 => ?_) <;> (conv => whnf))
    · have h3 : (l.getD i 0 == n) = true := h3
      rw [e1, e2, ← show manyI (l.take (i + 1)) n = manyI (l.take i) n + 1 by rw [manyI_snoc l n i h2, h3]; rfl]
      exact ih.out (i + 1) (by omega) (by omega)
    · have h3 : (l.getD i 0 == n) = false := h3
      rw [e1, ← show manyI (l.take (i + 1)) n = manyI (l.take i) n by rw [manyI_snoc l n i h2, h3]; rfl]
      exact ih.out (i + 1) (by omega) (by omega)
  · have h2 : l.length ≤ i := ge_of h1
    rw [show l.take i = l from List.take_of_length_le h2]
    exact ⟨_, rfl⟩
theorem dMany (S : Sums ctx) (args) : DoesF ctx S (NN S) i38 args (gMany args) := by
  unfold gMany; split
  · exact wMany S _ _
  · trivial
noncomputable def sMany : Sums ctx := addS 38 (pureF ctx gMany) noS
theorem vMany : Valid Try.prog sMany := addF_ok ctx_ok fns_ok noS_ok rfl (dMany _)

def gSame2 : List (V ctx) → OpR E
  | [.sl 3 l, .sl 3 k] => .chk (l.length ≤ big ∧ k.length ≤ big) (.bool (eqL l k))
  | _ => .no
def eqB (l k : List Int) (i : Nat) : Bool := l.getD i 0 == k.getD i 0
theorem eqB_all {l k : List Int} (h : l.length = k.length) : allB l.length (eqB l k) = eqL l k := by
  unfold eqL
  rw [Bool.eq_iff_iff, allB_true, decide_eq_true_iff]
  constructor
  · intro hh
    refine List.ext_getElem h fun i h1 h2 => ?_
    have := hh i h1
    simpa [eqB, List.getD_eq_getElem?_getD, h1, h2] using this
  · rintro rfl i hi
    simp [eqB]
theorem wSame2 (S : Sums ctx) (l k : List Int) (hl : l.length ≤ big ∧ k.length ≤ big) : Gets ctx S (NN S) i37 [.sl 3 l, .sl 3 k] (.bool (eqL l k)) := by
  refine ⟨rfl, ?_⟩
  (conv => whnf)
  unfold big at hl
  (refine br_intro (fun h1 => ?_) (fun h1 => ?_) <;> (conv => whnf))
  · rw [show eqL l k = false from decide_eq_false fun hh => ne_of h1 (by rw [hh])]
    exact ⟨_, rfl⟩
  · have h2 : l.length = k.length := eq_of h1
    rw [← eqB_all h2]
    (refine loop_from (fun i : Nat => mk [(0, .sl 3 l), (1, .sl 3 k), (4, .bool false), (5, .int .i64 i)]) (fun _ => []) (Upto l.length (eqB l k)) (fun i => l.length - i) 0 Upto.zero rfl rfl ?_)
    intro i m hi ih
    (conv => whnf)
    (refine br_intro (fun h3 => ?_) (fun h3 => ?_) <;> (conv => whnf))
    · have h3 : i < l.length := lt_of h3
      have e1 : IntKind.i64.wrap ((i : Int) + 1) = ((i + 1 : Nat) : Int) := wrap_succ (by omega)
      (refine go_quiet (by kernel_rfl) rfl ?_; (conv => whnf))
      (refine And.intro (in_of h3) ?_; (conv => whnf))
      (refine And.intro (in_of (show i < k.length by omega)) ?_; (conv => whnf))
      (refine br_intro (fun h4 => ?_) (fun h4 => ?_) <;> (conv => whnf))
      · have h4 : (l.getD i 0 != k.getD i 0) = true := h4
        rw [allB_false h3 (show eqB l k i = false by simpa [eqB] using h4)]
        exact ⟨_, rfl⟩
      · have h4 : (l.getD i 0 != k.getD i 0) = false := h4
        rw [e1]
        exact ih.out (i + 1) (hi.succ h3 (show eqB l k i = true by simpa [eqB] using h4)) (by omega)
    · rw [hi.all (ge_of h3)]
      exact ⟨_, rfl⟩
theorem dSame2 (S : Sums ctx) (args) : DoesF ctx S (NN S) i37 args (gSame2 args) := by
  unfold gSame2; split
  · exact wSame2 S _ _
  · trivial
noncomputable def sSame2 : Sums ctx := addS 37 (pureF ctx gSame2) sMany
theorem vSame2 : Valid Try.prog sSame2 := addF_ok ctx_ok fns_ok vMany rfl (dSame2 _)

def gOnce : List (V ctx) → OpR E
  | [.sl 3 l] => .chk (l.length ≤ big) (.bool (onceB l))
  | _ => .no
theorem wOnce (l : List Int) (hl : l.length ≤ big) : Gets ctx sSame2 (NN sSame2) i39 [.sl 3 l] (.bool (onceB l)) := by
  refine ⟨rfl, ?_⟩
  (conv => whnf)
  unfold onceB
  (refine loop_from (fun i : Nat => mk [(0, .sl 3 l), (2, .bool false), (3, .int .i64 i)]) (fun _ => []) (Upto l.length (oneB l)) (fun i => l.length - i) 0 Upto.zero rfl rfl ?_)
  intro i m hi ih
  (conv => whnf)
  (refine br_intro (fun h3 => ?_) (fun h3 => ?_) <;> (conv => whnf))
  · have h3 : i < l.length := lt_of h3
    have e1 : IntKind.i64.wrap ((i : Int) + 1) = ((i + 1 : Nat) : Int) := by unfold big at hl; exact wrap_succ (by omega)
    (refine And.intro (in_of h3) ?_; (conv => whnf))
    (refine br_intro (fun h4 => ?_) (fun h4 => ?_) <;> (conv => whnf))
    · have h4 : decide (l.getD i 0 < 0) = true := h4
      rw [allB_false h3 (show oneB l i = false by simp [oneB, inB] at h4 ⊢; omega)]
      exact ⟨_, rfl⟩
    · have h4 : decide (l.getD i 0 < 0) = false := h4
      (refine And.intro (in_of h3) ?_; (conv => whnf))
      (refine br_intro (fun h5 => ?_) (fun h5 => ?_) <;> (conv => whnf))
      · have h5 : decide (l.getD i 0 > 63) = true := h5
        rw [allB_false h3 (show oneB l i = false by simp [oneB, inB] at h5 ⊢; omega)]
        exact ⟨_, rfl⟩
      · have h5 : decide (l.getD i 0 > 63) = false := h5
        (refine And.intro (in_of h3) ?_; (conv => whnf))
        (refine And.intro (hl) ?_; (conv => whnf))
        (refine br_intro (fun h6 => ?_) (fun h6 => ?_) <;> (conv => whnf))
        · have h6 : ((manyI l (l.getD i 0) : Int) != ((1 : Nat) : Int)) = true := h6
          rw [allB_false h3 (show oneB l i = false by have h7 := ne_of h6; unfold oneB; generalize l.getD i 0 = x at h7 ⊢; simp [h7])]
          exact ⟨_, rfl⟩
        · have h6 : ((manyI l (l.getD i 0) : Int) != ((1 : Nat) : Int)) = false := h6
          rw [e1]
          exact ih.out (i + 1) (hi.succ h3 (show oneB l i = true by have h7 := eq_of h6; unfold oneB; generalize l.getD i 0 = x at h4 h5 h7 ⊢; simp [inB, h7] at h4 h5 ⊢; omega)) (by omega)
  · rw [hi.all (ge_of h3)]
    exact ⟨_, rfl⟩
theorem dOnce (args) : DoesF ctx sSame2 (NN sSame2) i39 args (gOnce args) := by
  unfold gOnce; split
  · exact wOnce _
  · trivial
noncomputable def sOnce : Sums ctx := addS 39 (pureF ctx gOnce) sSame2
theorem vOnce : Valid Try.prog sOnce := addF_ok ctx_ok fns_ok vSame2 rfl dOnce

def gNodes : List (V ctx) → OpR E
  | [.sl 3 l] => .chk (l.length ≤ big) (.bool (nodesB l))
  | _ => .no
theorem wNodes (l : List Int) (hl : l.length ≤ big) : Gets ctx sOnce (NN sOnce) i22 [.sl 3 l] (.bool (nodesB l)) := by
  refine ⟨rfl, ?_⟩
  (conv => whnf)
  (refine loop_from (fun i : Nat => mk [(0, .sl 3 l), (2, .bool false), (3, .int .i64 (i + 1 : Nat))]) (fun _ => []) (Upto (l.length - 1) (upB l)) (fun i => l.length - i) 0 Upto.zero rfl rfl ?_)
  intro i m hi ih
  (conv => whnf)
  (refine br_intro (fun h3 => ?_) (fun h3 => ?_) <;> (conv => whnf))
  · have h3 : i + 1 < l.length := lt_of h3
    have e1 : IntKind.i64.wrap (((i + 1 : Nat) : Int) + 1) = ((i + 1 + 1 : Nat) : Int) := by unfold big at hl; exact wrap_succ (by omega)
    have e2 : IntKind.i64.wrap (((i + 1 : Nat) : Int) - 1) = (i : Nat) := by unfold big at hl; rw [wrap_i64 (by omega) (by omega)]; omega
    (refine go_quiet (by kernel_rfl) rfl ?_; (conv => whnf))
    (refine And.intro (in_of h3) ?_; (conv => whnf))
    rw [e2]
    (refine And.intro (in_of (show i < l.length by omega)) ?_; (conv => whnf))
    (refine br_intro (fun h4 => ?_) (fun h4 => ?_) <;> (conv => whnf))
    · have h4 : decide (l.getD (i + 1) 0 ≤ l.getD i 0) = true := h4
      rw [show nodesB l = false by unfold nodesB riseB; rw [allB_false (show i < l.length - 1 by omega) (show upB l i = false by unfold upB; simp at h4 ⊢; omega)]; rfl]
      exact ⟨_, rfl⟩
    · have h4 : decide (l.getD (i + 1) 0 ≤ l.getD i 0) = false := h4
      rw [e1]
      exact ih.out (i + 1) (hi.succ (by omega) (show upB l i = true by unfold upB; simp at h4 ⊢; omega)) (by omega)
  · have h3 : l.length ≤ i + 1 := ge_of h3
    have h5 : riseB l = true := hi.all (by omega)
    unfold nodesB
    rw [h5]
    (refine br_intro (fun h6 => ?_) (fun h6 => ?_) <;> (conv => whnf))
    · have h6 : l.length ≤ 64 := by have h6 : decide ((l.length : Int) ≤ 64) = true := h6; simp at h6; omega
      (refine And.intro (hl) ?_; (conv => whnf))
      rw [decide_eq_true h6]
      exact ⟨_, rfl⟩
    · have h6 : ¬ l.length ≤ 64 := by have h6 : decide ((l.length : Int) ≤ 64) = false := h6; simp at h6; omega
      rw [decide_eq_false h6]
      exact ⟨_, rfl⟩
theorem dNodes (args) : DoesF ctx sOnce (NN sOnce) i22 args (gNodes args) := by
  unfold gNodes; split
  · exact wNodes _
  · trivial
noncomputable def sCtRef2 : Sums ctx := addS 22 (pureF ctx gNodes) sOnce
theorem vCtRef2 : Valid Try.prog sCtRef2 := addF_ok ctx_ok fns_ok vOnce rfl dNodes

end Go.Proofs.Ytgplkdcibahofaa.Ev
