/-
  What the functions of package grace do: lists of their own, and what is ripe.
-/
import Derived.Test.YtgplkdcibahofaaCtGrace2
import Derived.Test.YtgplkdcibahofaaEvOk
namespace Go.Proofs.Ytgplkdcibahofaa.Ev
open Go
set_option linter.unusedVariables false
set_option maxRecDepth 100000

def gOwn : List (V ctx) → H ctx → OpR E
  | [.sl 39 l], [] => .chm (slimB l) (.own 39 0) [.arr 39 l false]
  | _, _ => .no
theorem wOwn (l : List Doubt) (hl : slimB l) : bodyF ctx sCtGrace2 (NN sCtGrace2) i25 [.sl 39 l] [] fun v' h' => v' = .own 39 0 ∧ h' = [.arr 39 l false] := by
  (conv => whnf)
  (refine And.intro (hl.1) ?_; (conv => whnf))
  have hl1 := hl.1
  unfold big at hl1
  (refine loop_from (fun i : Nat => mk [(0, .sl 39 l), (2, .own 39 1), (3, .own 39 0), (8, .own 39 0), (9, .int .i64 l.length), (10, .int .i64 i)]) (fun _ => [.arr 39 l false, .arr 39 [] false]) (fun i => i ≤ l.length) (fun i => l.length - i) 0 (Nat.zero_le _) rfl rfl ?_)
  intro i m hi ih
  (conv => whnf)
  (refine br_intro (fun h3 => ?_) (fun h3 => ?_) <;> (conv => whnf))
  rotate_left
  · exact ⟨rfl, rfl⟩
  have h3 : i < l.length := lt_of h3
  have e1 : IntKind.i64.wrap ((i : Int) + 1) = ((i + 1 : Nat) : Int) := wrap_succ (by omega)
  (refine And.intro (in_of h3) ?_; (conv => whnf))
  (refine And.intro ((hl.2 i)) ?_; (conv => whnf))
  (refine And.intro (in_of h3) ?_; (conv => whnf))
  rw [e1]
  refine iter_eq (ih.out (i + 1) (by omega) (by omega)) rfl ?_
  exact congrArg (fun x : List Doubt => ([.arr 39 x false, .arr 39 [] false] : H ctx)) (set_self l i h3)
theorem dOwn (args h) : Does ctx sCtGrace2 (NN sCtGrace2) i25 args h (gOwn args h) := by
  unfold gOwn; split
  · exact wOwn _
  · trivial
noncomputable def sOwn : Sums ctx := addS 25 (frameS ctx true gOwn) sCtGrace2
theorem vOwn : Valid Try.prog sOwn := addS_ok ctx_ok fns_ok vCtGrace2 rfl dOwn true

def gFew : List (V ctx) → OpR E
  | [.sl 39 l] => .val (.sl 39 (few l))
  | _ => .no
theorem wFew (l : List Doubt) : Gets ctx sOwn (NN sOwn) i5 [.sl 39 l] (.sl 39 (few l)) := by
  refine ⟨rfl, ?_⟩
  (conv => whnf)
  (refine loop_from (fun i : Nat => mk [(0, .sl 39 l), (2, .own 39 1), (3, .own 39 0), (4, .int .i64 i)]) (fun i => [.arr 39 (fewTo l i) false, .arr 39 [] false]) (fun i => i ≤ l.length ∧ i ≤ 65) (fun i => l.length - i) 0 ⟨Nat.zero_le _, Nat.zero_le _⟩ rfl rfl ?_)
  intro i m hi ih
  have fin : (l.length ≤ i ∨ 65 ≤ i) → ∃ h'', frzR ctx [.arr 39 (fewTo l i) false] (.own 39 0) = some (.sl 39 (few l), h'') := by
    intro h
    rw [few_end h hi.2]
    exact ⟨_, rfl⟩
  (conv => whnf)
  (refine br_intro (fun h3 => ?_) (fun h3 => ?_) <;> (conv => whnf))
  rotate_left
  · exact fin (.inl (ge_of h3))
  have h3 : i < l.length := lt_of h3
  (refine br_intro (fun h4 => ?_) (fun h4 => ?_) <;> (conv => whnf))
  rotate_left
  · exact fin (.inr (ge_of (n := 65) h4))
  have h4 : i < 65 := lt_of (n := 65) h4
  have e1 : IntKind.i64.wrap ((i : Int) + 1) = ((i + 1 : Nat) : Int) := wrap_succ (by omega)
  have sn := fewTo_snoc l i h3
  have len := fewTo_len l i (by omega)
  (refine And.intro (in_of h3) ?_; (conv => whnf))
  (refine br_intro (fun h5 => ?_) (fun h5 => ?_) <;> (conv => whnf))
  · have h5 : ((l.getD i d0).by_.length : Int) > 65 := of_decide_eq_true h5
    (refine And.intro (⟨by decide, Int.le_of_lt h5⟩) ?_; (conv => whnf))
    (refine And.intro ((show ((fewTo l i).length + 1) * 48 ≤ 17592186044416 by omega)) ?_; (conv => whnf))
    rw [e1]
    refine iter_eq (ih.out (i + 1) (by omega) (by omega)) rfl ?_
    exact congrArg (fun x : List Doubt => ([.arr 39 x false, .arr 39 [] false] : H ctx)) sn.symm
  · have h5 : ¬ ((l.getD i d0).by_.length : Int) > 65 := of_decide_eq_false h5
    (refine And.intro ((show ((fewTo l i).length + 1) * 48 ≤ 17592186044416 by omega)) ?_; (conv => whnf))
    rw [e1]
    rw [slim_id (by omega)] at sn
    refine iter_eq (ih.out (i + 1) (by omega) (by omega)) rfl ?_
    exact congrArg (fun x : List Doubt => ([.arr 39 x false, .arr 39 [] false] : H ctx)) sn.symm
theorem dFew (args) : DoesF ctx sOwn (NN sOwn) i5 args (gFew args) := by
  unfold gFew; split
  · exact wFew _
  · trivial
noncomputable def sFew : Sums ctx := addS 5 (pureF ctx gFew) sOwn
theorem vFew : Valid Try.prog sFew := addF_ok ctx_ok fns_ok vOwn rfl dFew

def gMay9 : List (V ctx) → OpR E
  | [.sl 39 l] => .chk (slimB l) (.bool (may9 l))
  | _ => .no
theorem wMay9 (l : List Doubt) (hl : slimB l) : Gets ctx sFew (NN sFew) i6 [.sl 39 l] (.bool (may9 l)) := by
  refine ⟨rfl, ?_⟩
  (conv => whnf)
  (refine loop_from (fun i : Nat => mk [(0, .sl 39 l), (2, .bool false), (3, .int .i64 i)]) (fun _ => []) (Upto l.length (dOk9 l)) (fun i => l.length - i) 0 Upto.zero rfl rfl ?_)
  intro i m hi ih
  have hl1 := hl.1
  unfold big at hl1
  (conv => whnf)
  (refine br_intro (fun h3 => ?_) (fun h3 => ?_) <;> (conv => whnf))
  rotate_left
  · rw [show may9 l = true from hi.all (ge_of h3)]
    exact ⟨_, rfl⟩
  have h3 : i < l.length := lt_of h3
  have e1 : IntKind.i64.wrap ((i : Int) + 1) = ((i + 1 : Nat) : Int) := wrap_succ (by omega)
  have e2 : 0 < i → IntKind.i64.wrap ((i : Int) - 1) = ((i - 1 : Nat) : Int) := fun h => by rw [wrap_i64 (by omega) (by omega)]; omega
  have no : dOk9 l i = false → ∃ h'', frzR ctx [] (.bool false) = some (.bool (may9 l), h'') := fun h => by unfold may9; rw [allB_false h3 h]; exact ⟨_, rfl⟩
  have bad : ∀ b, ¬ (0 ≤ (l.getD i d0).who ∧ (l.getD i d0).who ≤ 63 ∧ (i = 0 ∨ (l.getD (i - 1) d0).who < (l.getD i d0).who) ∧ 0 ≤ (l.getD i d0).at_ ∧ (l.getD i d0).at_ ≤ 1099511627776 ∧ 0 < (l.getD i d0).by_.length ∧ b = true) → nodesB (l.getD i d0).by_ = b → dOk9 l i = false := by
    intro b h hb
    unfold dOk9
    rw [hb]
    generalize l.getD i d0 = x at h ⊢
    generalize l.getD (i - 1) d0 = y at h ⊢
    rw [Bool.eq_false_iff]
    intro hh
    simp only [inB, Bool.and_eq_true, decide_eq_true_eq, Bool.or_eq_true, beq_iff_eq] at hh
    exact h ⟨hh.1.1.1.1.1, hh.1.1.1.1.2, hh.1.1.1.2, hh.1.1.2.1, hh.1.1.2.2, hh.1.2, hh.2⟩
  have good : (0 ≤ (l.getD i d0).who ∧ (l.getD i d0).who ≤ 63 ∧ (i = 0 ∨ (l.getD (i - 1) d0).who < (l.getD i d0).who) ∧ 0 ≤ (l.getD i d0).at_ ∧ (l.getD i d0).at_ ≤ 1099511627776 ∧ 0 < (l.getD i d0).by_.length ∧ nodesB (l.getD i d0).by_ = true) → dOk9 l i = true := by
    intro h
    unfold dOk9
    generalize l.getD i d0 = x at h ⊢
    generalize l.getD (i - 1) d0 = y at h ⊢
    simp only [inB, Bool.and_eq_true, decide_eq_true_eq, Bool.or_eq_true, beq_iff_eq]
    exact ⟨⟨⟨⟨⟨h.1, h.2.1⟩, h.2.2.1⟩, h.2.2.2.1, h.2.2.2.2.1⟩, h.2.2.2.2.2.1⟩, h.2.2.2.2.2.2⟩
  (refine And.intro (in_of h3) ?_; (conv => whnf))
  (refine go_quiet (by kernel_rfl) rfl ?_; (conv => whnf))
  (refine br_intro (fun h4 => ?_) (fun h4 => ?_) <;> (conv => whnf))
  · have h4 : (l.getD i d0).who < 0 := of_decide_eq_true h4
    exact no (bad _ (by omega) rfl)
  have h4 : ¬ (l.getD i d0).who < 0 := of_decide_eq_false h4
  (refine br_intro (fun h5 => ?_) (fun h5 => ?_) <;> (conv => whnf))
  · have h5 : (l.getD i d0).who > 63 := of_decide_eq_true h5
    exact no (bad _ (by omega) rfl)
  have h5 : ¬ (l.getD i d0).who > 63 := of_decide_eq_false h5
  (refine br_intro (fun h6 => ?_) (fun h6 => ?_) <;> (conv => whnf))
  have h6 : 0 < i := lt_of (i := 0) h6
  rw [e2 h6]
  (refine And.intro (in_of (show i - 1 < l.length by omega)) ?_; (conv => whnf))
  (refine br_intro (fun h7 => ?_) (fun h7 => ?_) <;> (conv => whnf))
  · have h7 : (l.getD i d0).who ≤ (l.getD (i - 1) d0).who := of_decide_eq_true h7
    exact no (bad _ (by omega) rfl)
  have h7 : ¬ ((l.getD i d0).who ≤ (l.getD (i - 1) d0).who) := of_decide_eq_false h7
  have up : i = 0 ∨ (l.getD (i - 1) d0).who < (l.getD i d0).who := .inr (by omega)
  rotate_left
  have h6 : i ≤ 0 := ge_of (n := i) (i := 0) h6
  have up : i = 0 ∨ (l.getD (i - 1) d0).who < (l.getD i d0).who := .inl (by omega)
  all_goals as_aux_lemma =>
    (refine br_intro (fun h8 => ?_) (fun h8 => ?_) <;> (conv => whnf))
    · have h8 : (l.getD i d0).at_ < 0 := of_decide_eq_true h8
      exact no (bad _ (by omega) rfl)
    have h8 : ¬ (l.getD i d0).at_ < 0 := of_decide_eq_false h8
    (refine br_intro (fun h9 => ?_) (fun h9 => ?_) <;> (conv => whnf))
    · have h9 : (l.getD i d0).at_ > 1099511627776 := of_decide_eq_true h9
      exact no (bad _ (by omega) rfl)
    have h9 : ¬ (l.getD i d0).at_ > 1099511627776 := of_decide_eq_false h9
    (refine br_intro (fun h10 => ?_) (fun h10 => ?_) <;> (conv => whnf))
    · have h10 : ((l.getD i d0).by_.length : Int) = ((0 : Nat) : Int) := eq_of_beq h10
      exact no (bad _ (by omega) rfl)
    have h10 : ¬ ((l.getD i d0).by_.length : Int) = ((0 : Nat) : Int) := fun h => by
      have h10 : (((l.getD i d0).by_.length : Int) == ((0 : Nat) : Int)) = false := h10
      rw [h] at h10; cases h10
    (refine And.intro ((hl.2 i)) ?_; (conv => whnf))
    (refine br_intro (fun h11 => ?_) (fun h11 => ?_) <;> (conv => whnf))
    · have h11 : nodesB (l.getD i d0).by_ = false := not_t h11
      exact no (bad _ (by simp) h11)
    have h11 : nodesB (l.getD i d0).by_ = true := not_f h11
    rw [e1]
    exact ih.out (i + 1) (hi.succ h3 (good ⟨by omega, by omega, up, by omega, by omega, by omega, h11⟩)) (by omega)
theorem dMay9 (args) : DoesF ctx sFew (NN sFew) i6 args (gMay9 args) := by
  unfold gMay9; split
  · exact wMay9 _
  · trivial
noncomputable def sCtGrace3 : Sums ctx := addS 6 (pureF ctx gMay9) sFew
theorem vCtGrace3 : Valid Try.prog sCtGrace3 := addF_ok ctx_ok fns_ok vFew rfl dMay9

end Go.Proofs.Ytgplkdcibahofaa.Ev
