/-
  What the functions of package grace do: doubts.
-/
import Derived.Test.YtgplkdcibahofaaCtGrace
import Derived.Test.YtgplkdcibahofaaEvOk
namespace Go.Proofs.Ytgplkdcibahofaa.Ev
open Go
set_option linter.unusedVariables false
set_option maxRecDepth 100000

def gNode : List (V ctx) → OpR E
  | [.int .i64 n] => .val (.bool (inB 0 63 n))
  | _ => .no
theorem dNode (args) : DoesF ctx sCtGrace (NN sCtGrace) i27 args (gNode args) := by
  unfold gNode; split
  · rename_i n
    refine ⟨rfl, ?_⟩
    (conv => whnf)
    (refine br_intro (fun h => ?_) (fun h => ?_) <;> (conv => whnf))
    · exact fin_b (by have h : decide (0 ≤ n) = true := h; unfold inB; rw [h]; rfl)
    · exact fin_b (by have h : decide (0 ≤ n) = false := h; unfold inB; rw [h]; rfl)
  · trivial
noncomputable def sNode : Sums ctx := addS 27 (pureF ctx gNode) sCtGrace
theorem vNode : Valid Try.prog sNode := addF_ok ctx_ok fns_ok vCtGrace rfl dNode

def gMoment : List (V ctx) → OpR E
  | [.int .i64 n] => .val (.bool (inB 0 1099511627776 n))
  | _ => .no
theorem dMoment (args) : DoesF ctx sNode (NN sNode) i24 args (gMoment args) := by
  unfold gMoment; split
  · rename_i n
    refine ⟨rfl, ?_⟩
    (conv => whnf)
    (refine br_intro (fun h => ?_) (fun h => ?_) <;> (conv => whnf))
    · exact fin_b (by have h : decide (0 ≤ n) = true := h; unfold inB; rw [h]; rfl)
    · exact fin_b (by have h : decide (0 ≤ n) = false := h; unfold inB; rw [h]; rfl)
  · trivial
noncomputable def sMoment : Sums ctx := addS 24 (pureF ctx gMoment) sNode
theorem vMoment : Valid Try.prog sMoment := addF_ok ctx_ok fns_ok vNode rfl dMoment

def gCheck : List (V ctx) → OpR E
  | [.sl 39 l] => .chk (slimB l) (.int .i64 (errZ (checkB l)))
  | _ => .no
theorem wCheck (l : List Doubt) (hl : slimB l) : Gets ctx sMoment (NN sMoment) i13 [.sl 39 l] (.int .i64 (errZ (checkB l))) := by
  refine ⟨rfl, ?_⟩
  (conv => whnf)
  (refine loop_from (fun i : Nat => mk [(0, .sl 39 l), (2, .int .i64 0), (5, .sl 39 l), (6, .int .i64 l.length), (7, .int .i64 i)]) (fun _ => []) (Upto l.length (dOk l)) (fun i => l.length - i) 0 Upto.zero rfl rfl ?_)
  intro i m hi ih
  have hl1 := hl.1
  unfold big at hl1
  (conv => whnf)
  (refine br_intro (fun h3 => ?_) (fun h3 => ?_) <;> (conv => whnf))
  rotate_left
  · rw [show checkB l = true from hi.all (ge_of h3)]
    exact ⟨_, rfl⟩
  have h3 : i < l.length := lt_of h3
  have e1 : IntKind.i64.wrap ((i : Int) + 1) = ((i + 1 : Nat) : Int) := wrap_succ (by omega)
  have no : dOk l i = false → ∃ h'', frzR ctx [] (.int .i64 1) = some (.int .i64 (errZ (checkB l)), h'') := fun h => by unfold checkB; rw [allB_false h3 h]; exact ⟨_, rfl⟩
  have bad : ¬ (0 ≤ (l.getD i d0).who ∧ (l.getD i d0).who ≤ 63 ∧ (i = 0 ∨ (l.getD (i - 1) d0).who < (l.getD i d0).who) ∧ 0 ≤ (l.getD i d0).at_ ∧ (l.getD i d0).at_ ≤ 1099511627776 ∧ risesB (l.getD i d0).by_ = true) → dOk l i = false := by
    intro h
    unfold dOk
    generalize l.getD i d0 = x at h ⊢
    generalize l.getD (i - 1) d0 = y at h ⊢
    rw [Bool.eq_false_iff]
    intro hh
    simp [inB] at hh
    exact h ⟨hh.1.1.1.1, hh.1.1.1.2, hh.1.1.2, hh.1.2.1, hh.1.2.2, hh.2⟩
  have good : (0 ≤ (l.getD i d0).who ∧ (l.getD i d0).who ≤ 63 ∧ (i = 0 ∨ (l.getD (i - 1) d0).who < (l.getD i d0).who) ∧ 0 ≤ (l.getD i d0).at_ ∧ (l.getD i d0).at_ ≤ 1099511627776 ∧ risesB (l.getD i d0).by_ = true) → dOk l i = true := by
    intro h
    unfold dOk
    generalize l.getD i d0 = x at h ⊢
    generalize l.getD (i - 1) d0 = y at h ⊢
    simp [inB]
    exact ⟨⟨⟨⟨h.1, h.2.1⟩, h.2.2.1⟩, h.2.2.2.1, h.2.2.2.2.1⟩, h.2.2.2.2.2⟩
  (refine And.intro (in_of h3) ?_; (conv => whnf))
  (refine go_quiet (by kernel_rfl) rfl ?_; (conv => whnf))
  (refine br_intro (fun h4 => ?_) (fun h4 => ?_) <;> (conv => whnf))
  · have h4 : inB 0 63 (l.getD i d0).who = false := not_t h4
    exact no (by unfold dOk; rw [h4]; rfl)
  have h4 : inB 0 63 (l.getD i d0).who = true := not_f h4
  have e2 : 0 < i → IntKind.i64.wrap ((i : Int) - 1) = ((i - 1 : Nat) : Int) := fun h => by rw [wrap_i64 (by omega) (by omega)]; omega
  (refine br_intro (fun h5 => ?_) (fun h5 => ?_) <;> (conv => whnf))
  have h5 : 0 < i := lt_of (i := 0) h5
  rw [e2 h5]
  (refine And.intro (in_of (show i - 1 < l.length by omega)) ?_; (conv => whnf))
  (refine br_intro (fun h6 => ?_) (fun h6 => ?_) <;> (conv => whnf))
  · have h6 : (l.getD (i - 1) d0).who ≥ (l.getD i d0).who := of_decide_eq_true h6
    exact no (bad (by omega))
  have h6 : ¬ ((l.getD (i - 1) d0).who ≥ (l.getD i d0).who) := of_decide_eq_false h6
  have up : i = 0 ∨ (l.getD (i - 1) d0).who < (l.getD i d0).who := .inr (by omega)
  rotate_left
  have h5 : i ≤ 0 := ge_of (n := i) (i := 0) h5
  have up : i = 0 ∨ (l.getD (i - 1) d0).who < (l.getD i d0).who := .inl (by omega)
  all_goals
    (refine br_intro (fun h7 => ?_) (fun h7 => ?_) <;> (conv => whnf))
    · have h7 : inB 0 1099511627776 (l.getD i d0).at_ = false := not_t h7
      exact no (by unfold dOk; rw [h7]; simp)
    have h7 : inB 0 1099511627776 (l.getD i d0).at_ = true := not_f h7
    (refine And.intro ((hl.2 i)) ?_; (conv => whnf))
    (refine br_intro (fun h8 => ?_) (fun h8 => ?_) <;> (conv => whnf))
    · have h8 : risesB (l.getD i d0).by_ = false := not_t h8
      exact no (by unfold dOk; rw [h8]; simp)
    have h8 : risesB (l.getD i d0).by_ = true := not_f h8
    rw [e1]
    refine ih.out (i + 1) (hi.succ h3 ?_) (by omega)
    unfold dOk
    rw [h4, h7, h8]
    rcases up with up | up
    · simp [up]
    · rw [decide_eq_true up]; simp
theorem dCheck (args) : DoesF ctx sMoment (NN sMoment) i13 args (gCheck args) := by
  unfold gCheck; split
  · exact wCheck _
  · trivial
noncomputable def sCheck : Sums ctx := addS 13 (pureF ctx gCheck) sMoment
theorem vCheck : Valid Try.prog sCheck := addF_ok ctx_ok fns_ok vMoment rfl dCheck

def gCloneI : List (V ctx) → H ctx → OpR E
  | [.sl 3 l], [] => .chm (l.length ≤ big) (.own 3 0) [.arr 3 l false]
  | _, _ => .no
theorem dCloneI (args h) : Does ctx sCheck (NN sCheck) i41 args h (gCloneI args h) := by
  unfold gCloneI; split
  · rename_i l
    change List Int at l
    intro hl
    (conv => whnf)
    intro b hb
    cases b
    · (conv => whnf)
      (refine And.intro ((show (0 + (l : List Int).length) * 8 ≤ 17592186044416 by have hl : (l : List Int).length ≤ 4294967296 := hl; omega)) ?_; (conv => whnf))
      exact ⟨rfl, rfl⟩
    · (conv => whnf)
      have hb : (l : List Int) = [] := hb rfl
      subst hb
      exact ⟨rfl, rfl⟩
  · trivial
noncomputable def sCloneI : Sums ctx := addS 41 (frameS ctx true gCloneI) sCheck
theorem vCloneI : Valid Try.prog sCloneI := addS_ok ctx_ok fns_ok vCheck rfl dCloneI true

def gCloneD : List (V ctx) → H ctx → OpR E
  | [.sl 39 l], [] => .chm (l.length ≤ big) (.own 39 0) [.arr 39 l false]
  | _, _ => .no
theorem dCloneD (args h) : Does ctx sCloneI (NN sCloneI) i40 args h (gCloneD args h) := by
  unfold gCloneD; split
  · rename_i l
    change List Doubt at l
    intro hl
    (conv => whnf)
    intro b hb
    cases b
    · (conv => whnf)
      (refine And.intro ((show (0 + (l : List Doubt).length) * 48 ≤ 17592186044416 by have hl : (l : List Doubt).length ≤ 4294967296 := hl; omega)) ?_; (conv => whnf))
      exact ⟨rfl, rfl⟩
    · (conv => whnf)
      have hb : (l : List Doubt) = [] := hb rfl
      subst hb
      exact ⟨rfl, rfl⟩
  · trivial
noncomputable def sCtGrace2 : Sums ctx := addS 40 (frameS ctx true gCloneD) sCloneI
theorem vCtGrace2 : Valid Try.prog sCtGrace2 := addS_ok ctx_ok fns_ok vCloneI rfl dCloneD true

end Go.Proofs.Ytgplkdcibahofaa.Ev
