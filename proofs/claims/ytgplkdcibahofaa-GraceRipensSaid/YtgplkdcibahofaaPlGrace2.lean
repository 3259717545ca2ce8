/-
  Lists of nodes that rise; doubts that may be, by the program and by the document. No program stands here.
-/
import Derived.Test.YtgplkdcibahofaaPlGrace
namespace Go.Proofs.Ytgplkdcibahofaa.Ev
open Go

theorem up_lt {l : List Int} (h : ∀ i, i + 1 < l.length → l.getD i 0 < l.getD (i + 1) 0) : ∀ i j, i < j → j < l.length → l.getD i 0 < l.getD j 0 := by
  intro i j hij hj
  induction j with
  | zero => omega
  | succ j ih =>
    have h1 := h j hj
    rcases Nat.lt_or_ge i j with h2 | h2
    · have := ih h2 (by omega); omega
    · have : i = j := by omega
      subst this; exact h1

theorem up_count {l : List Int} (h : ∀ i, i + 1 < l.length → l.getD i 0 < l.getD (i + 1) 0) {i : Nat} (hi : i < l.length) : manyI l (l.getD i 0) = 1 := by
  have hp : l.Nodup := by
    rw [List.Nodup, List.pairwise_iff_getElem]
    intro a b ha hb hab
    have := up_lt h a b hab hb
    rw [List.getD_eq_getElem?_getD, List.getD_eq_getElem?_getD, List.getElem?_eq_getElem ha, List.getElem?_eq_getElem hb] at this
    simp at this
    omega
  have h1 : l.getD i 0 ∈ l := by
    rw [List.getD_eq_getElem?_getD, List.getElem?_eq_getElem hi]; simp
  have h2 := hp.count (a := l.getD i 0)
  rw [if_pos h1] at h2
  exact h2

theorem up_ge {l : List Int} (h0 : ∀ i, i < l.length → 0 ≤ l.getD i 0) (h : ∀ i, i + 1 < l.length → l.getD i 0 < l.getD (i + 1) 0) : ∀ i : Nat, i < l.length → (i : Int) ≤ l.getD i 0 := by
  intro i
  induction i with
  | zero => exact fun hi => h0 0 hi
  | succ i ih => intro hi; have := ih (by omega); have := h i hi; omega

theorem rises_nodes (l : List Int) : risesB l = (decide (0 < l.length) && nodesB l) := by
  rw [Bool.eq_iff_iff]
  unfold risesB nodesB riseB onceB
  simp only [Bool.and_eq_true, decide_eq_true_eq, allB_true]
  constructor
  · rintro ⟨h1, h2⟩
    have r1 : ∀ i, i < l.length → 0 ≤ l.getD i 0 ∧ l.getD i 0 ≤ 63 := fun i hi => by
      have := h1 i hi
      unfold riseOk inB at this
      simp only [Bool.and_eq_true, decide_eq_true_eq] at this
      exact this.1
    have r2 : ∀ i, i + 1 < l.length → l.getD i 0 < l.getD (i + 1) 0 := fun i hi => by
      have := h1 (i + 1) hi
      unfold riseOk at this
      simp only [Bool.and_eq_true, Bool.or_eq_true, beq_iff_eq, decide_eq_true_eq, Nat.add_sub_cancel] at this
      rcases this.2 with h | h
      · omega
      · exact h
    have r3 := up_ge (fun i hi => (r1 i hi).1) r2
    refine ⟨h2, ⟨fun j hj => ?_, ?_⟩, fun j hj => ?_⟩
    · unfold upB; rw [decide_eq_true_eq]; exact r2 j (by omega)
    · have := r3 (l.length - 1) (by omega)
      have := r1 (l.length - 1) (by omega)
      omega
    · unfold oneB inB
      rw [up_count r2 hj]
      simp only [Bool.and_eq_true, decide_eq_true_eq]
      exact ⟨r1 j hj, rfl⟩
  · rintro ⟨h1, ⟨h2, h3⟩, h4⟩
    refine ⟨fun j hj => ?_, h1⟩
    have h5 := h4 j hj
    unfold oneB at h5
    unfold riseOk
    simp only [Bool.and_eq_true, Bool.or_eq_true, beq_iff_eq, decide_eq_true_eq] at h5 ⊢
    refine ⟨h5.1, ?_⟩
    rcases Nat.eq_zero_or_pos j with h6 | h6
    · exact .inl h6
    · have := h2 (j - 1) (by omega)
      unfold upB at this
      rw [decide_eq_true_eq, Nat.sub_add_cancel h6] at this
      exact .inr this

theorem may_check (l : List Doubt) : may9 l = checkB l := by
  unfold may9 checkB
  congr 1
  funext i
  unfold dOk9 dOk
  rw [rises_nodes, Bool.and_assoc]

theorem grace_all {a b c n k : Int} (h : askB a b c n k = true) : graceZ a b c n c ≤ graceZ a b c n k := by
  have h1 := grace_bd h
  obtain ⟨_, _, _, _, g5, _⟩ := askB_iff.mp h
  refine Int.le_trans ?_ h1.1
  unfold graceZ
  split
  · exact Int.le_refl _
  · rename_i h0
    have hc : c ≠ 0 := by simpa using h0
    have : minZ c c = c := by unfold minZ; split <;> rfl
    rw [this, Int.mul_tdiv_cancel _ hc]
    omega

theorem grace_zero {a b c n k : Int} (h : askB a b c n k = true) : graceZ a b c n k ≤ graceZ a b c n 0 := by
  have h1 := grace_bd h
  obtain ⟨_, _, _, _, g5, _⟩ := askB_iff.mp h
  cases hc : (c == 0)
  · refine Int.le_trans h1.2.1 ?_
    unfold graceZ
    rw [hc]
    have : minZ 0 c = 0 := by
      have hc' : c ≠ 0 := by simpa using hc
      unfold minZ
      split
      · rename_i h2; have := of_decide_eq_true h2; omega
      · rfl
    simp only [this, Int.mul_zero, Int.zero_tdiv]
    omega
  · unfold graceZ
    rw [hc]
    exact Int.le_refl _

theorem pick_part (l : List Doubt) (p : Doubt → Bool) : (pickL true l p).length + (pickL true l (fun d => !p d)).length = l.length := by
  unfold pickL
  simp only
  induction l with
  | nil => rfl
  | cons x l ih =>
    simp only [List.filter_cons]
    cases p x <;> simp <;> omega

theorem pick_mono {l : List Doubt} {p q : Doubt → Bool} (h : ∀ d ∈ l, p d = true → q d = true) : (pickL true l p).length ≤ (pickL true l q).length := by
  unfold pickL
  simp only
  rw [← List.countP_eq_length_filter, ← List.countP_eq_length_filter]
  exact List.countP_mono_left h

/-- what is picked stands in the list -/
theorem pick_get {l : List Doubt} {p : Doubt → Bool} {i : Nat} (hi : i < (pickL true l p).length) : ∃ j, j < l.length ∧ (pickL true l p).getD i d0 = l.getD j d0 ∧ p (l.getD j d0) = true := by
  have h1 : (pickL true l p).getD i d0 ∈ pickL true l p := by
    rw [List.getD_eq_getElem?_getD, List.getElem?_eq_getElem hi]; simp
  have h2 : (pickL true l p).getD i d0 ∈ l ∧ p ((pickL true l p).getD i d0) = true := by
    have h3 := h1
    unfold pickL at h3 ⊢
    simpa using List.mem_filter.mp h3
  obtain ⟨j, hj, h4⟩ := List.mem_iff_getElem.mp h2.1
  refine ⟨j, hj, ?_, ?_⟩
  · rw [← h4, List.getD_eq_getElem?_getD (l := l), List.getElem?_eq_getElem hj]; rfl
  · rw [List.getD_eq_getElem?_getD (l := l), List.getElem?_eq_getElem hj]
    show p l[j] = true
    rw [h4]; exact h2.2

end Go.Proofs.Ytgplkdcibahofaa.Ev
