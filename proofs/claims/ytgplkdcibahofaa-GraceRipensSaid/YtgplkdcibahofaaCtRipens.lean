/-
  What is ripe is ripe later, too (law's function GraceRipens): it answers true.
-/
import Derived.Test.YtgplkdcibahofaaCtGrace5
import Derived.Test.YtgplkdcibahofaaEvOk
namespace Go.Proofs.Ytgplkdcibahofaa.Ev
open Go
set_option linter.unusedVariables false
set_option maxRecDepth 100000

theorem wRipens (l : List Doubt) (a b c n k who bye inc now more : Int) (hm : 0 ≤ more ∧ more ≤ 255) : Gets ctx sCtGrace5 (NN sCtGrace5) i3
    [.agg [.sl 39 l, .int .i64 a, .int .i64 b, .int .i64 c, .int .i64 n, .int .i64 k, .int .i64 who, .int .i64 bye, .int .u64 inc, .int .i64 now], .int .u8 more] (.bool true) := by
  refine ⟨rfl, ?_⟩
  (conv => whnf)
  (refine And.intro (few_slim l) ?_; (conv => whnf))
  have sl := few_slim l
  generalize few l = L at sl ⊢
  cases hc : may9 L
  · (conv => whnf)
    exact fin_b rfl
  (conv => whnf)
  have hc' : checkB L = true := by rw [← may_check]; exact hc
  (refine br_intro (fun h1 => ?_) (fun h1 => ?_) <;> (conv => whnf))
  rotate_left
  · exact fin_b rfl
  have h1 : 1 ≤ a := of_decide_eq_true h1
  (refine br_intro (fun h2 => ?_) (fun h2 => ?_) <;> (conv => whnf))
  rotate_left
  · exact fin_b rfl
  have h2 : a ≤ 1000 := of_decide_eq_true h2
  (refine br_intro (fun h3 => ?_) (fun h3 => ?_) <;> (conv => whnf))
  rotate_left
  · exact fin_b rfl
  have h3 : 1 ≤ b := of_decide_eq_true h3
  (refine br_intro (fun h4 => ?_) (fun h4 => ?_) <;> (conv => whnf))
  rotate_left
  · exact fin_b rfl
  have h4 : b ≤ 20 := of_decide_eq_true h4
  (refine br_intro (fun h5 => ?_) (fun h5 => ?_) <;> (conv => whnf))
  rotate_left
  · exact fin_b rfl
  have h5 : 0 ≤ c := of_decide_eq_true h5
  (refine br_intro (fun h6 => ?_) (fun h6 => ?_) <;> (conv => whnf))
  · exact fin_b rfl
  have h6 : c ≤ 10 := of_decide_eq_true (not_f h6)
  (refine br_intro (fun h7 => ?_) (fun h7 => ?_) <;> (conv => whnf))
  · exact fin_b rfl
  have h7 : ¬ n < 1 := of_decide_eq_false h7
  (refine br_intro (fun h8 => ?_) (fun h8 => ?_) <;> (conv => whnf))
  · exact fin_b rfl
  have h8 : ¬ n > 64 := of_decide_eq_false h8
  (refine br_intro (fun h9 => ?_) (fun h9 => ?_) <;> (conv => whnf))
  · exact fin_b rfl
  have h9 : ¬ now < 0 := of_decide_eq_false h9
  (refine br_intro (fun h10 => ?_) (fun h10 => ?_) <;> (conv => whnf))
  · exact fin_b rfl
  have h10 : ¬ now > 549755813888 := of_decide_eq_false h10
  have ok : ∀ t, 0 ≤ t → t ≤ 1099511627776 → okR L a b c n t = true := fun t t1 t2 => by
    unfold okR rulesB inB
    rw [hc']
    simp only [Bool.and_eq_true, decide_eq_true_eq, Bool.true_and]
    omega
  have ok1 := ok now (by omega) (by omega)
  have w1 : IntKind.i64.wrap more = more := wrap_i64 (by omega) (by omega)
  have w2 : IntKind.i64.wrap (now + IntKind.i64.wrap more) = now + more := by rw [w1]; exact wrap_i64 (by omega) (by omega)
  have ok2 := ok (now + more) (by omega) (by omega)
  have askk : ∀ k, 0 ≤ k → askB a b c n k = true := fun k hk => askB_iff.mpr (by omega)
  (refine And.intro (sl) ?_; (conv => whnf))
  (refine And.intro (sl) ?_; (conv => whnf))
  rw [w2, ok1, ok2]
  (conv => whnf)
  have sum := pick_part L (ripeD a b c n now)
  have sl1 := sl.1
  unfold big at sl1
  (refine br_intro (fun h11 => ?_) (fun h11 => ?_) <;> (conv => whnf))
  · have h11 : (IntKind.i64.wrap (((pickL true L (ripeD a b c n now)).length : Int) + ((pickL true L (fun d => !ripeD a b c n now d)).length : Int)) != (L.length : Int)) = true := h11
    rw [wrap_i64 (by omega) (by omega)] at h11
    have : ((pickL true L (ripeD a b c n now)).length : Int) + ((pickL true L (fun d => !ripeD a b c n now d)).length : Int) = (L.length : Int) := by omega
    rw [this] at h11
    simp at h11
  (refine br_intro (fun h12 => ?_) (fun h12 => ?_) <;> (conv => whnf))
  · have h12 : (pickL true L (ripeD a b c n (now + more))).length < (pickL true L (ripeD a b c n now)).length := lt_of h12
    have := pick_mono (l := L) (p := ripeD a b c n now) (q := ripeD a b c n (now + more)) fun d _ hd => by
      unfold ripeD at hd ⊢
      have := of_decide_eq_true hd
      exact decide_eq_true (by omega)
    exact absurd this (by omega)
  (refine br_intro (fun h13 => ?_) (fun h13 => ?_) <;> (conv => whnf))
  · rw [askk c h5] at h13; cases h13
  (refine br_intro (fun h14 => ?_) (fun h14 => ?_) <;> (conv => whnf))
  · rw [askk 0 (by omega)] at h14; cases h14
  rw [askk c h5, askk 0 (by omega)]
  have lo := grace_bd (askk c h5)
  have hi0 := grace_bd (askk 0 (by omega))
  have fa : ∀ i, i < (pickL true L (ripeD a b c n now)).length → 0 ≤ ((pickL true L (ripeD a b c n now)).getD i d0).at_ ∧ ((pickL true L (ripeD a b c n now)).getD i d0).at_ ≤ 1099511627776 ∧ ((pickL true L (ripeD a b c n now)).getD i d0).at_ + graceZ a b c n c ≤ now := by
    intro i hi
    obtain ⟨j, hj, e, hp⟩ := pick_get hi
    obtain ⟨_, _, _, k4, k5, _, k7⟩ := checkB_get hc' hj
    rw [e]
    have := of_decide_eq_true hp
    have := grace_all (askk (((L.getD j d0).by_.length : Int) - 1) (by omega))
    omega
  have fb : ∀ i, i < (pickL true L (fun d => !ripeD a b c n now d)).length → 0 ≤ ((pickL true L (fun d => !ripeD a b c n now d)).getD i d0).at_ ∧ ((pickL true L (fun d => !ripeD a b c n now d)).getD i d0).at_ ≤ 1099511627776 ∧ now < ((pickL true L (fun d => !ripeD a b c n now d)).getD i d0).at_ + graceZ a b c n 0 := by
    intro i hi
    obtain ⟨j, hj, e, hp⟩ := pick_get hi
    obtain ⟨_, _, _, k4, k5, _, k7⟩ := checkB_get hc' hj
    rw [e]
    have := of_decide_eq_false (not_t hp)
    have := grace_zero (askk (((L.getD j d0).by_.length : Int) - 1) (by omega))
    omega
  have la : (pickL true L (ripeD a b c n now)).length ≤ 4294967296 := by omega
  have lb : (pickL true L (fun d => !ripeD a b c n now d)).length ≤ 4294967296 := by omega
  clear h11 h12 h13 h14 sum ok1 ok2 ok hc hc' w2
  (refine loop_from (fun i : Nat => mk [(0, .agg [.sl 39 l, .int .i64 a, .int .i64 b, .int .i64 c, .int .i64 n, .int .i64 k, .int .i64 who, .int .i64 bye, .int .u64 inc, .int .i64 now]), (1, .int .u8 more), (2, .ptr 0 0), (4, .bool false), (6, .sl 39 (pickL true L (ripeD a b c n now))), (7, .sl 39 (pickL true L (fun d => !ripeD a b c n now d))), (12, .int .i64 (graceZ a b c n c)), (14, .int .i64 (graceZ a b c n 0)), (16, .int .i64 i)]) (fun _ => [.cells [.sl 39 l, .int .i64 a, .int .i64 b, .int .i64 c, .int .i64 n, .int .i64 k, .int .i64 who, .int .i64 bye, .int .u64 inc, .int .i64 now]]) (fun i => i ≤ (pickL true L (ripeD a b c n now)).length) (fun i => (pickL true L (ripeD a b c n now)).length - i) 0 (Nat.zero_le _) rfl rfl ?_)
  intro i m hi ih
  (conv => whnf)
  (refine br_intro (fun g1 => ?_) (fun g1 => ?_) <;> (conv => whnf))
  · have g1 : i < (pickL true L (ripeD a b c n now)).length := lt_of g1
    have e1 : IntKind.i64.wrap ((i : Int) + 1) = ((i + 1 : Nat) : Int) := wrap_succ (by omega)
    obtain ⟨q1, q2, q3⟩ := fa i g1
    have e2 : IntKind.i64.wrap (((pickL true L (ripeD a b c n now)).getD i d0).at_ + graceZ a b c n c) = ((pickL true L (ripeD a b c n now)).getD i d0).at_ + graceZ a b c n c := wrap_i64 (by omega) (by omega)
    (refine go_quiet (by kernel_rfl) rfl ?_; (conv => whnf))
    (refine And.intro (in_of g1) ?_; (conv => whnf))
    (refine br_intro (fun g2 => ?_) (fun g2 => ?_) <;> (conv => whnf))
    · have g2 : IntKind.i64.wrap (((pickL true L (ripeD a b c n now)).getD i d0).at_ + graceZ a b c n c) > now := of_decide_eq_true g2
      omega
    rw [e1]
    exact ih.out (i + 1) (by omega) (by omega)
  clear ih hi g1 i m
  (refine loop_from (fun i : Nat => mk [(0, .agg [.sl 39 l, .int .i64 a, .int .i64 b, .int .i64 c, .int .i64 n, .int .i64 k, .int .i64 who, .int .i64 bye, .int .u64 inc, .int .i64 now]), (1, .int .u8 more), (2, .ptr 0 0), (4, .bool false), (7, .sl 39 (pickL true L (fun d => !ripeD a b c n now d))), (14, .int .i64 (graceZ a b c n 0)), (17, .int .i64 i)]) (fun _ => [.cells [.sl 39 l, .int .i64 a, .int .i64 b, .int .i64 c, .int .i64 n, .int .i64 k, .int .i64 who, .int .i64 bye, .int .u64 inc, .int .i64 now]]) (fun i => i ≤ (pickL true L (fun d => !ripeD a b c n now d)).length) (fun i => (pickL true L (fun d => !ripeD a b c n now d)).length - i) 0 (Nat.zero_le _) rfl rfl ?_)
  intro i m hi ih
  (conv => whnf)
  (refine br_intro (fun g1 => ?_) (fun g1 => ?_) <;> (conv => whnf))
  · have g1 : i < (pickL true L (fun d => !ripeD a b c n now d)).length := lt_of g1
    have e1 : IntKind.i64.wrap ((i : Int) + 1) = ((i + 1 : Nat) : Int) := wrap_succ (by omega)
    obtain ⟨q1, q2, q3⟩ := fb i g1
    have e2 : IntKind.i64.wrap (((pickL true L (fun d => !ripeD a b c n now d)).getD i d0).at_ + graceZ a b c n 0) = ((pickL true L (fun d => !ripeD a b c n now d)).getD i d0).at_ + graceZ a b c n 0 := wrap_i64 (by omega) (by omega)
    (refine go_quiet (by kernel_rfl) rfl ?_; (conv => whnf))
    (refine And.intro (in_of g1) ?_; (conv => whnf))
    (refine br_intro (fun g2 => ?_) (fun g2 => ?_) <;> (conv => whnf))
    · have g2 : IntKind.i64.wrap (((pickL true L (fun d => !ripeD a b c n now d)).getD i d0).at_ + graceZ a b c n 0) ≤ now := of_decide_eq_true g2
      omega
    rw [e1]
    exact ih.out (i + 1) (by omega) (by omega)
  exact fin_b rfl

end Go.Proofs.Ytgplkdcibahofaa.Ev
