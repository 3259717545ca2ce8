/-
  What the functions of package grace do: what is ripe.
-/
import Derived.Test.YtgplkdcibahofaaCtGrace3
import Derived.Test.YtgplkdcibahofaaEvOk
namespace Go.Proofs.Ytgplkdcibahofaa.Ev
open Go
set_option linter.unusedVariables false
set_option maxRecDepth 100000

theorem wRipe (l : List Doubt) (a b c n now : Int) (hl : slimB l) : Gets ctx sCtGrace3 (NN sCtGrace3) i9 [.sl 39 l, .agg [.int .i64 a, .int .i64 b, .int .i64 c], .int .i64 n, .int .i64 now]
    (.tuple [.sl 39 (pickL (okR l a b c n now) l (ripeD a b c n now)), .sl 39 (pickL (okR l a b c n now) l (fun d => !ripeD a b c n now d)), .int .i64 (errZ (okR l a b c n now))]) := by
  refine ⟨rfl, ?_⟩
  have no : okR l a b c n now = false → ∃ h'', frzR ctx [] (.tuple [.nils 39, .nils 39, .int .i64 1]) = some (.tuple [.sl 39 (pickL (okR l a b c n now) l (ripeD a b c n now)), .sl 39 (pickL (okR l a b c n now) l (fun d => !ripeD a b c n now d)), .int .i64 (errZ (okR l a b c n now))], h'') := fun h => by
    rw [h]; exact ⟨_, rfl⟩
  (conv => whnf)
  (refine And.intro (hl) ?_; (conv => whnf))
  have okc : checkB l = false → okR l a b c n now = false := fun h => by unfold okR; rw [h]; rfl
  cases hc : checkB l
  · (conv => whnf)
    exact no (okc hc)
  (conv => whnf)
  (refine br_intro (fun h1 => ?_) (fun h1 => ?_) <;> (conv => whnf))
  rotate_left
  · have h1 : decide (1 ≤ a) = false := h1
    exact no (by unfold okR rulesB inB; rw [h1]; simp)
  have h1 : 1 ≤ a := of_decide_eq_true h1
  (refine br_intro (fun h2 => ?_) (fun h2 => ?_) <;> (conv => whnf))
  · have h2 : decide (a ≤ 1000) = false := not_t h2
    exact no (by unfold okR rulesB inB; rw [h2]; simp)
  have h2 : a ≤ 1000 := of_decide_eq_true (not_f h2)
  (refine br_intro (fun h3 => ?_) (fun h3 => ?_) <;> (conv => whnf))
  rotate_left
  · have h3 : decide (1 ≤ b) = false := h3
    exact no (by unfold okR rulesB inB; rw [h3]; simp)
  have h3 : 1 ≤ b := of_decide_eq_true h3
  (refine br_intro (fun h4 => ?_) (fun h4 => ?_) <;> (conv => whnf))
  · have h4 : decide (b ≤ 20) = false := not_t h4
    exact no (by unfold okR rulesB inB; rw [h4]; simp)
  have h4 : b ≤ 20 := of_decide_eq_true (not_f h4)
  (refine br_intro (fun h5 => ?_) (fun h5 => ?_) <;> (conv => whnf))
  rotate_left
  · have h5 : decide (0 ≤ c) = false := h5
    exact no (by unfold okR rulesB inB; rw [h5]; simp)
  have h5 : 0 ≤ c := of_decide_eq_true h5
  (refine br_intro (fun h6 => ?_) (fun h6 => ?_) <;> (conv => whnf))
  · have h6 : decide (c ≤ 10) = false := not_t h6
    exact no (by unfold okR rulesB inB; rw [h6]; simp)
  have h6 : c ≤ 10 := of_decide_eq_true (not_f h6)
  (refine br_intro (fun h7 => ?_) (fun h7 => ?_) <;> (conv => whnf))
  rotate_left
  · have h7 : decide (1 ≤ n) = false := h7
    exact no (by unfold okR rulesB inB; rw [h7]; simp)
  have h7 : 1 ≤ n := of_decide_eq_true h7
  (refine br_intro (fun h8 => ?_) (fun h8 => ?_) <;> (conv => whnf))
  · have h8 : decide (n ≤ 64) = false := not_t h8
    exact no (by unfold okR rulesB inB; rw [h8]; simp)
  have h8 : n ≤ 64 := of_decide_eq_true (not_f h8)
  (refine br_intro (fun h9 => ?_) (fun h9 => ?_) <;> (conv => whnf))
  · have h9 : inB 0 1099511627776 now = false := not_t h9
    exact no (by unfold okR; rw [h9]; simp)
  have h9 : inB 0 1099511627776 now = true := not_f h9
  have yes : okR l a b c n now = true := by unfold okR rulesB; rw [hc, h9]; simp [inB]; omega
  rw [yes]
  clear no okc
  (refine And.intro (hl) ?_; (conv => whnf))
  have hl1 := hl.1
  unfold big at hl1
  (refine loop_from (fun i : Nat => mk [(0, .sl 39 l), (1, .agg [.int .i64 a, .int .i64 b, .int .i64 c]), (2, .int .i64 n), (3, .int .i64 now), (5, .ptr 1 0), (8, .own 39 3), (9, .own 39 2), (10, .int .i64 0), (11, .own 39 0), (12, .own 39 4), (36, .own 39 5), (37, .int .i64 l.length), (38, .int .i64 i)]) (fun i => [.arr 39 (pickTo (ripeD a b c n now) l i) false, .cells [.int .i64 a, .int .i64 b, .int .i64 c], .arr 39 [] false, .arr 39 [] false, .arr 39 (pickTo (fun d => !ripeD a b c n now d) l i) false, .arr 39 l false]) (fun i => i ≤ l.length) (fun i => l.length - i) 0 (Nat.zero_le _) rfl rfl ?_)
  intro i m hi ih
  (conv => whnf)
  (refine br_intro (fun h10 => ?_) (fun h10 => ?_) <;> (conv => whnf))
  rotate_left
  · have h10 : l.length ≤ i := ge_of h10
    rw [pickTo_end h10, pickTo_end h10]
    exact ⟨_, rfl⟩
  have h10 : i < l.length := lt_of h10
  have e1 : IntKind.i64.wrap ((i : Int) + 1) = ((i + 1 : Nat) : Int) := wrap_succ (by omega)
  obtain ⟨k1, k2, k3, k4, k5, k6, k7⟩ := checkB_get hc h10
  have k8 := hl.2 i
  unfold big at k8
  have e3 : IntKind.i64.wrap (((l.getD i d0).by_.length : Int) - 1) = ((l.getD i d0).by_.length : Int) - 1 := wrap_i64 (by omega) (by omega)
  have hk : askB a b c n (((l.getD i d0).by_.length : Int) - 1) = true := askB_iff.mpr (by omega)
  have bd := grace_bd hk
  have e4 : IntKind.i64.wrap ((l.getD i d0).at_ + graceZ a b c n (((l.getD i d0).by_.length : Int) - 1)) = (l.getD i d0).at_ + graceZ a b c n (((l.getD i d0).by_.length : Int) - 1) := wrap_i64 (by omega) (by omega)
  (refine And.intro (in_of h10) ?_; (conv => whnf))
  (refine br_intro (fun h11 => ?_) (fun h11 => ?_) <;> (conv => whnf))
  · have h11 : (errZ (askB a b c n (IntKind.i64.wrap (((l.getD i d0).by_.length : Int) - 1))) != 0) = true := h11
    rw [e3, hk] at h11
    cases h11
  have key : ∀ t, decide (IntKind.i64.wrap ((l.getD i d0).at_ + valZ (askB a b c n (IntKind.i64.wrap (((l.getD i d0).by_.length : Int) - 1))) (graceZ a b c n (IntKind.i64.wrap (((l.getD i d0).by_.length : Int) - 1)))) ≤ now) = t → ripeD a b c n now (l.getD i d0) = t := by
    intro t ht
    have ev : IntKind.i64.wrap ((l.getD i d0).at_ + valZ (askB a b c n (IntKind.i64.wrap (((l.getD i d0).by_.length : Int) - 1))) (graceZ a b c n (IntKind.i64.wrap (((l.getD i d0).by_.length : Int) - 1)))) = (l.getD i d0).at_ + graceZ a b c n (((l.getD i d0).by_.length : Int) - 1) := by
      rw [e3, hk]; exact e4
    unfold ripeD
    rw [← ev]
    exact ht
  (refine br_intro (fun h12 => ?_) (fun h12 => ?_) <;> (conv => whnf))
  · have h12 : ripeD a b c n now (l.getD i d0) = true := key _ h12
    have q1 := pickTo_yes h10 h12
    have q2 : pickTo (fun d => !ripeD a b c n now d) l (i + 1) = pickTo (fun d => !ripeD a b c n now d) l i := pickTo_no h10 (by rw [h12]; rfl)
    have q3 := pickTo_len (ripeD a b c n now) l i
    (refine And.intro ((show ((pickTo (ripeD a b c n now) l i).length + 1) * 48 ≤ 17592186044416 by omega)) ?_; (conv => whnf))
    rw [e1]
    refine iter_eq (ih.out (i + 1) (by omega) (by omega)) rfl ?_
    rw [q1, q2]
    rfl
  · have h12 : ripeD a b c n now (l.getD i d0) = false := key _ h12
    have q1 : pickTo (fun d => !ripeD a b c n now d) l (i + 1) = pickTo (fun d => !ripeD a b c n now d) l i ++ [l.getD i d0] := pickTo_yes h10 (by rw [h12]; rfl)
    have q2 := pickTo_no h10 h12
    have q3 := pickTo_len (fun d => !ripeD a b c n now d) l i
    (refine And.intro ((show ((pickTo (fun d => !ripeD a b c n now d) l i).length + 1) * 48 ≤ 17592186044416 by omega)) ?_; (conv => whnf))
    rw [e1]
    refine iter_eq (ih.out (i + 1) (by omega) (by omega)) rfl ?_
    rw [q1, q2]
    rfl
def gRipe : List (V ctx) → OpR E
  | [.sl 39 l, .agg [.int .i64 a, .int .i64 b, .int .i64 c], .int .i64 n, .int .i64 now] => .chk (slimB l) (.tuple [.sl 39 (pickL (okR l a b c n now) l (ripeD a b c n now)), .sl 39 (pickL (okR l a b c n now) l (fun d => !ripeD a b c n now d)), .int .i64 (errZ (okR l a b c n now))])
  | _ => .no
theorem dRipe (args) : DoesF ctx sCtGrace3 (NN sCtGrace3) i9 args (gRipe args) := by
  unfold gRipe; split
  · exact wRipe _ _ _ _ _ _
  · trivial
noncomputable def sCtGrace4 : Sums ctx := addS 9 (pureF ctx gRipe) sCtGrace3
theorem vCtGrace4 : Valid Try.prog sCtGrace4 := addF_ok ctx_ok fns_ok vCtGrace3 rfl dRipe

end Go.Proofs.Ytgplkdcibahofaa.Ev
