/-
  What the functions of package grace do.
-/
import Derived.Test.YtgplkdcibahofaaPlGrace2
import Derived.Test.YtgplkdcibahofaaEvOk
namespace Go.Proofs.Ytgplkdcibahofaa.Ev
open Go
set_option linter.unusedVariables false
set_option maxRecDepth 100000

def gRises : List (V ctx) → OpR E
  | [.sl 3 l] => .chk (l.length ≤ big) (.bool (risesB l))
  | _ => .no
theorem wRises (l : List Int) (hl : l.length ≤ big) : Gets ctx sCtRef2 (NN sCtRef2) i28 [.sl 3 l] (.bool (risesB l)) := by
  refine ⟨rfl, ?_⟩
  (conv => whnf)
  (refine loop_from (fun i : Nat => mk [(0, .sl 3 l), (2, .bool false), (5, .sl 3 l), (6, .int .i64 l.length), (7, .int .i64 i)]) (fun _ => []) (Upto l.length (riseOk l)) (fun i => l.length - i) 0 Upto.zero rfl rfl ?_)
  intro i m hi ih
  unfold big at hl
  (conv => whnf)
  (refine br_intro (fun h3 => ?_) (fun h3 => ?_) <;> (conv => whnf))
  · have h3 : i < l.length := lt_of h3
    have e1 : IntKind.i64.wrap ((i : Int) + 1) = ((i + 1 : Nat) : Int) := wrap_succ (by omega)
    have no : riseOk l i = false → risesB l = false := fun h => by unfold risesB; rw [allB_false h3 h]; rfl
    (refine And.intro (in_of h3) ?_; (conv => whnf))
    (refine br_intro (fun h4 => ?_) (fun h4 => ?_) <;> (conv => whnf))
    · have h4 : decide (l.getD i 0 ≥ 0) = true := h4
      (refine br_intro (fun h5 => ?_) (fun h5 => ?_) <;> (conv => whnf))
      · have h5 : (!decide (l.getD i 0 ≤ 63)) = true := h5
        rw [no (by unfold riseOk; generalize l.getD i 0 = x at h4 h5; simp [inB] at h4 h5 ⊢; omega)]
        exact ⟨_, rfl⟩
      · have h5 : (!decide (l.getD i 0 ≤ 63)) = false := h5
        (refine br_intro (fun h6 => ?_) (fun h6 => ?_) <;> (conv => whnf))
        · have h6 : 0 < i := lt_of (i := 0) h6
          have e2 : IntKind.i64.wrap ((i : Int) - 1) = ((i - 1 : Nat) : Int) := by rw [wrap_i64 (by omega) (by omega)]; omega
          rw [e2]
          (refine And.intro (in_of (show i - 1 < l.length by omega)) ?_; (conv => whnf))
          (refine br_intro (fun h7 => ?_) (fun h7 => ?_) <;> (conv => whnf))
          · have h7 : decide (l.getD (i - 1) 0 ≥ l.getD i 0) = true := h7
            rw [no (by unfold riseOk; generalize l.getD i 0 = x at h4 h5 h7; generalize l.getD (i - 1) 0 = y at h7; simp [inB] at h4 h5 h7 ⊢; omega)]
            exact ⟨_, rfl⟩
          · have h7 : decide (l.getD (i - 1) 0 ≥ l.getD i 0) = false := h7
            rw [e1]
            exact ih.out (i + 1) (hi.succ h3 (by unfold riseOk; generalize l.getD i 0 = x at h4 h5 h7; generalize l.getD (i - 1) 0 = y at h7; simp [inB] at h4 h5 h7 ⊢; omega)) (by omega)
        · have h6 : i = 0 := by have h6 : decide (((0 : Nat) : Int) < (i : Int)) = false := h6; have := ge_of h6; omega
          rw [e1]
          exact ih.out (i + 1) (hi.succ h3 (by unfold riseOk; generalize l.getD i 0 = x at h4 h5; simp [inB, h6] at h4 h5 ⊢; omega)) (by omega)
    · have h4 : decide (l.getD i 0 ≥ 0) = false := h4
      rw [no (by unfold riseOk; generalize l.getD i 0 = x at h4; simp [inB] at h4 ⊢; omega)]
      exact ⟨_, rfl⟩
  · unfold risesB
    rw [hi.all (ge_of h3)]
    exact fin_b (by simp; exact Iff.rfl)
theorem dRises (args) : DoesF ctx sCtRef2 (NN sCtRef2) i28 args (gRises args) := by
  unfold gRises; split
  · exact wRises _
  · trivial
noncomputable def sRises : Sums ctx := addS 28 (pureF ctx gRises) sCtRef2
theorem vRises : Valid Try.prog sRises := addF_ok ctx_ok fns_ok vCtRef2 rfl dRises


def gLen : List (V ctx) → OpR E
  | [.int .u64 n] => .chk (0 ≤ n ∧ n < 256) (.int .i64 (lenZ n))
  | _ => .no
theorem wLen (n : Int) (hn : 0 ≤ n ∧ n < 256) : Gets ctx sRises (NN sRises) i26 [.int .u64 n] (.int .i64 (lenZ n)) := by
  refine ⟨rfl, ?_⟩
  (conv => whnf)
  (refine br_intro (fun h1 => ?_) (fun h1 => ?_) <;> (conv => whnf))
  · have h1 : n ≥ 4294967296 := of_decide_eq_true h1
    omega
  (refine br_intro (fun h2 => ?_) (fun h2 => ?_) <;> (conv => whnf))
  · have h2 : n ≥ 65536 := of_decide_eq_true h2
    omega
  (refine br_intro (fun h3 => ?_) (fun h3 => ?_) <;> (conv => whnf))
  · have h3 : n ≥ 256 := of_decide_eq_true h3
    omega
  obtain ⟨m, rfl⟩ : ∃ m : Nat, n = m := ⟨n.toNat, by omega⟩
  have hm : m < 256 := by omega
  clear h1 h2 h3 hn
  revert m
  refine fun m hm => ⟨?_, ?_⟩
  · revert m; decide +kernel
  (conv => whnf)
  refine fin_i ?_
  revert m; decide +kernel
theorem dLen (args) : DoesF ctx sRises (NN sRises) i26 args (gLen args) := by
  unfold gLen; split
  · exact wLen _
  · trivial
noncomputable def sLen : Sums ctx := addS 26 (pureF ctx gLen) sRises
theorem vLen : Valid Try.prog sLen := addF_ok ctx_ok fns_ok vRises rfl dLen

def gGrace : List (V ctx) → OpR E
  | [.agg [.int .i64 a, .int .i64 b, .int .i64 c], .int .i64 n, .int .i64 k] => .val (.tuple [.int .i64 (valZ (askB a b c n k) (graceZ a b c n k)), .int .i64 (errZ (askB a b c n k))])
  | _ => .no
theorem wGrace (a b c n k : Int) : Gets ctx sLen (NN sLen) i10 [.agg [.int .i64 a, .int .i64 b, .int .i64 c], .int .i64 n, .int .i64 k] (.tuple [.int .i64 (valZ (askB a b c n k) (graceZ a b c n k)), .int .i64 (errZ (askB a b c n k))]) := by
  refine ⟨rfl, ?_⟩
  have no : askB a b c n k = false → ∃ h'', frzR ctx [] (.tuple [.int .i64 0, .int .i64 1]) = some (.tuple [.int .i64 (valZ (askB a b c n k) (graceZ a b c n k)), .int .i64 (errZ (askB a b c n k))], h'') := fun h => by
    rw [h]; exact ⟨_, rfl⟩
  have nope : ¬ (1 ≤ a ∧ a ≤ 1000 ∧ 1 ≤ b ∧ b ≤ 20 ∧ 0 ≤ c ∧ c ≤ 10 ∧ 1 ≤ n ∧ n ≤ 64 ∧ 0 ≤ k) → askB a b c n k = false := fun h => by simp [askB, rulesB, inB]; omega
  (conv => whnf)
  (refine br_intro (fun h1 => ?_) (fun h1 => ?_) <;> (conv => whnf))
  rotate_left
  · exact no (nope (by have := of_decide_eq_false h1; omega))
  (refine br_intro (fun h2 => ?_) (fun h2 => ?_) <;> (conv => whnf))
  · exact no (nope (by have h2 : (!decide (a ≤ 1000)) = true := h2; simp at h2; omega))
  (refine br_intro (fun h3 => ?_) (fun h3 => ?_) <;> (conv => whnf))
  rotate_left
  · exact no (nope (by have := of_decide_eq_false h3; omega))
  (refine br_intro (fun h4 => ?_) (fun h4 => ?_) <;> (conv => whnf))
  · exact no (nope (by have h4 : (!decide (b ≤ 20)) = true := h4; simp at h4; omega))
  (refine br_intro (fun h5 => ?_) (fun h5 => ?_) <;> (conv => whnf))
  rotate_left
  · exact no (nope (by have := of_decide_eq_false h5; omega))
  (refine br_intro (fun h6 => ?_) (fun h6 => ?_) <;> (conv => whnf))
  · exact no (nope (by have h6 : (!decide (c ≤ 10)) = true := h6; simp at h6; omega))
  (refine br_intro (fun h7 => ?_) (fun h7 => ?_) <;> (conv => whnf))
  rotate_left
  · exact no (nope (by have := of_decide_eq_false h7; omega))
  (refine br_intro (fun h8 => ?_) (fun h8 => ?_) <;> (conv => whnf))
  · exact no (nope (by have h8 : (!decide (n ≤ 64)) = true := h8; simp at h8; omega))
  (refine br_intro (fun h9 => ?_) (fun h9 => ?_) <;> (conv => whnf))
  · exact no (nope (by have := of_decide_eq_true h9; omega))
  have g1 : a ≥ 1 := of_decide_eq_true h1
  have g2 : a ≤ 1000 := by simpa using h2
  have g3 : b ≥ 1 := of_decide_eq_true h3
  have g4 : b ≤ 20 := by simpa using h4
  have g5 : c ≥ 0 := of_decide_eq_true h5
  have g6 : c ≤ 10 := by simpa using h6
  have g7 : n ≥ 1 := of_decide_eq_true h7
  have g8 : n ≤ 64 := by simpa using h8
  have g9 : ¬ k < 0 := of_decide_eq_false h9
  clear h1 h2 h3 h4 h5 h6 h7 h8 h9 no nope
  have yes : askB a b c n k = true := by simp [askB, rulesB, inB]; omega
  rw [yes]
  have e1 : IntKind.u64.wrap n = n := wrap_u64 (by omega) (by omega)
  have e2 : lenZ (IntKind.u64.wrap n) = lenZ n := by rw [e1]
  have l1 : 1 ≤ lenZ n ∧ lenZ n ≤ 7 := by
    obtain ⟨m, rfl⟩ : ∃ m : Nat, n = m := ⟨n.toNat, by omega⟩
    have hm : m < 65 ∧ 1 ≤ m := by omega
    clear g7 g8 e1 e2 yes
    revert m
    have : ∀ m : Nat, m < 65 → 1 ≤ m → 1 ≤ lenZ m ∧ lenZ m ≤ 7 := by decide +kernel
    exact fun m hm => this m hm.1 hm.2
  have p1 : 1 ≤ a * lenZ n ∧ a * lenZ n ≤ 7000 := ⟨by have := Int.mul_le_mul (show (1 : Int) ≤ a by omega) l1.1 (by omega) (by omega); omega, by have := Int.mul_le_mul g2 l1.2 (by omega) (by omega); omega⟩
  have e3 : IntKind.i64.wrap (a * lenZ n) = a * lenZ n := wrap_i64 (by omega) (by omega)
  (refine go_quiet (by kernel_rfl) rfl ?_; (conv => whnf))
  (refine And.intro (⟨by rw [e1]; omega, by rw [e1]; omega⟩) ?_; (conv => whnf))
  rw [e2, e3]
  (refine br_intro (fun h1 => ?_) (fun h1 => ?_) <;> (conv => whnf))
  · have h1 : (c == 0) = true := h1
    unfold graceZ
    rw [h1]
    refine fin_ii ?_ rfl
    rfl
  · have h1 : (c == 0) = false := h1
    unfold graceZ
    rw [h1]
    have p2 : a * lenZ n ≤ a * lenZ n * b ∧ a * lenZ n * b ≤ 140000 := by
      generalize a * lenZ n = x at p1
      exact ⟨by have := Int.mul_le_mul_of_nonneg_left g3 (show 0 ≤ x by omega); omega, by have := Int.mul_le_mul p1.2 g4 (by omega) (by omega); omega⟩
    have p3 : 0 ≤ minZ k c ∧ minZ k c ≤ c := by
      unfold minZ
      split
      · omega
      · rename_i h; have := of_decide_eq_false h; omega
    have p4 : 0 ≤ (a * lenZ n * b - a * lenZ n) * minZ k c ∧ (a * lenZ n * b - a * lenZ n) * minZ k c ≤ 1400000 := by
      generalize a * lenZ n * b = y at p2
      generalize a * lenZ n = x at p1 p2
      exact ⟨Int.mul_nonneg (by omega) (by omega), by have := Int.mul_le_mul (show y - x ≤ 140000 by omega) (show minZ k c ≤ 10 by omega) (by omega) (by omega); omega⟩
    have p5 : 0 ≤ ((a * lenZ n * b - a * lenZ n) * minZ k c).tdiv c ∧ ((a * lenZ n * b - a * lenZ n) * minZ k c).tdiv c ≤ 1400000 := by
      generalize (a * lenZ n * b - a * lenZ n) * minZ k c = z at p4
      exact ⟨Int.tdiv_nonneg p4.1 g5, by have := Int.tdiv_le_self c p4.1; omega⟩
    have e4 : IntKind.i64.wrap (a * lenZ n * b) = a * lenZ n * b := wrap_i64 (by omega) (by omega)
    have e5 : IntKind.i64.wrap (a * lenZ n * b - a * lenZ n) = a * lenZ n * b - a * lenZ n := wrap_i64 (by omega) (by omega)
    have e6 : IntKind.i64.wrap ((a * lenZ n * b - a * lenZ n) * minZ k c) = (a * lenZ n * b - a * lenZ n) * minZ k c := wrap_i64 (by omega) (by omega)
    have e7 : IntKind.i64.wrap (((a * lenZ n * b - a * lenZ n) * minZ k c).tdiv c) = ((a * lenZ n * b - a * lenZ n) * minZ k c).tdiv c := wrap_i64 (by omega) (by omega)
    have e8 : IntKind.i64.wrap (a * lenZ n * b - ((a * lenZ n * b - a * lenZ n) * minZ k c).tdiv c) = a * lenZ n * b - ((a * lenZ n * b - a * lenZ n) * minZ k c).tdiv c := wrap_i64 (by omega) (by omega)
    (refine And.intro ((show c ≠ 0 by simpa using h1)) ?_; (conv => whnf))
    refine fin_ii ?_ rfl
    show IntKind.i64.wrap (IntKind.i64.wrap (a * lenZ n * b) - IntKind.i64.wrap ((IntKind.i64.wrap (IntKind.i64.wrap (IntKind.i64.wrap (a * lenZ n * b) - a * lenZ n) * minZ k c)).tdiv c)) = _
    rw [e4, e5, e6, e7, e8]
    rfl
theorem dGrace (args) : DoesF ctx sLen (NN sLen) i10 args (gGrace args) := by
  unfold gGrace; split
  · exact wGrace _ _ _ _ _
  · trivial
noncomputable def sCtGrace : Sums ctx := addS 10 (pureF ctx gGrace) sLen
theorem vCtGrace : Valid Try.prog sCtGrace := addF_ok ctx_ok fns_ok vLen rfl dGrace

end Go.Proofs.Ytgplkdcibahofaa.Ev
