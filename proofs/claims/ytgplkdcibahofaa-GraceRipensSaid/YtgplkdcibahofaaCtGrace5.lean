/-
  The chapter's examples come out (law's function awake).
-/
import Derived.Test.YtgplkdcibahofaaCtGrace4
import Derived.Test.YtgplkdcibahofaaEvOk
namespace Go.Proofs.Ytgplkdcibahofaa.Ev
open Go
set_option linter.unusedVariables false
set_option maxRecDepth 100000

theorem slim_nil : slimB [] := ⟨by decide, fun i => by simp [d0]⟩
theorem slim_one {a b c : Int} {k : List Int} (h : k.length ≤ big) : slimB [⟨a, b, c, k⟩] := ⟨by show 1 ≤ 4294967296; decide, fun i => by
  cases i with
  | zero => exact h
  | succ i => simp [d0]⟩

theorem wAwake : Gets ctx sCtGrace4 (NN sCtGrace4) i8 [] (.bool true) := by
  refine ⟨rfl, ?_⟩
  (conv => whnf)
  iterate 100 (try first
    | (refine Exists.intro (9 : Nat) ?_; (conv => whnf))
    | (refine And.intro slim_nil ?_; (conv => whnf))
    | (refine And.intro (slim_one (by decide)) ?_; (conv => whnf))
    | (refine And.intro (by decide) ?_; (conv => whnf))
    | (refine And.intro (Nat.le_of_ble_eq_true rfl) ?_; (conv => whnf))
    | (refine go_any ?_; (conv => whnf)))
  exact fin_b rfl
def gAwake : List (V ctx) → OpR E
  | [] => .val (.bool true)
  | _ => .no
theorem dAwake (args) : DoesF ctx sCtGrace4 (NN sCtGrace4) i8 args (gAwake args) := by
  unfold gAwake; split
  · exact wAwake
  · trivial
noncomputable def sCtGrace5 : Sums ctx := addS 8 (pureF ctx gAwake) sCtGrace4
theorem vCtGrace5 : Valid Try.prog sCtGrace5 := addF_ok ctx_ok fns_ok vCtGrace4 rfl dAwake

end Go.Proofs.Ytgplkdcibahofaa.Ev
