/-
  GraceRipens: whatever the input, it answers true, and the input reads as it did. No condition.
-/
import Derived.Test.YtgplkdcibahofaaCtRipens
import Derived.Test.YtgplkdcibahofaaEvOk
import Derived.Test.YtgplkdcibahofaaEvLaw
import Derived.Test.YtgplkdcibahofaaRows
import Derived.WalkKit
import Derived.ProofKit
import Derived.OpenShut
import Derived.ShutString
import Derived.ChangeOld
import Derived.Below
import Derived.SizedLaws
import Derived.Carry
namespace Go.Proofs.Ytgplkdcibahofaa.graceRipens
open Go Go.Proofs.Ytgplkdcibahofaa.Ev Go.ChangeShapes Go.WideShapes Go.ChangeAt Go.RowKit
set_option linter.unusedVariables false

theorem own : ownKnob Try.prog.godebug = none := by kernel_rfl
theorem laidOut : laidOutB Try.prog = true := by kernel_rfl

def okE : Nat → Bool
  | 3 => true
  | 39 => true
  | _ => false

theorem dec_all : ∀ k el cs, okE el = true → Shape ctx k el cs → ∃ x, ctx.dec el cs = some x := by
  intro k el cs he h
  unfold okE at he
  split at he
  · rcases k with _ | _ | _ | k <;> first
      | (rcases h with ⟨x, rfl, hx⟩; exact ⟨_, rfl⟩)
      | (rcases h with ⟨x, rfl, hx⟩; done)
      | cases h
  · rcases k with _ | _ | _ | k <;> first
      | (rcases h with ⟨_, _, rfl, ⟨x0, rfl, _⟩, ⟨_, _, rfl, ⟨x1, rfl, _⟩, ⟨_, _, rfl, ⟨x2, rfl, _⟩, ⟨_, _, rfl, ⟨x3, rfl, _⟩, rfl⟩⟩⟩⟩; exact ⟨_, rfl⟩)
      | (rcases h with ⟨_, _, rfl, ⟨x0, rfl, _⟩, _⟩; done)
      | cases h
      | (rcases h with ⟨_, _, rfl, h, _⟩; cases h; done)
  · cases he

set_option maxRecDepth 100000 in
theorem lifted (os : Os) (started : os.Started) (H : Type) (enc : TypeId × Value → H) :
    ReturnsInHanded {} Try.checked os 3 .any (Rows.graceRipensSpec.pre6 enc Try.prog Try.f3 Rows.graceRipensRow.domain false) (Rows.graceRipensSpec.post enc Try.prog Try.f3 false true false false) := by
  refine returnsInHanded_of_change_sized (C := Try.checked) own started (by kernel_rfl) Try.func3
    (ChangeSpec.witness6 (enc := enc) (C := Try.checked) false ⟨#[], #[.agg #[.slice none 0 0, .int .i64 0, .int .i64 0, .int .i64 0, .int .i64 0, .int .i64 0, .int .i64 0, .int .i64 0, .int .u64 0, .int .i64 0], .int .u8 0], []⟩ 8 (by kernel_rfl) (by kernel_rfl) (by kernel_rfl) (by kernel_rfl)) ?_
  intro W base args ds gs before hval0 hW hcnd hsz0 _
  have hval : ∀ (j : Nat) t v, Try.f3.params[j]? = some t → args[j]? = some v → Value.okWide Try.prog W .any base t v := hval0
  have hW' := hW
  obtain ⟨p, q, hA0, hV, rfl, hfz, hnd⟩ := hW
  have hA : DataW.TrodAll enc Try.prog W 0 (fun _ => true) true Try.f3.params.toList args.toList ds p := hA0
  rw [Try.params3] at hA hval
  obtain ⟨v0, vs0, d0, ds0, p0, q0, hargs, rfl, rfl, h0, r0⟩ := trodAll_cons hA
  obtain ⟨v1, vs1, d1, ds1, p1, q1, rfl, rfl, rfl, h1, r1⟩ := trodAll_cons r0
  obtain ⟨rfl, rfl, rfl⟩ := trodAll_nil r1
  obtain rfl : args = #[v0, v1] := by cases args; simp_all
  obtain ⟨rfl, rfl⟩ := trodVars_none hV
  obtain ⟨a0, s0, e0⟩ := arg_told (e := noE) ctx_ok dec_all (hval 0 27 v0 rfl rfl) h0 (k := 6) (by kernel_rfl)
  obtain ⟨a1, s1, e1⟩ := arg_told (e := noE) ctx_ok dec_all (hval 1 5 v1 rfl rfl) h1 (k := 6) (by kernel_rfl)
  rcases s0 with ⟨_, _, rfl, ⟨l, rfl, _, _⟩, ⟨_, _, rfl, ⟨_, _, rfl, ⟨a, rfl, _⟩, ⟨_, _, rfl, ⟨b, rfl, _⟩, ⟨_, _, rfl, ⟨c, rfl, _⟩, rfl⟩⟩⟩, ⟨_, _, rfl, ⟨n, rfl, _⟩, ⟨_, _, rfl, ⟨k, rfl, _⟩, ⟨_, _, rfl, ⟨who, rfl, _⟩, ⟨_, _, rfl, ⟨bye, rfl, _⟩, ⟨_, _, rfl, ⟨inc, rfl, _⟩, ⟨_, _, rfl, ⟨now, rfl, _⟩, rfl⟩⟩⟩⟩⟩⟩⟩⟩
  rcases s1 with ⟨more, rfl, hm⟩
  have hm' : 0 ≤ more ∧ more ≤ 255 := by
    simp [Lit.wf, IntKind.min, IntKind.max, IntKind.signed, IntKind.bits] at hm
    omega
  have lt0 : ∀ x ∈ p0, x.block < W.heap.size := by obtain ⟨m, hm⟩ := h0; exact DataW.trod_lt m _ _ _ hm
  have lt1 : ∀ x ∈ p1, x.block < W.heap.size := by obtain ⟨m, hm⟩ := h1; exact DataW.trod_lt m _ _ _ hm
  clear hA0 hval0 hsz0
  refine (law_calls ctx_ok vCtGrace5 fns_ok (d := 6) (f := 3) rfl (vs := [v0, v1]) (RVs.cons.mpr ⟨e0, RVs.cons.mpr ⟨e1, rfl, fun i c hi => by simp at hi⟩⟩) (wRipens l a b c n k who bye inc now more hm')).mono fun e W' ⟨he, bel⟩ => ?_
  subst he
  exact ⟨_, rfl, _, _, _, [], _, [], hW', trodAll_mk1 (shut_bool Try.underlying4 _),
    trodAll_cons_mk (Below.trod laidOut (by kernel_rfl) (of_decide_eq_true (by kernel_rfl)) h0 bel lt0) (trodAll_cons_mk (Below.trod laidOut (by kernel_rfl) (of_decide_eq_true (by kernel_rfl)) h1 bel lt1) trodAll_mk0), rfl, bel.frame _, fun h => by cases h⟩

theorem over : Rows.graceRipensRow.holds Try.pinned (OpenSpec.ofChange Rows.graceRipensSpec) :=
  OpenClaim.holds_of_wide 3 Try.f3 rfl rfl rfl rfl rfl rfl rfl ⟨rfl, rfl, rfl, rfl, rfl⟩ rfl rfl rfl rfl rfl (by kernel_rfl) Try.func3 (by kernel_rfl)
    (of_decide_eq_true (by kernel_rfl)) (by unfold Func.isWrapper; first | (rw [if_pos (by decide +kernel)]; kernel_rfl) | (rw [if_neg (by decide +kernel)]; exact ⟨rfl, rfl⟩))
    (fun os started H enc _ => lifted os started H enc)
theorem proved : Rows.GraceRipensSaid := over
#print axioms proved
end Go.Proofs.Ytgplkdcibahofaa.graceRipens
namespace Go.Proofs.Ytgplkdcibahofaa
/-- The row, under a short name, for the claim. -/
theorem graceRipens_holds : Rows.GraceRipensSaid := graceRipens.proved
end Go.Proofs.Ytgplkdcibahofaa
