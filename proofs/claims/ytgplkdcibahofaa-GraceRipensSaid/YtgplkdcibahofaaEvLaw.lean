/-
  A law's call: what is handed in, as the evaluator's values; what comes of it; what lay in memory stays. No program is named here.
-/
import Derived.Test.YtgplkdcibahofaaEvRead
import Derived.Test.YtgplkdcibahofaaEvLib
import Derived.Below
import Derived.WideShapes
namespace Go.Proofs.Ytgplkdcibahofaa.Ev
open Go Go.RowKit

section
variable {C : Ctx} {P : Program}

def argV (C : Ctx) (t : Nat) (avs : List (AV C.E)) : AV C.E := match C.ty t with
  | some ty => match ty.k with
    | .struct _ => .agg avs
    | _ => avs.headD .top
  | none => .top

theorem told_head {e : Env} {F : FH} {avs : List (AV C.E)} {v : Value} {b : AV C.E} (hb : avs = [b]) (h : Told e F avs [v]) : RV C e F (avs.headD .top) v := by
  subst hb
  exact (h.2 0 b rfl).2

theorem arg_told (hC : Ok C P) {okE : Nat → Bool} (hdec : ∀ k el cs, okE el = true → Shape C k el cs → ∃ x, C.dec el cs = some x) {H : Type} {enc : TypeId × Value → H} {W : World} {e : Env} {t base : Nat} {v : Value} {d : DataW H} {ps : List MemPlace}
    (hv : Value.okWide P W .any base t v) (hT : DataW.Trod enc P W 0 (fun _ => true) true t v d ps) {k : Nat} (hk : dataTy C okE k t = true) : ∃ avs, Shape C k t avs ∧ RV C e (World.all W) (argV C t avs) v := by
  obtain ⟨fuel, hf⟩ := hT
  obtain ⟨avs, h1, h2⟩ := read_ok hC hdec (e := e) fuel t _ _ hf k hk
  refine ⟨avs, h2, ?_⟩
  cases k with
  | zero => cases hk
  | succ k =>
    unfold dataTy at hk
    unfold Shape at h2
    unfold argV
    split at hk
    · rename_i ty hty
      obtain ⟨_, _, _, _, _, _, _, hu⟩ := ty_info hC hty
      rw [hty] at h2 ⊢
      simp only at h2 ⊢
      have one : ∀ (b : AV C.E), avs = [b] → v.cells = #[v] → RV C e (World.all W) (avs.headD .top) v := fun b hb hc => by
        rw [hc] at h1
        exact told_head hb h1
      split at hk
      · rename_i hkk
        rw [hkk] at hu h2 ⊢
        simp only [undOk] at hu
        split at hu
        · rename_i hu'
          obtain ⟨b, rfl⟩ := WideShapes.okWide_bool hu' hv
          obtain ⟨b', hb⟩ := h2
          exact one _ hb rfl
        · cases hu
      · rename_i ik hkk
        rw [hkk] at hu h2 ⊢
        simp only [undOk] at hu
        split at hu
        · rename_i k' hu'
          obtain ⟨b, rfl⟩ := WideShapes.okWide_int hu' hv
          obtain ⟨b', hb, _⟩ := h2
          exact one _ hb rfl
        · cases hu
      · rename_i hkk
        rw [hkk] at hu h2 ⊢
        simp only [undOk] at hu
        split at hu
        · rename_i hu'
          obtain ⟨b, rfl⟩ := WideShapes.okWide_string hu' hv
          obtain ⟨b', hb, _⟩ := h2
          exact one _ hb rfl
        · cases hu
      · rename_i el hkk
        rw [hkk] at hu h2 ⊢
        simp only [undOk] at hu
        split at hu
        · rename_i e' hu'
          obtain ⟨a, len, cap, rfl⟩ := WideShapes.okWide_slice hu' hv
          obtain ⟨b', hb, _⟩ := h2
          exact one _ hb rfl
        · cases hu
      · rename_i fs hkk
        rw [hkk] at hu ⊢
        simp only [undOk] at hu
        split at hu
        · rename_i gs hu'
          obtain ⟨cs, rfl, _⟩ := WideShapes.okWide_struct hu' hv
          obtain ⟨g1, g2⟩ := h1
          refine .agg avs cs (by simpa [Value.cells] using g1.symm) (fun i c hi => plain_one (g2 i c hi).1) (fun i c hi => ?_)
          have := (g2 i c hi).2
          rwa [getD_toList] at this
        · cases hu
      · cases hk
    · cases hk

def noE : Env := ⟨0, fun _ => 0, fun _ => 0, fun _ => 0⟩

theorem law_calls (hC : Ok C P) {S : Sums C} (hS : Valid P S) {T : Nat → Option (FnI C.E)} (hT : FnsOk P T) {d : Nat} {f : Nat} {i : FnI C.E} (hi : T f = some i) {W : World} {args : List (AV C.E)} {vs : List Value}
    (hv : RVs noE (World.all W) args vs) (hg : Gets C S (callF C T S d) i args (.bool true)) : Calls P f vs.toArray W fun en w' => en = .returned (.bool true) ∧ Below W.heap.size W w' := by
  obtain ⟨h1, h2, h3⟩ := hT f i hi
  have H0 : RH (C := C) noE (World.all W) (fun _ => none) [] W := by
    refine ⟨rfl, fun b o hb => hb, fun b o hb => (by cases hb), fun b o hb => (by cases hb), fun i b hb => (by simp at hb), fun i j _ hi => ?_, fun i hi => ?_⟩
    · have := lt_of_live hi; simp at this
    · have := lt_of_live hi; simp at this
  obtain ⟨_, hk⟩ := hg
  rw [bodyF_eq] at hk
  refine Calls.mono (body_ok hC hS (callF_eq C T S d ▸ call_ok hC hS hT d) h1 h3 hk H0 hv) fun en w' hh => ?_
  cases en with
  | returned rv =>
    obtain ⟨v, h', ⟨e', F', g1, g2, g3, g4, g5⟩, h'', hz⟩ := hh
    obtain ⟨F2, _, _, m3⟩ := frzR_ok hC g4 hz g3
    cases m3
    refine ⟨rfl, g5.os, g5.tape, g5.output, g5.size, fun k hk => ?_⟩
    have : W.heap[k]? = some W.heap[k] := Array.getElem?_eq_getElem hk
    rw [this]
    exact g4.fro k _ (g2.le k _ this)
  | panicked _ => exact hh.elim
  | outgrown => exact hh.elim

end
end Go.Proofs.Ytgplkdcibahofaa.Ev
