/-
  What the walks use: tables of summaries, branches, loops, whole numbers of 64 bits. No program is named here.
-/
import Derived.Test.YtgplkdcibahofaaEvFrame
namespace Go.Proofs.Ytgplkdcibahofaa.Ev
open Go

section
variable {C : Ctx} {P : Program}

/-- a table of summaries with one more -/
def addS (f : Nat) (s : List (V C) → H C → OpR C.E) (S : Sums C) : Sums C := fun k => match Nat.beq k f with
  | true => some s
  | false => S k

def noS : Sums C := fun _ => none

theorem noS_ok : Valid P (noS (C := C)) := fun _ _ h => by cases h

theorem addS_ok (hC : Ok C P) {T : Nat → Option (FnI C.E)} (hT : FnsOk P T) {S : Sums C} (hS : Valid P S) {f : Nat} {i : FnI C.E} (hi : T f = some i) {d : Nat}
    {g : List (AV C.E) → List (Blk C.E) → OpR C.E} (hg : ∀ args h, Does C S (callF C T S d) i args h (g args h)) (fz : Bool) : Valid P (addS f (frameS C fz g) S) := by
  intro k s hk
  unfold addS at hk
  split at hk
  · rename_i hb
    obtain rfl := Nat.eq_of_beq_eq_true hb
    cases hk
    obtain ⟨h1, h2, h3⟩ := hT k i hi
    exact frame_ok hC hS (callF_eq C T S d ▸ call_ok hC hS hT d) h1 h2 h3 hg fz
  · exact hS k s hk

theorem addF_ok (hC : Ok C P) {T : Nat → Option (FnI C.E)} (hT : FnsOk P T) {S : Sums C} (hS : Valid P S) {f : Nat} {i : FnI C.E} (hi : T f = some i) {d : Nat}
    {g : List (AV C.E) → OpR C.E} (hg : ∀ args, DoesF C S (callF C T S d) i args (g args)) : Valid P (addS f (pureF C g) S) := by
  intro k s hk
  unfold addS at hk
  split at hk
  · rename_i hb
    obtain rfl := Nat.eq_of_beq_eq_true hb
    cases hk
    obtain ⟨h1, h2, h3⟩ := hT k i hi
    exact pure_ok hC hS (callF_eq C T S d ▸ call_ok hC hS hT d) h1 h2 h3 hg
  · exact hS k s hk

/-- a summary that holds anyway -/
theorem addS_raw {S : Sums C} (hS : Valid P S) {f : Nat} {s : List (V C) → H C → OpR C.E} (hs : fnOk P f = true ∧
  ∀ (e : Env) (F X : FH) (h : List (Blk C.E)) (w : World) (args : List (AV C.E)) (vs : List Value), RH e F X h w → RVs e F args vs → SumR P f vs.toArray w e F X h (s args h)) : Valid P (addS f s S) := by
  intro k s' hk
  unfold addS at hk
  split at hk
  · rename_i hb
    obtain rfl := Nat.eq_of_beq_eq_true hb
    cases hk; exact hs
  · exact hS k s' hk

theorem br_intro {c : Bool} {A B : Prop} (h1 : c = true → A) (h2 : c = false → B) : br c A B := by
  cases c
  · exact h2 rfl
  · exact h1 rfl

theorem br_t {c : Bool} {A B : Prop} (h : c = true) (h1 : A) : br c A B := by subst h; exact h1
theorem br_f {c : Bool} {A B : Prop} (h : c = false) (h1 : B) : br c A B := by subst h; exact h1

/-- what is known is kept out of the way -/
structure Kept (p : Prop) : Prop where
  out : p

theorem iter_eq {a b c} {n : Nat} {sl sl' : R C} {h h' : H C} (hi : iterF C a b c n sl' h') (h1 : sl = sl') (h2 : h = h') : iterF C a b c n sl h := by subst h1; subst h2; exact hi

theorem loop_ind' {α : Type} (st : α → R C) (hp : α → H C) (I : α → Prop) (μ : α → Nat) {body : R C → H C → (Ex → R C → H C → Prop) → Prop} {cn : R C → H C → (R C → H C → Prop) → Prop} {K : Ex → R C → H C → Prop} (x0 : α) (h0 : I x0)
    (step : ∀ x n, I x → Kept (∀ y, I y → μ y < μ x → iterF C body cn K n (st y) (hp y)) → iterF C body cn K (n + 1) (st x) (hp x)) : ∃ n, iterF C body cn K n (st x0) (hp x0) :=
  loop_F C st hp I μ x0 h0 fun x n hI ih => step x n hI ⟨ih⟩

/-- .. from a state that is told otherwise -/
theorem loop_from {α : Type} (st : α → R C) (hp : α → H C) (I : α → Prop) (μ : α → Nat) {body : R C → H C → (Ex → R C → H C → Prop) → Prop} {cn : R C → H C → (R C → H C → Prop) → Prop} {K : Ex → R C → H C → Prop} (x0 : α) (h0 : I x0)
    {sl : R C} {h : H C} (e1 : sl = st x0) (e2 : h = hp x0)
    (step : ∀ x n, I x → Kept (∀ y, I y → μ y < μ x → iterF C body cn K n (st y) (hp y)) → iterF C body cn K (n + 1) (st x) (hp x)) : ∃ n, iterF C body cn K n sl h := by
  subst e1; subst e2
  exact loop_ind' st hp I μ x0 h0 step

theorem fin_b {h : H C} {b c : Bool} (e : b = c) : ∃ h'', frzR C h (.bool b) = some (.bool c, h'') := ⟨h, by rw [e]; rfl⟩
theorem fin_i {h : H C} {k : IntKind} {b c : Int} (e : b = c) : ∃ h'', frzR C h (.int k b) = some (.int k c, h'') := ⟨h, by rw [e]; rfl⟩
theorem fin_ii {h : H C} {k k' : IntKind} {b c b' c' : Int} (e : b = c) (e' : b' = c') : ∃ h'', frzR C h (.tuple [.int k b, .int k' b']) = some (.tuple [.int k c, .int k' c'], h'') := ⟨h, by rw [e, e']; rfl⟩
def trSlots {E : Nat → Type} : Tr E → (Nat → Nat) → List (Nat × AV E)
  | .lf, _ => []
  | .nd v l r, f => (match v with | .top => [] | v => [(f 0, v)]) ++ (trSlots l (fun j => f (2 * j + 1)) ++ trSlots r (fun j => f (2 * j + 2)))

def allB (n : Nat) (p : Nat → Bool) : Bool := (List.range n).all p
theorem allB_true {n : Nat} {p : Nat → Bool} : allB n p = true ↔ ∀ j, j < n → p j = true := by simp [allB, List.all_eq_true]
theorem allB_false {n j : Nat} {p : Nat → Bool} (hj : j < n) (hp : p j = false) : allB n p = false := by
  cases h : allB n p with
  | false => rfl
  | true => rw [allB_true.mp h j hj] at hp; cases hp

theorem not_t {b : Bool} (h : (!b) = true) : b = false := by simpa using h
theorem not_f {b : Bool} (h : (!b) = false) : b = true := by simpa using h
theorem lt_of {i n : Nat} (h : decide ((i : Int) < (n : Int)) = true) : i < n := by simpa using h
theorem ge_of {i n : Nat} (h : decide ((i : Int) < (n : Int)) = false) : n ≤ i := by simpa using h
theorem ne_of {a b : Nat} (h : ((a : Int) != (b : Int)) = true) : a ≠ b := by
  intro e; subst e; simp at h
theorem eq_of {a b : Nat} (h : ((a : Int) != (b : Int)) = false) : a = b := by
  have : (a : Int) = b := by simpa using h
  omega
theorem in_of {i n : Nat} (h : i < n) : 0 ≤ (i : Int) ∧ (i : Int) < (n : Int) := by omega

theorem wrap_i64 {n : Int} (h1 : -9223372036854775808 ≤ n) (h2 : n ≤ 9223372036854775807) : IntKind.i64.wrap n = n := by
  simp [IntKind.wrap, IntKind.bits, IntKind.signed]
  omega
theorem wrap_nat {n : Nat} (h : n ≤ 9223372036854775807) : IntKind.i64.wrap (n : Int) = n := wrap_i64 (by omega) (by omega)
theorem wrap_succ {n : Nat} (h : n < 9223372036854775807) : IntKind.i64.wrap ((n : Int) + 1) = ((n + 1 : Nat) : Int) := by rw [wrap_i64 (by omega) (by omega)]; rfl
theorem wrap_u64 {n : Int} (h1 : 0 ≤ n) (h2 : n ≤ 18446744073709551615) : IntKind.u64.wrap n = n := by
  simp [IntKind.wrap, IntKind.bits, IntKind.signed]
  omega
theorem wrap_u8 {n : Int} (h1 : 0 ≤ n) (h2 : n ≤ 255) : IntKind.u8.wrap n = n := by
  simp [IntKind.wrap, IntKind.bits, IntKind.signed]
  omega
theorem wrap_u32 {n : Int} (h1 : 0 ≤ n) (h2 : n ≤ 4294967295) : IntKind.u32.wrap n = n := by
  simp [IntKind.wrap, IntKind.bits, IntKind.signed]
  omega

end
end Go.Proofs.Ytgplkdcibahofaa.Ev
