/-
  The seat's table of types is the program's. The same text for every seat.
-/
import Derived.Test.YtgplkdcibahofaaEvSound
import Derived.Test.YtgplkdcibahofaaEvCtx
import Derived.Test.YtgplkdcibahofaaRows
namespace Go.Proofs.Ytgplkdcibahofaa.Ev
open Go

theorem ty_ok (t : Nat) (ty : Ty E) (h : tyTab t = some ty) : tyOk (C := ctx) Try.prog t ty = true := by
  unfold tyTab at h
  split at h <;> first | (cases h; kernel_rfl) | cases h

theorem dec_ok (t : Nat) (cs : List (AV E)) (x : E t) (h : dec t cs = some x) : enc t x = cs := by
  unfold dec at h
  split at h <;> first | (cases h; rfl) | cases h

theorem enc_ok (t : Nat) (x : E t) : (enc t x).all AV.plain = true := by
  unfold enc
  split <;> rfl

theorem len_ok' (t : Nat) (x : E t) : Nat.ble (enc t x).length (ctx.size t) = true := by
  unfold enc
  split <;> first | rfl | exact Nat.ble_eq_true_of_le (Nat.zero_le _)

theorem len2_ok (t : Nat) (x y : E t) : (enc t x).length = (enc t y).length := by
  unfold enc
  split <;> first | rfl | (split <;> first | rfl | simp_all)

theorem ofs_ok (t : Nat) (l : List Int) (xs : List (E t)) (h : ofInts t l = some xs) : xs.length = l.length ∧ ∀ (i : Nat) (n : Int), l[i]? = some n → ∃ x, xs[i]? = some x ∧ enc t x = [.int .u8 n] := by
  unfold ofInts at h
  split at h <;> first | (cases h; exact ⟨rfl, fun i n hi => ⟨n, hi, rfl⟩⟩) | cases h

theorem tos_ok (t : Nat) (xs : List (E t)) (l : List Int) (h : toInts t xs = some l) : l.length = xs.length ∧ ∀ (i : Nat) (x : E t), xs[i]? = some x → ∃ n, l[i]? = some n ∧ enc t x = [.int .u8 n] := by
  unfold toInts at h
  split at h <;> first | (cases h; exact ⟨rfl, fun i n hi => ⟨n, hi, rfl⟩⟩) | cases h

theorem z_ok (t : Nat) (ty : Ty E) (h : tyTab t = some ty) : enc t (z t) = [] ∨ (isArr ty.k = false ∧ zsSame (enc t (z t)) ty.zero = true) := by
  unfold tyTab at h
  split at h <;> first | (cases h; exact .inl rfl) | (cases h; exact .inr ⟨rfl, rfl⟩) | cases h

theorem arr_ok (t n el : Nat) (ty ety : Ty E) (h : tyTab t = some ty) (hk : ty.k = .array n el) (he : tyTab el = some ety) : isArr ety.k = false ∧ ty.zero = (List.replicate n ety.zero).flatten := by
  unfold tyTab at h
  split at h <;> first | (cases h; cases hk; done) | (cases h; cases hk; cases he; exact ⟨rfl, rfl⟩) | cases h

theorem ctx_ok : Ok ctx Try.prog where
  ty := ty_ok
  dec := dec_ok
  enc := fun t x c h => List.all_eq_true.mp (enc_ok t x) c h
  len := fun t x => Nat.le_of_ble_eq_true (len_ok' t x)
  len2 := fun t x => len2_ok t x _
  ofs := ofs_ok
  tos := tos_ok
  z := z_ok
  arr := arr_ok
  orders := by kernel_rfl

def bodyOk (fn : Func) : Bool := match fn.body with
  | some c => dstsOk fn.ntmps c
  | none => true

theorem fns_row {f : Nat} {i : FnI E} (h1 : Try.prog.funcs[f]? = some i.fn) (h2 : fnOk Try.prog f = true) (h3 : bodyOk i.fn = true) : Try.prog.funcs[f]? = some i.fn ∧ fnOk Try.prog f = true ∧ ∀ c, i.fn.body = some c → dstsOk i.fn.ntmps c = true :=
  ⟨h1, h2, fun c hc => by unfold bodyOk at h3; rw [hc] at h3; exact h3⟩

theorem fns_ok : FnsOk (C := ctx) Try.prog fnTab := by
  intro f i h
  unfold fnTab at h
  split at h <;> first | (cases h; exact fns_row (by kernel_rfl) (by kernel_rfl) (by kernel_rfl)) | cases h

end Go.Proofs.Ytgplkdcibahofaa.Ev
