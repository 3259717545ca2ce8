/-
  Each operation of the evaluator does what the machine's does: tests, places, slices, literals. No program is named here.
-/
import Derived.Test.YtgplkdcibahofaaEvOps2
namespace Go.Proofs.Ytgplkdcibahofaa.Ev
open Go

section
variable {C : Ctx} {P : Program} {e : Env} {F X : FH} {h : List (Blk C.E)} {w : World} {sl : Tr C.E} {a : Act} {o : Oper}

theorem opBin_ok (hC : Ok C P) {op : BinOp} {t : Nat} {x y : Operand} {ax ay : AV C.E} {u v : Value} (hx : RV C e F ax u) (hy : RV C e F ay v) :
    VOk P w e F (do eqGuard op t x y u v; Go.binOp op t u v) (opBin C op t ax ay) := by
  unfold opBin
  split
  · rename_i k m k' m'
    obtain rfl := hx.int_inv
    obtain rfl := hy.int_inv
    refine opBin_simple (fun _ => by simp) (by simp) ?_
    split
    · intro hp
      have : ¬ m' < 0 := by omega
      exact ⟨_, by simp [Go.binOp, Op.shift, this], .int _ _⟩
    · intro hp
      have : ¬ m' < 0 := by omega
      exact ⟨_, by simp [Go.binOp, Op.shift, this], .int _ _⟩
    · rename_i h1 h2
      split
      · rename_i hk; subst hk
        exact intOp_ok h1 h2
      · trivial
  · obtain rfl := hx.str_inv
    obtain rfl := hy.str_inv
    exact opBin_simple (fun _ => by simp) (by simp) strOp_ok
  · obtain rfl := hx.bool_inv
    obtain rfl := hy.bool_inv
    split
    · rename_i ty hty
      obtain ⟨i, z, _, _, _, _, _, hu⟩ := ty_info hC hty
      split
      · rename_i hk
        rw [hk] at hu
        simp only [undOk] at hu
        split at hu
        · rename_i hg
          refine opBin_simple (fun _ => by simp) (by simp) ⟨_, by simp [Go.binOp, Op.equal, Op.maxDepth, run_equalIn_bool' w _ t _ _ hg], .bool _⟩
        · cases hu
      · rename_i hk
        rw [hk] at hu
        simp only [undOk] at hu
        split at hu
        · rename_i hg
          refine opBin_simple (fun _ => by simp) (by simp) ⟨_, by simp [Go.binOp, Op.equal, Op.maxDepth, run_equalIn_bool' w _ t _ _ hg], .bool _⟩
        · cases hu
      · trivial
    · trivial
  · rename_i ca cb
    have key : ∀ n r, Ev.isAgg C t = some (true, n) → eqV C 8 t ca cb = some r → (eqGuard op t x y u v).run P w = .ok () w ∧ ∃ vs vs', u = .agg vs ∧ v = .agg vs' ∧ (Op.equalIn 10000 t (.agg vs) (.agg vs')).run P w = .ok r w := by
      intro n r hag hr
      cases hx with
      | agg _ vs hs h1 h2 => cases hy with
        | agg _ vs' hs' h1' h2' =>
          have hval := eqV_ok (e := e) (F := F) (w := w) hC 8 t ca cb r 10000 (.agg vs) (.agg vs') hr (by omega) (by unfold Val; rw [hag]; exact ⟨vs, rfl, hs, h1, h2⟩) (by unfold Val; rw [hag]; exact ⟨vs', rfl, hs', h1', h2'⟩)
          refine ⟨run_eqGuard_agg w op t x y vs vs' ?_, vs, vs', rfl, rfl, hval⟩
          have hty : ∃ ty, C.ty t = some ty := by
            unfold Ev.isAgg at hag
            split at hag
            · rename_i ty hty; exact ⟨ty, hty⟩
            · cases hag
          obtain ⟨ty, hty⟩ := hty
          cases hk : ty.k with
          | struct fs => exact (fieldsOf_ok hC hty hk).2.2.1
          | _ => unfold eqV at hr; simp [hty, hk, Ev.isAgg] at hr hag
    split
    · rename_i n r hag hr
      obtain ⟨h1, vs, vs', rfl, rfl, h2⟩ := key n r hag hr
      exact ⟨_, by simp [h1, run_eql_struct, h2], .bool _⟩
    · rename_i n r hag hr
      obtain ⟨h1, vs, vs', rfl, rfl, h2⟩ := key n r hag hr
      exact ⟨_, by simp [h1, run_neq_struct, h2], .bool _⟩
    · trivial
  · trivial


/-! places -/
theorem fieldOf_ok (hC : Ok C P) {t f off t' : Nat} (hf : fieldOf C t f = some (off, t')) : ∃ g, P.underlying t = some (.struct (P.fieldsOf t)) ∧ (P.fieldsOf t)[f]? = some g ∧ g.offset = off ∧ g.type = t' ∧ (∃ i, P.info? g.type = some i ∧ i.size ≠ 0) := by
  unfold fieldOf at hf
  split at hf
  · rename_i ty hty
    split at hf
    · rename_i fs hk
      obtain ⟨hg, hfs, _, _, hpos⟩ := fieldsOf_ok hC hty hk
      split at hf
      · rename_i o1 t1 nm hfi
        simp at hf; obtain ⟨rfl, rfl⟩ := hf
        rw [← hfs, List.getElem?_map] at hfi
        cases hgf : (P.fieldsOf t).toList[f]? with
        | none => simp [hgf] at hfi
        | some g =>
          simp [hgf] at hfi
          exact ⟨g, hg, by simpa using hgf, hfi.1, hfi.2.1, hpos g (List.mem_of_getElem? hgf)⟩
      · cases hf
    · cases hf
  · cases hf

theorem fieldPlace_ok {g : Field} {b off : Nat} (hp : ∃ i, P.info? g.type = some i ∧ i.size ≠ 0) : (fieldPlace ⟨b, off, none⟩ g).run P w = .ok ⟨b, off + g.offset, none⟩ w := by
  obtain ⟨i, hi, h0⟩ := hp
  simp [fieldPlace, sizeOf, run_typeInfo w hi, h0, add_off]

theorem fieldAddr_ok (hC : Ok C P) {t f off t' : Nat} (hf : fieldOf C t f = some (off, t')) {p : AV C.E} {rp : Value} (hp : RV C e F p rp) :
    VOk P w e F (Instr.fieldAt t rp f) (match p with
      | .ptr id o => .val (.ptr id (o + off))
      | .eptr t id i o => .val (.eptr t id i (o + off))
      | .rptr t x o => .val (.rptr t x (o + off))
      | _ => .no) := by
  obtain ⟨g, hg, hgf, rfl, _, hpos⟩ := fieldOf_ok hC hf
  have key : ∀ b o, (Instr.fieldAt t (.pointer (some ⟨b, o, none⟩)) f).run P w = .ok (.pointer (some ⟨b, o + g.offset, none⟩)) w := by
    intro b o
    simp [Instr.fieldAt, run_underlying hg, hgf, Instr.sureAddr, fieldPlace_ok hpos]
  cases hp with
  | ptr id o hid => exact ⟨_, key _ _, .ptr id _ hid⟩
  | eptr t2 id i o hid hlen => exact ⟨_, by rw [key, Nat.add_assoc], .eptr t2 id i _ hid hlen⟩
  | rptr t2 x o b o2 vs h1 h2 => exact ⟨_, by rw [key, Nat.add_assoc], .rptr t2 x _ b o2 vs h1 h2⟩
  | _ => trivial

end
end Go.Proofs.Ytgplkdcibahofaa.Ev
