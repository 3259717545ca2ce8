/-
  Each operation of the evaluator does what the machine's does: numbers, texts, tests, fields, literals. No program is named here.
-/
import Derived.Test.YtgplkdcibahofaaEvOps
namespace Go.Proofs.Ytgplkdcibahofaa.Ev
open Go

section
variable {C : Ctx} {P : Program} {e : Env} {F X : FH} {h : List (Blk C.E)} {w : World} {sl : Tr C.E} {a : Act} {o : Oper}

/-- a value that something comes to, the world as it was -/
def VOk (P : Program) (w : World) (e : Env) (F : FH) (m : Sem Value) : OpR C.E → Prop
  | .no => True
  | .val v => ∃ rv, m.run P w = .ok rv w ∧ RV C e F v rv
  | .chk p v => p → ∃ rv, m.run P w = .ok rv w ∧ RV C e F v rv
  | .anyB p => ∃ b, p b ∧ m.run P w = .ok (.bool b) w
  | _ => False

theorem VOk.sound (H : RH e F X h w) {m : Sem Value} (hm : execOp a.eval o = (do pure (.value (← m)))) {r : OpR C.E} (h1 : VOk P w e F m r) : Sound P o a w e F X h r := by
  cases r with
  | no => trivial
  | val v =>
    obtain ⟨rv, h2, h3⟩ := h1
    exact gives_value (rv := rv) (w' := w) (by rw [hm]; simp [h2]) (post_val H h3)
  | chk p v =>
    intro hp
    obtain ⟨rv, h2, h3⟩ := h1 hp
    exact gives_value (rv := rv) (w' := w) (by rw [hm]; simp [h2]) (post_val H h3)
  | mem v h' => exact h1.elim
  | chm p v h' => exact h1.elim
  | anyB p =>
    obtain ⟨b, h2, h3⟩ := h1
    exact gives_value (rv := .bool b) (w' := w) (by rw [hm]; simp [h3]) ⟨b, h2, post_val H (.bool b)⟩

theorem intOp_ok {k : IntKind} {x y : Int} {op : BinOp} {t : Nat} (hs : op ≠ .shl) (hs' : op ≠ .shr) : VOk (C := C) P w e F (Go.binOp op t (.int k x) (.int k y)) (intOp op k x y) := by
  cases op <;> simp only [intOp, VOk] <;> first
    | trivial
    | (exact ⟨_, by simp only [Go.binOp, ne_eq, not_true_eq_false, if_false, Op.intArith]; rfl, .int _ _⟩)
    | (exact ⟨_, by simp only [Go.binOp, ne_eq, not_true_eq_false, if_false, Op.intCmp]; rfl, .bool _⟩)
    | (exact ⟨_, by simp only [Go.binOp, ne_eq, not_true_eq_false, if_false]; rfl, .int _ _⟩)
    | (intro hp; exact ⟨_, by simp [Go.binOp, Op.intDiv, hp], .int _ _⟩)

theorem strOp_ok {x y : ByteArray} {op : BinOp} {t : Nat} : VOk (C := C) P w e F (Go.binOp op t (.string x) (.string y)) (strOp op x y) := by
  cases op <;> simp only [strOp, VOk] <;> first
    | trivial
    | (exact ⟨_, by simp [Go.binOp, Op.stringOp], .bool _⟩)
    | skip
  intro hp
  have : ¬ (9223372036854775807 < (x.size : Int) + (y.size : Int)) := by simp at hp; omega
  exact ⟨_, by simp [Go.binOp, Op.stringOp, IntKind.max, IntKind.signed, IntKind.bits, this], .str _⟩

theorem eqGuard_plain {op : BinOp} {t : Nat} {x y : Operand} {u v : Value} (h1 : ∀ cs, u ≠ .agg cs) (h2 : u ≠ .nilIface) : (eqGuard op t x y u v).run P w = .ok () w := by
  cases op <;> first
    | rfl
    | (cases u <;> first | exact absurd rfl h2 | exact absurd rfl (h1 _) | rfl)

theorem opBin_simple {op : BinOp} {t : Nat} {x y : Operand} {u v : Value} {r : OpR C.E} (h1 : ∀ cs, u ≠ .agg cs) (h2 : u ≠ .nilIface) (h : VOk P w e F (Go.binOp op t u v) r) :
    VOk P w e F (do eqGuard op t x y u v; Go.binOp op t u v) r := by
  cases r with
  | no => trivial
  | val z =>
    obtain ⟨rv, h3, h4⟩ := h
    exact ⟨rv, by simp [eqGuard_plain h1 h2, h3], h4⟩
  | chk p z =>
    intro hp
    obtain ⟨rv, h3, h4⟩ := h hp
    exact ⟨rv, by simp [eqGuard_plain h1 h2, h3], h4⟩
  | mem v h' => exact h.elim
  | chm p v h' => exact h.elim
  | anyB p =>
    obtain ⟨b, h3, h4⟩ := h
    exact ⟨b, h3, by simp [eqGuard_plain h1 h2, h4]⟩


/-- a value out of its cells -/
def Val (C : Ctx) (e : Env) (F : FH) (t : Nat) (cs : List (AV C.E)) (v : Value) : Prop := match Ev.isAgg C t with
  | some (true, _) => ∃ vs, v = .agg vs ∧ vs.size = cs.length ∧ (∀ (i : Nat) (c : AV C.E), cs[i]? = some c → AV.one c = true) ∧ ∀ (i : Nat) (c : AV C.E), cs[i]? = some c → RV C e F c (vs.getD i undef)
  | some (false, _) => ∃ c, cs = [c] ∧ RV C e F c v
  | none => False

theorem fieldsOf_ok (hC : Ok C P) {t : Nat} {ty : Ty C.E} (ht : C.ty t = some ty) {fs : List (Nat × Nat × Bool)} (hk : ty.k = .struct fs) :
    P.underlying t = some (.struct (P.fieldsOf t)) ∧ (P.fieldsOf t).toList.map (fun f => (f.offset, f.type, f.name != "_")) = fs ∧ P.eqGuardType P.depth t = false ∧ P.stoodInHeld t = false ∧
      ∀ f ∈ (P.fieldsOf t).toList, ∃ i, P.info? f.type = some i ∧ i.size ≠ 0 := by
  obtain ⟨i, z, _, _, _, _, _, hu⟩ := ty_info hC ht
  rw [hk] at hu
  simp only [undOk] at hu
  split at hu
  · rename_i gs hg
    simp only [Bool.and_eq_true, decide_eq_true_eq, Bool.not_eq_true', List.all_eq_true] at hu
    obtain ⟨⟨⟨h1, h2⟩, h3⟩, h4⟩ := hu
    have : P.fieldsOf t = gs := by simp [Program.fieldsOf, hg]
    rw [this]
    refine ⟨hg, h1, h2, h3, fun f hf => ?_⟩
    have := h4 f hf
    cases hi : P.info? f.type with
    | none => simp [hi] at this
    | some i => exact ⟨i, rfl, fun h0 => by simp [hi, h0] at this⟩
  · cases hu

theorem part_val (hC : Ok C P) {cs : List (AV C.E)} {vs : Array Value} (hs : vs.size = cs.length) (h1 : ∀ (i : Nat) (c : AV C.E), cs[i]? = some c → AV.one c = true)
    (h : ∀ (i : Nat) (c : AV C.E), cs[i]? = some c → RV C e F c (vs.getD i undef)) {t o n : Nat} {b : Bool} (ha : Ev.isAgg C t = some (b, n)) (hn : b = false → ∃ c, (cs.drop o).take n = [c]) :
    ∃ v, (part t vs o).run P w = .ok v w ∧ Val C e F t ((cs.drop o).take n) v := by
  obtain ⟨h2, h3, _⟩ := isAgg_ok hC ha w
  cases b with
  | true =>
    refine ⟨.agg (vs.extract o (o + n)), by simp [part, h2, h3], ?_⟩
    unfold Val
    rw [ha]
    refine ⟨_, rfl, by simp; omega, fun i c hi => ?_, fun i c hi => ?_⟩
    · have hin : i < n := by have := (List.getElem?_eq_some_iff.mp hi).1; simp at this; omega
      rw [List.getElem?_take_of_lt hin, List.getElem?_drop] at hi
      exact h1 _ c hi
    · have hin : i < n := by have := (List.getElem?_eq_some_iff.mp hi).1; simp at this; omega
      rw [List.getElem?_take_of_lt hin, List.getElem?_drop] at hi
      have := h _ c hi
      have hlt : o + i < vs.size := by rw [hs]; exact (List.getElem?_eq_some_iff.mp hi).1
      have hlt2 : i < min (o + n) vs.size - o := by omega
      simpa [Array.getD_eq_getD_getElem?, hlt, hlt2, hin] using this
  | false =>
    obtain ⟨c, hc⟩ := hn rfl
    have hoc : cs[o]? = some c := by
      have : ((cs.drop o).take n)[0]? = some c := by rw [hc]; rfl
      have hn0 : 0 < n := by
        rcases Nat.eq_zero_or_pos n with h | h
        · subst h; simp at hc
        · exact h
      rw [List.getElem?_take_of_lt hn0, List.getElem?_drop] at this
      simpa using this
    have hlt : o < vs.size := by rw [hs]; exact (List.getElem?_eq_some_iff.mp hoc).1
    refine ⟨vs[o], by simp [part, h2, hlt], ?_⟩
    unfold Val
    rw [ha]
    exact ⟨c, hc, by simpa [hlt] using h o c hoc⟩

theorem eqV_ok (hC : Ok C P) : ∀ (d t : Nat) (xs ys : List (AV C.E)) (r : Bool) (D : Nat) (x y : Value), eqV C d t xs ys = some r → d ≤ D → Val C e F t xs x → Val C e F t ys y →
    (Op.equalIn D t x y).run P w = .ok r w
  | 0, _, _, _, _, _, _, _, h, _, _, _ => by simp [eqV] at h
  | d + 1, t, xs, ys, r, 0, x, y, h, hd, _, _ => by omega
  | d + 1, t, xs, ys, r, D + 1, x, y, h, hd, hx, hy => by
    unfold eqV at h
    split at h
    · rename_i ty hty
      obtain ⟨i, z, _, _, _, _, _, hu⟩ := ty_info hC hty
      split at h
      · rename_i hk
        have hag : Ev.isAgg C t = some (false, ty.size) := by simp [Ev.isAgg, hty, hk]
        simp only [Val, hag] at hx hy
        obtain ⟨cx, rfl, hcx⟩ := hx
        obtain ⟨cy, rfl, hcy⟩ := hy
        split at h
        · rename_i u v hu1 hu2
          simp at hu1 hu2 h
          subst hu1; subst hu2; subst h
          cases hcx; cases hcy
          rw [hk] at hu; simp only [undOk] at hu
          split at hu
          · rename_i hg; exact run_equalIn_bool' w D t _ _ hg
          · cases hu
        · cases h
      · rename_i k hk
        have hag : Ev.isAgg C t = some (false, ty.size) := by simp [Ev.isAgg, hty, hk]
        simp only [Val, hag] at hx hy
        obtain ⟨cx, rfl, hcx⟩ := hx
        obtain ⟨cy, rfl, hcy⟩ := hy
        split at h
        · rename_i k1 u k2 v e1 e2
          simp at e1 e2
          subst e1; subst e2
          split at h
          · rename_i hkk
            subst hkk
            simp at h; subst h
            cases hcx; cases hcy
            rw [hk] at hu; simp only [undOk] at hu
            split at hu
            · rename_i hg; exact run_equalIn_int w D t _ _ _ _ hg
            · cases hu
          · cases h
        · cases h
      · rename_i hk
        have hag : Ev.isAgg C t = some (false, ty.size) := by simp [Ev.isAgg, hty, hk]
        simp only [Val, hag] at hx hy
        obtain ⟨cx, rfl, hcx⟩ := hx
        obtain ⟨cy, rfl, hcy⟩ := hy
        split at h
        · rename_i u v hu1 hu2
          simp at hu1 hu2 h
          subst hu1; subst hu2; subst h
          cases hcx; cases hcy
          rw [hk] at hu; simp only [undOk] at hu
          split at hu
          · rename_i hg; exact run_equalIn_string w D t _ _ hg
          · cases hu
        · cases h
      · rename_i fs hk
        have hag : Ev.isAgg C t = some (true, ty.size) := by simp [Ev.isAgg, hty, hk]
        simp only [Val, hag] at hx hy
        obtain ⟨vx, rfl, hsx, h1x, hrx⟩ := hx
        obtain ⟨vy, rfl, hsy, h1y, hry⟩ := hy
        obtain ⟨hg, hfs, _, hst, hpos⟩ := fieldsOf_ok hC hty hk
        rw [run_equalIn_agg w D t vx vy hg hst]
        have main : ∀ (gs : List Field) (q : Bool), (∀ f ∈ gs, ∃ i, P.info? f.type = some i ∧ i.size ≠ 0) → eqV.fields C d (gs.map (fun f => (f.offset, f.type, f.name != "_"))) xs ys = some q →
            (Op.eqFields D vx vy gs).run P w = .ok q w := by
          intro gs
          induction gs with
          | nil => intro q _ hq; simp [eqV.fields] at hq; subst hq; rfl
          | cons f gs ih =>
            intro q hgs hq
            rw [List.map_cons] at hq
            unfold eqV.fields at hq
            split at hq
            · rename_i hnm
              have hnm' : f.name = "_" := by simpa using hnm
              simp only [Op.eqFields, hnm', ne_eq, not_true_eq_false, if_false]
              exact ih q (fun f hf => hgs f (List.mem_cons_of_mem _ hf)) hq
            · rename_i hnm
              have hnm' : ¬ f.name = "_" := by simpa using hnm
              split at hq
              · rename_i b n hb
                split at hq
                · rename_i r1 r2 he1 he2
                  simp at hq; subst hq
                  have single : ∀ (zs zs' : List (AV C.E)) (r : Bool), b = false → (eqV C d f.type zs zs' = some r ∨ eqV C d f.type zs' zs = some r) → ∃ c, zs = [c] := by
                    intro zs zs' r hbf hz
                    cases d with
                    | zero => simp [eqV] at hz
                    | succ d =>
                      have hag' : ∃ ty', C.ty f.type = some ty' := by
                        unfold Ev.isAgg at hb
                        split at hb
                        · rename_i ty' hty'; exact ⟨ty', hty'⟩
                        · cases hb
                      obtain ⟨ty', hty'⟩ := hag'
                      rcases hz with hz | hz <;> unfold eqV at hz <;> simp only [hty'] at hz
                      all_goals
                        split at hz
                        · split at hz
                          · rename_i h1 h2; first | exact ⟨_, h1⟩ | exact ⟨_, h2⟩ | exact ⟨_, rfl⟩
                          · cases hz
                        · split at hz
                          · first | exact ⟨_, rfl⟩ | (rename_i h1 h2; first | exact ⟨_, h1⟩ | exact ⟨_, h2⟩)
                          · cases hz
                        · split at hz
                          · rename_i h1 h2; first | exact ⟨_, h1⟩ | exact ⟨_, h2⟩ | exact ⟨_, rfl⟩
                          · cases hz
                        · rename_i hk'
                          rw [hbf] at hb; simp [Ev.isAgg, hty', hk'] at hb
                        · cases hz
                  obtain ⟨px, hpx, hvx⟩ := part_val (P := P) (w := w) hC hsx h1x hrx hb (fun hbf => single _ _ r1 hbf (.inl he1))
                  obtain ⟨py, hpy, hvy⟩ := part_val (P := P) (w := w) hC hsy h1y hry hb (fun hbf => single _ _ r1 hbf (.inr he1))
                  have hrec := eqV_ok hC d f.type _ _ r1 D px py he1 (by omega) hvx hvy
                  simp only [Op.eqFields, ne_eq, hnm', not_false_eq_true, if_true, Sem.run_bind, hpx, hpy, Result.andThen_ok, hrec]
                  cases r1 with
                  | false => simp
                  | true => simpa using ih r2 (fun f hf => hgs f (List.mem_cons_of_mem _ hf)) he2
                · cases hq
              · cases hq
        exact main _ r hpos (by rw [hfs]; exact h)
      · cases h
    · cases h

end
end Go.Proofs.Ytgplkdcibahofaa.Ev
