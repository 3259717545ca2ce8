/-
  Each operation of the evaluator does what the machine's does: registers, numbers, texts, places. No program is named here.
-/
import Derived.Test.YtgplkdcibahofaaEvHeap
import Derived.Laws.StructEq
import Derived.ChangeKeysEq
import Derived.Deep.AppendSrc
import Derived.Laws.AppendOwn
namespace Go.Proofs.Ytgplkdcibahofaa.Ev
open Go

section
variable {C : Ctx} {P : Program}

/-- what comes of something, as the evaluator says it -/
def Post (e : Env) (F X : FH) (w : World) (v : AV C.E) (h' : List (Blk C.E)) (rv : Value) (w' : World) : Prop :=
  ∃ e' F', ELe e e' ∧ FLe F F' ∧ RV C e' F' v rv ∧ RH e' F' X h' w' ∧ Ext w w'

/-- an operation gives a value, whatever follows -/
def Gives (P : Program) (o : Oper) (a : Act) (w : World) (R : Value → World → Prop) : Prop :=
  ∀ next Q, (∀ rv w', R rv w' → next (a.put o.dst rv) w') → o.wp P a w next Q

def Sound (P : Program) (o : Oper) (a : Act) (w : World) (e : Env) (F X : FH) (h : List (Blk C.E)) : OpR C.E → Prop
  | .no => True
  | .val v => Gives P o a w (Post e F X w v h)
  | .chk p v => p → Gives P o a w (Post e F X w v h)
  | .mem v h' => Gives P o a w (Post e F X w v h')
  | .chm p v h' => p → Gives P o a w (Post e F X w v h')
  | .anyB p => Gives P o a w fun rv w' => ∃ b, p b ∧ Post e F X w (.bool b) h rv w'

structure RS (e : Env) (F : FH) (sl : Tr C.E) (a : Act) : Prop where
  reg : ∀ t, RV C e F (sl.get t) (a.tmps.getD t undef)
  def_ : a.defers = []

theorem gives_value {o : Oper} {a : Act} {w w' : World} {R : Value → World → Prop} {rv : Value} (hr : (execOp a.eval o).run P w = .ok (.value rv) w') (h : R rv w') : Gives P o a w R := by
  intro next Q hn
  unfold Oper.wp
  rw [hr, Oper.upon_value]
  exact hn _ _ h

theorem gives_skip {o : Oper} {a : Act} {w w' : World} {R : Value → World → Prop} (hr : (execOp a.eval o).run P w = .ok .skip w') (h : R undef w') : Gives P o a w R := by
  intro next Q hn
  unfold Oper.wp
  rw [hr, Oper.upon_skip]
  exact hn _ _ h

/-- a value that leaves the heap alone -/
theorem post_val {e : Env} {F X : FH} {h : List (Blk C.E)} {w : World} (H : RH e F X h w) {v : AV C.E} {rv : Value} (hv : RV C e F v rv) : Post e F X w v h rv w :=
  ⟨e, F, ELe.refl e, FLe.refl F, hv, H, Ext.refl w⟩

theorem ev_ok {e : Env} {F : FH} {sl : Tr C.E} {a : Act} (hs : RS e F sl a) (x : Operand) : RV C e F (ev C sl x) (a.eval x) := by
  cases x with
  | tmp t => exact hs.reg t
  | const v =>
    unfold ev Act.eval
    cases v <;> first
      | exact .bool _
      | exact .int _ _
      | exact .str _
      | exact .top _
      | exact .nilf
      | skip
    · rename_i p; cases p with
      | none => exact .nilp
      | some p => exact .top _
    · rename_i p; cases p with
      | none => exact .nilmap
      | some p => exact .top _
  | func f => exact .fn f [] [] #[] #[] rfl rfl (fun i c h => by simp at h) (fun i c h => by simp at h)
  | global g => exact .top _

theorem evT_ok {e : Env} {F : FH} {sl : Tr C.E} {a : Act} (hs : RS e F sl a) (t : Nat) (x : Operand) : RV C e F (evT C sl t x) (a.eval x) := by
  unfold evT
  split
  · split
    · split
      · exact .nils _
      · exact .top _
    · exact .top _
  · exact ev_ok hs x

theorem RV.bool_inv {e : Env} {F : FH} {b : Bool} {v : Value} (h : RV C e F (.bool b) v) : v = .bool b := by cases h; rfl
theorem RV.int_inv {e : Env} {F : FH} {k : IntKind} {n : Int} {v : Value} (h : RV C e F (.int k n) v) : v = .int k n := by cases h; rfl
theorem RV.str_inv {e : Env} {F : FH} {s : ByteArray} {v : Value} (h : RV C e F (.str s) v) : v = .string s := by cases h; rfl

/-! what the table of types says -/
theorem ty_info (hC : Ok C P) {t : Nat} {ty : Ty C.E} (h : C.ty t = some ty) : ∃ i z, P.info? t = some i ∧ i.size = ty.size ∧ i.bytes = ty.bytes ∧ i.zero = some z ∧
    (isArr ty.k = false → zerosAre ty.zero z.cells.toList = true ∧ ty.zero.length = ty.size) ∧ undOk P t ty.k = true := by
  have h1 := hC.ty t ty h
  unfold tyOk at h1
  simp only [Bool.and_eq_true] at h1
  obtain ⟨hu, h2⟩ := h1
  cases hi : P.info? t with
  | none => simp [hi] at h2
  | some i =>
    simp only [hi, Bool.and_eq_true, decide_eq_true_eq] at h2
    obtain ⟨⟨h3, h4⟩, h5⟩ := h2
    cases hz : i.zero with
    | none => simp [hz] at h5
    | some z =>
      simp only [hz, Bool.and_eq_true] at h5
      exact ⟨i, z, rfl, h3, h4, hz, fun _ => ⟨h5.1, Nat.eq_of_beq_eq_true h5.2⟩, hu⟩

theorem ty_zero (hC : Ok C P) {t : Nat} {ty : Ty C.E} (h : C.ty t = some ty) : ∃ i z, P.info? t = some i ∧ i.zero = some z ∧ zerosAre ty.zero z.cells.toList = true ∧ ty.zero.length = ty.size := by
  have h1 := hC.ty t ty h
  unfold tyOk at h1
  simp only [Bool.and_eq_true] at h1
  obtain ⟨hu, h2⟩ := h1
  cases hi : P.info? t with
  | none => simp [hi] at h2
  | some i =>
    simp only [hi, Bool.and_eq_true, decide_eq_true_eq] at h2
    obtain ⟨⟨h3, h4⟩, h5⟩ := h2
    cases hz : i.zero with
    | none => simp [hz] at h5
    | some z =>
      simp only [hz, Bool.and_eq_true] at h5
      exact ⟨i, z, rfl, hz, h5.1, Nat.eq_of_beq_eq_true h5.2⟩

theorem zeroIs_ok {e : Env} {F : FH} {a : AV C.E} {v : Value} (h : zeroIs a v = true) : AV.one a = true ∧ v.oneCell' = true ∧ RV C e F a v := by
  unfold zeroIs at h
  split at h
  · simp at h; subst h; exact ⟨rfl, rfl, .bool _⟩
  · simp at h; obtain ⟨rfl, rfl⟩ := h; exact ⟨rfl, rfl, .int _ _⟩
  · rename_i s s'
    simp at h
    have : s = s' := by
      cases s; cases s'; simp at h; simp [h.1, h.2]
    subst this; exact ⟨rfl, rfl, .str _⟩
  · exact ⟨rfl, rfl, .nilp⟩
  · exact ⟨rfl, rfl, .nils _⟩
  · exact ⟨rfl, rfl, .nilmap⟩
  · exact ⟨rfl, rfl, .nilf⟩
  · cases h

theorem zerosAre_ok {e : Env} {F : FH} : ∀ {l : List (AV C.E)} {vs : List Value}, zerosAre l vs = true → vs.length = l.length ∧
    ∀ (j : Nat) (c : AV C.E), l[j]? = some c → AV.one c = true ∧ (vs.getD j undef).oneCell' = true ∧ RV C e F c (vs.getD j undef)
  | [], [], _ => ⟨rfl, fun j c h => by simp at h⟩
  | a :: l, v :: vs, h => by
    simp only [zerosAre, Bool.and_eq_true] at h
    obtain ⟨h1, h2⟩ := zerosAre_ok (e := e) (F := F) h.2
    refine ⟨by simp [h1], fun j c hj => ?_⟩
    cases j with
    | zero => simp at hj; subst hj; simpa using zeroIs_ok h.1
    | succ j => simpa using h2 j c (by simpa using hj)
  | [], v :: vs, h => by simp [zerosAre] at h
  | a :: l, [], h => by simp [zerosAre] at h

theorem getD_toList (a : Array Value) (j : Nat) : a.toList.getD j undef = a.getD j undef := by
  simp [List.getD, Array.getD_eq_getD_getElem?]

/-! cells of a value -/
theorem one_cells {v : Value} (h : v.oneCell' = true) : v.cells = #[v] := by cases v <;> simp_all [Value.oneCell', Value.cells]

theorem RV.one_val {e : Env} {F : FH} {c : AV C.E} {v : Value} (h : RV C e F c v) (h1 : AV.one c = true) : v.oneCell' = true := by
  cases h <;> simp_all [AV.one, Value.oneCell']

theorem cellsOf_ok {e : Env} {F : FH} {v : AV C.E} {rv : Value} (h : RV C e F v rv) {cs : List (AV C.E)} (hc : cellsOf v = some cs) :
    rv.cells.size = cs.length ∧ ∀ (j : Nat) (c : AV C.E), cs[j]? = some c → AV.one c = true ∧ RV C e F c (rv.cells.getD j undef) := by
  have single : AV.one v = true → cs = [v] → rv.cells.size = cs.length ∧ ∀ (j : Nat) (c : AV C.E), cs[j]? = some c → AV.one c = true ∧ RV C e F c (rv.cells.getD j undef) := by
    intro h1 hcs
    subst hcs
    rw [one_cells (h.one_val h1)]
    refine ⟨rfl, fun j c hj => ?_⟩
    cases j with
    | zero => simp at hj; subst hj; exact ⟨h1, by simpa using h⟩
    | succ j => simp at hj
  cases v with
  | agg l =>
    cases h with
    | agg _ vs hs h1 h2 =>
      simp [cellsOf] at hc; subst hc
      exact ⟨hs, fun j c hj => ⟨h1 j c hj, h2 j c hj⟩⟩
  | tuple l => simp [cellsOf] at hc
  | aarr t l => simp [cellsOf] at hc
  | top => simp [cellsOf] at hc
  | _ => exact single rfl (by simpa [cellsOf] using hc.symm)

/-! places -/
theorem plain_one {c : AV C.E} (h : c.plain = true) : AV.one c = true := by cases c <;> simp_all [AV.plain, AV.one]

theorem FH.cell_world {F X : FH} {e : Env} {h : List (Blk C.E)} {w : World} (H : RH e F X h w) {b o : Nat} {v : Value} (hc : F.cell b o = some v) : w.cell? ⟨b, o, none⟩ = some v := by
  unfold FH.cell at hc
  cases hF : F b with
  | none => simp [hF] at hc
  | some x =>
    rw [hF] at hc
    have := H.fro b x hF
    cases x <;> simp at hc
    simp [World.cell?, this, hc]

theorem cell_of_heap {w : World} {b o : Nat} {a : Array Value} {el : TypeId} {fr : Nat × Nat} (h : w.heap[b]? = some (.cells a el fr)) (ho : o < a.size) : w.cell? ⟨b, o, none⟩ = some (a.getD o undef) := by
  simp [World.cell?, h, ho]

theorem Rows.lt (hC : Ok C P) {t : Nat} {l : List (C.E t)} {a : Array Value} {cap : Nat} (hs : a.size = cap * C.size t) (hl : l.length ≤ cap) {i : Nat} {x : C.E t} (hi : l[i]? = some x) {j : Nat} {c : AV C.E}
    (hj : (C.enc t x)[j]? = some c) : i * C.size t + j < a.size := by
  have h1 : j < (C.enc t x).length := (List.getElem?_eq_some_iff.mp hj).1
  have h2 := hC.len t x
  have h3 : i < l.length := (List.getElem?_eq_some_iff.mp hi).1
  have h4 : (i + 1) * C.size t ≤ cap * C.size t := Nat.mul_le_mul_right _ (by omega)
  rw [hs]
  rw [Nat.add_mul] at h4
  omega

theorem cellsAt_ok (hC : Ok C P) {e : Env} {F X : FH} {h : List (Blk C.E)} {w : World} (H : RH e F X h w) {p : AV C.E} {rv : Value} (hp : RV C e F p rv) {cs : List (AV C.E)} {off : Nat}
    (hc : cellsAt C h p = some (cs, off)) : ∃ b o, rv = .pointer (some ⟨b, o + off, none⟩) ∧
      ∀ (j : Nat) (c : AV C.E), cs[j]? = some c → ∃ u, w.cell? ⟨b, o + j, none⟩ = some u ∧ AV.one c = true ∧ RV C e F c u := by
  cases hp with
  | ptr id off' hid =>
    simp only [cellsAt] at hc
    split at hc
    · rename_i l hb
      simp at hc; obtain ⟨rfl, rfl⟩ := hc
      obtain ⟨a, el, h1, h2, h3, h4⟩ := H.blk id _ hb
      refine ⟨e.ρ id, 0, by simp, fun j c hj => ?_⟩
      have hlt : j < a.size := by rw [h3]; exact (List.getElem?_eq_some_iff.mp hj).1
      refine ⟨a.getD j undef, by rw [Nat.zero_add]; exact cell_of_heap h1 hlt, h4 j c hj⟩
    · cases hc
  | eptr t id i off' hid hlen =>
    simp only [cellsAt] at hc
    split at hc
    · rename_i t' l fro hb
      split at hc
      · rename_i ht
        subst ht
        simp at hc; obtain ⟨rfl, rfl⟩ := hc
        obtain ⟨h0, ⟨_, h0'⟩ | ⟨a, el, h1, h2, h3, h4, h5, h6, h7⟩⟩ := H.blk id _ hb
        · rw [h0, h0'] at hlen; simp at hlen
        · have hi : i < l.length := by rw [← h0]; exact hlen
          have hx : l[i]? = some (l.getD i (C.z t')) := by simp [hi]
          refine ⟨e.ρ id, i * C.size t', rfl, fun j c hj => ?_⟩
          have hj' : (C.enc t' (l.getD i (C.z t')))[j]? = some c := by simpa using hj
          exact ⟨_, cell_of_heap h1 (Rows.lt hC h4 h5 hx hj'), plain_one (hC.enc t' _ c (List.mem_of_getElem? hj')), h7 i _ j c hx hj'⟩
      · cases hc
    · cases hc
  | rptr t x off' b o vs h1 h2 =>
    simp only [cellsAt] at hc
    simp at hc; obtain ⟨rfl, rfl⟩ := hc
    refine ⟨b, o, rfl, fun j c hj => ⟨vs j, FH.cell_world H (h1 j c hj), plain_one (hC.enc t x c (List.mem_of_getElem? hj)), h2 j c hj⟩⟩
  | _ => simp [cellsAt] at hc

/-! reading -/
theorem add_off (b o j : Nat) : (⟨b, o, none⟩ : Addr).add j = ⟨b, o + j, none⟩ := by unfold Addr.add; split <;> simp_all

theorem isAgg_ok (hC : Ok C P) {t : Nat} {b : Bool} {n : Nat} (h : Ev.isAgg C t = some (b, n)) (w : World) : (Go.isAgg t).run P w = .ok b w ∧ (sizeOf t).run P w = .ok n w ∧ C.size t = n := by
  unfold Ev.isAgg at h
  split at h
  · rename_i ty hty
    obtain ⟨i, z, hi, h1, h2, h3, h4, hu⟩ := ty_info hC hty
    have hs : (sizeOf t).run P w = .ok ty.size w := by simp [sizeOf, run_typeInfo w hi, h1]
    have hs' : C.size t = ty.size := by simp [Ctx.size, hty]
    cases hk : ty.k with
    | other => simp [hk] at h
    | _ =>
      simp only [hk, undOk] at hu
      simp [hk] at h
      obtain ⟨rfl, rfl⟩ := h
      refine ⟨?_, hs, hs'⟩
      split at hu <;> first
        | (rename_i hg; simp [Go.isAgg, run_underlying hg])
        | cases hu
  · cases h

/-- a part of a row of cells, read at an address -/
theorem loadVar_ok (hC : Ok C P) {e : Env} {F : FH} {w : World} {b o off : Nat} {cs : List (AV C.E)}
    (hcs : ∀ (j : Nat) (c : AV C.E), cs[j]? = some c → ∃ u, w.cell? ⟨b, o + j, none⟩ = some u ∧ AV.one c = true ∧ RV C e F c u) {t : Nat} {v : AV C.E}
    (hv : pickAt C t cs off = some v) : ∃ rv, (loadVar t ⟨b, o + off, none⟩).run P w = .ok rv w ∧ RV C e F v rv := by
  unfold pickAt at hv
  split at hv
  · rename_i n ha
    obtain ⟨h1, h2, _⟩ := isAgg_ok hC ha w
    split at hv
    · rename_i hn
      have hlen := Nat.eq_of_beq_eq_true hn
      simp at hv; subst hv
      have hc : ∀ (j : Nat) (c : AV C.E), ((cs.drop off).take n)[j]? = some c → ∃ u, w.cell? ⟨b, o + off + j, none⟩ = some u ∧ AV.one c = true ∧ RV C e F c u := by
        intro j c hj
        have hjn : j < n := by have := (List.getElem?_eq_some_iff.mp hj).1; omega
        rw [List.getElem?_take_of_lt hjn, List.getElem?_drop] at hj
        have := hcs _ c hj
        rwa [show o + (off + j) = o + off + j by omega] at this
      have hex : ∀ j, j < n → w.cell? ((⟨b, o + off, none⟩ : Addr).add j) = some ((w.cell? ⟨b, o + off + j, none⟩).getD undef) := by
        intro j hj
        obtain ⟨u, hu, _⟩ := hc j (((cs.drop off).take n)[j]'(by omega)) (List.getElem?_eq_getElem (by omega))
        rw [add_off, hu]; rfl
      refine ⟨.agg ((List.range n).map fun j => (w.cell? ⟨b, o + off + j, none⟩).getD undef).toArray, by simp only [loadVar, Sem.run_bind, h1, h2, Result.andThen_ok, if_true, run_loadCells (P := P) w _ n _ hex, Sem.run_pure], .agg _ _ (by simpa using hlen.symm) (fun i c hi => ?_) (fun i c hi => ?_)⟩
      · obtain ⟨u, _, h3, _⟩ := hc i c hi; exact h3
      · obtain ⟨u, hu, _, h4⟩ := hc i c hi
        have hin : i < n := by have := (List.getElem?_eq_some_iff.mp hi).1; omega
        simpa [hin, hu] using h4
    · cases hv
  · rename_i n ha
    obtain ⟨h1, _, _⟩ := isAgg_ok hC ha w
    obtain ⟨u, hu, _, h4⟩ := hcs off v hv
    exact ⟨u, by simp [loadVar, h1, hu], h4⟩
  · cases hv

theorem load_ok (hC : Ok C P) {e : Env} {F X : FH} {h : List (Blk C.E)} {w : World} (H : RH e F X h w) {p : AV C.E} {rp : Value} (hp : RV C e F p rp) {t : Nat} {cs : List (AV C.E)} {off : Nat} {v : AV C.E}
    (hc : cellsAt C h p = some (cs, off)) (hv : pickAt C t cs off = some v) : ∃ rv, (Instr.loadAt t rp).run P w = .ok rv w ∧ RV C e F v rv := by
  obtain ⟨b, o, rfl, hcs⟩ := cellsAt_ok hC H hp hc
  obtain ⟨rv, h1, h2⟩ := loadVar_ok hC hcs hv
  exact ⟨rv, by simp [Instr.loadAt, Instr.sureAddr, h1], h2⟩

theorem field_ok (hC : Ok C P) {e : Env} {F : FH} {cs : List (AV C.E)} {vs : Array Value} (hs : vs.size = cs.length) (h1 : ∀ (i : Nat) (c : AV C.E), cs[i]? = some c → AV.one c = true)
    (h : ∀ (i : Nat) (c : AV C.E), cs[i]? = some c → RV C e F c (vs.getD i undef)) {t off : Nat} {v : AV C.E} (hv : pickAt C t cs off = some v) (w : World) : ∃ rv, (part t vs off).run P w = .ok rv w ∧ RV C e F v rv := by
  unfold pickAt at hv
  split at hv
  · rename_i n ha
    obtain ⟨h2, h3, _⟩ := isAgg_ok hC ha w
    split at hv
    · rename_i hn
      have hlen := Nat.eq_of_beq_eq_true hn
      simp at hv; subst hv
      have hle : off + n ≤ vs.size ∨ n = 0 := by simp at hlen; omega
      refine ⟨.agg (vs.extract off (off + n)), by simp [part, h2, h3], .agg _ _ (by rw [hlen]; simp; omega) (fun i c hi => ?_) (fun i c hi => ?_)⟩
      · have hin : i < n := by have := (List.getElem?_eq_some_iff.mp hi).1; omega
        rw [List.getElem?_take_of_lt hin, List.getElem?_drop] at hi
        exact h1 _ c hi
      · have hin : i < n := by have := (List.getElem?_eq_some_iff.mp hi).1; omega
        rw [List.getElem?_take_of_lt hin, List.getElem?_drop] at hi
        have := h _ c hi
        have hlt : off + i < vs.size := by omega
        have hlt2 : i < min (off + n) vs.size - off := by omega
        simpa [Array.getD_eq_getD_getElem?, hlt, hlt2, hin] using this
    · cases hv
  · rename_i n ha
    obtain ⟨h2, _, _⟩ := isAgg_ok hC ha w
    have hlt : off < vs.size := by rw [hs]; exact (List.getElem?_eq_some_iff.mp hv).1
    have := h off v hv
    exact ⟨vs[off], by simp [part, h2, hlt], by simpa [hlt] using this⟩
  · cases hv

end
end Go.Proofs.Ytgplkdcibahofaa.Ev
