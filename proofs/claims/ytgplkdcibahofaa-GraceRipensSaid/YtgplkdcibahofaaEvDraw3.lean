/-
  Operations whose order is drawn: in whatever order they are done, they come to the same. No program is named here.
-/
import Derived.Test.YtgplkdcibahofaaEvDraw2
namespace Go.Proofs.Ytgplkdcibahofaa.Ev
open Go

section
variable {C : Ctx} {P : Program}

def LiveB (e : Env) (id : Nat) : Blk C.E → Prop
  | .dead => False
  | .arr _ _ _ => e.cap id ≠ 0
  | _ => True
def FroB : Blk C.E → Prop
  | .arr _ _ true => True
  | _ => False

theorem live_iff {e : Env} {h : List (Blk C.E)} {id : Nat} : Live e h id ↔ LiveB e id (blkOf h id) := by
  unfold Live blkOf
  cases h[id]? with
  | none => exact Iff.rfl
  | some b => cases b <;> exact Iff.rfl

theorem fro_iff {h : List (Blk C.E)} {id : Nat} : Fro h id ↔ FroB (blkOf h id) := by
  unfold Fro blkOf
  cases h[id]? with
  | none => exact ⟨fun ⟨t, l, hf⟩ => by simp at hf, fun hf => hf.elim⟩
  | some b => cases b with
    | arr t l fro => cases fro with
      | true => exact ⟨fun _ => trivial, fun _ => ⟨t, l, rfl⟩⟩
      | false => exact ⟨fun ⟨t, l, hf⟩ => by simp at hf, fun hf => hf.elim⟩
    | _ => exact ⟨fun ⟨t, l, hf⟩ => by simp at hf, fun hf => hf.elim⟩

theorem RB.move (hC : Ok C P) {e1 e2 : Env} {F F' : FH} {id : Nat} {ob : Option Obj} {b : Blk C.E} (hb : RB e1 F id ob b) (hρ : e2.ρ id = e1.ρ id) (hl : e2.len id = e1.len id) (hc : e2.cap id = e1.cap id) (hF : FLe F F')
    (hn : F (e1.ρ id) = none → ob ≠ none → F' (e1.ρ id) = none) (hv : ∀ l, b = .cells l → ∀ c ∈ l, ∀ v, RV C e1 F c v → RV C e2 F' c v) : RB e2 F' id ob b := by
  cases b with
  | dead => trivial
  | cells l =>
    obtain ⟨a, el, h1, h2, h3, h4⟩ := hb
    exact ⟨a, el, h1, by rw [hρ]; exact hn h2 (by rw [h1]; simp), h3, fun k c hk => ⟨(h4 k c hk).1, hv l rfl c (List.mem_of_getElem? hk) _ (h4 k c hk).2⟩⟩
  | arr t l fro =>
    obtain ⟨h0, h⟩ := hb
    refine ⟨by rw [hl]; exact h0, ?_⟩
    rcases h with h | ⟨a, el, h1, h2, h3, h4, h5, h6, h7⟩
    · exact .inl ⟨by rw [hc]; exact h.1, h.2⟩
    · refine .inr ⟨a, el, h1, fun hf => by rw [hρ]; exact hn (h2 hf) (by rw [h1]; simp), fun hf => by rw [hρ, h1]; exact hF.le _ _ (by rw [h3 hf, h1]), by rw [hc]; exact h4, by rw [hc]; exact h5, h6,
        fun i x j c hi hj => ((h7 i x j c hi hj).mono (ELe.refl e1) hF).plain_any hC (hC.enc t x c (List.mem_of_getElem? hj))⟩
  | map a b m => exact hb.elim

theorem RV.shrink (hC : Ok C P) {e e2 : Env} {F F' : FH} {m : Nat} {c : AV C.E} {v : Value} (h1 : RV C (e.cut m) F c v) : ∀ {v' : Value} {m2 : Nat}, RV C (e2.cut m2) F' c v' → RV C (e2.cut m) F' c v' := by
  induction h1 with
  | top v => intro v' m2 _; exact .top v'
  | bool b => intro v' m2 h; cases h; exact .bool b
  | int k n => intro v' m2 h; cases h; exact .int k n
  | str s => intro v' m2 h; cases h; exact .str s
  | nilp => intro v' m2 h; cases h; exact .nilp
  | ptr id off hid => intro v' m2 h; cases h; exact .ptr (e := e2.cut m) id off hid
  | eptr t id i off hid _ => intro v' m2 h; cases h with | eptr _ _ _ _ _ g => exact .eptr (e := e2.cut m) t id i off hid g
  | rptr t x off b o vs _ _ _ => intro v' m2 h; cases h with | rptr _ _ _ b o vs g1 g2 => exact .rptr t x off b o vs g1 (fun j c hj => (g2 j c hj).plain_any hC (hC.enc t x c (List.mem_of_getElem? hj)))
  | nils t => intro v' m2 h; cases h; exact .nils t
  | sl t l a c b o vs _ _ _ _ _ => intro v' m2 h; cases h with | sl _ _ a c b o vs g0 g1 g2 g3 => exact .sl t l a c b o vs g0 g1 g2 (fun i x j cc h3 h4 => (g3 i x j cc h3 h4).plain_any hC (hC.enc t x cc (List.mem_of_getElem? h4)))
  | own t id a c hid _ _ _ => intro v' m2 h; cases h with | own _ _ a c _ g1 g2 g3 => exact .own (e := e2.cut m) t id a c hid g1 g2 g3
  | view t id lo n a c hid _ _ _ _ => intro v' m2 h; cases h with | view _ _ _ _ a c _ g1 g2 g3 g4 => exact .view (e := e2.cut m) t id lo n a c hid g1 g2 g3 g4
  | viewc t id lo n c a hid _ _ _ => intro v' m2 h; cases h with | viewc _ _ _ _ _ a _ g1 g2 g3 => exact .viewc (e := e2.cut m) t id lo n c a hid g1 g2 g3
  | tsl t l a b o vs _ _ _ _ => intro v' m2 h; cases h with | tsl _ _ a b o vs g1 g2 g3 => exact .tsl t l a b o vs g1 g2 (fun i x j cc h3 h4 => (g3 i x j cc h3 h4).plain_any hC (hC.enc t x cc (List.mem_of_getElem? h4)))
  | nilmap => intro v' m2 h; cases h; exact .nilmap
  | map id hid => intro v' m2 h; cases h; exact .map (e := e2.cut m) id hid
  | nilf => intro v' m2 h; cases h; exact .nilf
  | fn f a b va vb _ _ _ _ ih1 ih2 => intro v' m2 h; cases h with | fn _ _ _ va vb g1 g2 g3 g4 => exact .fn f a b va vb g1 g2 (fun i c hi => ih1 i c hi (g3 i c hi)) (fun i c hi => ih2 i c hi (g4 i c hi))
  | agg cs vs _ _ _ ih => intro v' m2 h; cases h with | agg _ vs g1 g2 g3 => exact .agg cs vs g1 g2 (fun i c hi => ih i c hi (g3 i c hi))
  | aarr t l vs _ _ _ _ => intro v' m2 h; cases h with | aarr _ _ vs g1 g2 g3 => exact .aarr t l vs g1 g2 (fun i x j cc h3 h4 => (g3 i x j cc h3 h4).plain_any hC (hC.enc t x cc (List.mem_of_getElem? h4)))
  | tuple cs vs _ _ ih => intro v' m2 h; cases h with | tuple _ vs g1 g2 => exact .tuple cs vs g1 (fun i c hi => ih i c hi (g2 i c hi))

def maskT : (Nat → Bool) → Tr C.E → Tr C.E
  | _, .lf => .lf
  | p, .nd v l r => .nd (match p 0 with | true => v | false => .top) (maskT (fun i => p (2 * i + 1)) l) (maskT (fun i => p (2 * i + 2)) r)

theorem maskT_get : ∀ (p : Nat → Bool) (t : Tr C.E) (n : Nat), (maskT p t).get n = (match p n with | true => t.get n | false => .top)
  | p, .lf, n => by cases p n <;> rfl
  | p, .nd v l r, 0 => rfl
  | p, .nd v l r, k + 1 => by
    show (Tr.nd _ _ _).get (k + 1) = _
    by_cases hk : k % 2 = 0
    · rw [get_even _ _ _ hk, get_even _ _ _ hk, maskT_get _ l, show 2 * (k / 2) + 1 = k + 1 by omega]
    · rw [get_odd _ _ _ hk, get_odd _ _ _ hk, maskT_get _ r, show 2 * (k / 2) + 2 = k + 1 by omega]

variable (C) in
structure Inv (X : FH) (SL : Nat → Nat → AV C.E) (Hs : Nat → List (Blk C.E)) (st : Nat → StepI C) (n nt : Nat) (es : Env) (Fs : FH) (ws : World) (D : Nat → Bool) (a : Act) (w : World) (e : Env) (F : FH) (HD : Nat → Blk C.E) (m : Nat → Nat) : Prop where
  fle : FLe Fs F
  ele : ∀ i, i < (Hs 0).length → e.ρ i = es.ρ i ∧ e.len i = es.len i ∧ e.cap i = es.cap i
  closed : ∀ k, k < n → D k = true → ∀ i ∈ (st k).rc.preds, D i = true
  r1 : ∀ k, k < n → D k = true → ∀ t, (st k).rc.dst = some t → RV C (e.cut (Hs (k + 1)).length) F (st k).v (a.tmps.getD t undef)
  r0 : ∀ t, (∀ k, k < n → D k = true → (st k).rc.dst ≠ some t) → RV C (e.cut (Hs 0).length) F (SL 0 t) (a.tmps.getD t undef)
  def_ : a.defers = []
  size : nt ≤ a.tmps.size
  c1 : ∀ k, k < n → D k = true → ∀ id ∈ (st k).rc.wr, (∀ j, k < j → j < n → D j = true → id ∉ (st j).rc.wr) → HD id = blkOf (Hs (k + 1)) id ∧ m id = (Hs (k + 1)).length
  c0 : ∀ id, (∀ k, k < n → D k = true → id ∉ (st k).rc.wr) → HD id = blkOf (Hs 0) id ∧ m id = (Hs 0).length
  fro : ∀ b o, F b = some o → w.heap[b]? = some o
  out : ∀ b o, X b = some o → w.heap[b]? = some o
  apart : ∀ b o, X b = some o → F b = none
  blk : ∀ id, RB (e.cut (m id)) F id w.heap[e.ρ id]? (HD id)
  inj : ∀ i j, i ≠ j → LiveB e i (HD i) → LiveB e j (HD j) → ¬ (FroB (HD i) ∧ FroB (HD j)) → e.ρ i ≠ e.ρ j
  mine : ∀ i, LiveB e i (HD i) → ¬ FroB (HD i) → X (e.ρ i) = none
  ext : Ext ws w

section facts
variable {S : Sums C} {ops : Array Oper} {SL : Nat → Nat → AV C.E} {Hs : Nat → List (Blk C.E)} {st : Nat → StepI C}

theorem Facts.mono (T : Facts S ops SL Hs st) {j k : Nat} (hjk : j ≤ k) (hk : k ≤ ops.size) : (Hs j).length ≤ (Hs k).length := by
  induction hjk with
  | refl => exact Nat.le_refl _
  | step h ih =>
    rename_i k
    have hk' : k < ops.size := by omega
    exact Nat.le_trans (ih (by omega)) (T.len k ops[k] (Array.getElem?_eq_getElem hk'))

theorem Facts.regs_at (T : Facts S ops SL Hs st) (t : Nat) : ∀ k, k ≤ ops.size → (∃ j, j < k ∧ (st j).rc.dst = some t ∧ SL k t = (st j).v) ∨ ((∀ j, j < k → (st j).rc.dst ≠ some t) ∧ SL k t = SL 0 t)
  | 0, _ => .inr ⟨fun j hj => by omega, rfl⟩
  | k + 1, hk => by
    have hg : ops[k]? = some ops[k] := Array.getElem?_eq_getElem (by omega)
    have hp := T.put k _ hg t
    have hd := T.dst k _ hg
    by_cases h : (st k).rc.dst = some t
    · refine .inl ⟨k, Nat.lt_succ_self k, h, ?_⟩
      rw [hp, if_pos (by rw [← hd]; exact h)]
    · rw [if_neg (by rw [← hd]; exact h)] at hp
      rcases T.regs_at t k (by omega) with ⟨j, h1, h2, h3⟩ | ⟨h1, h2⟩
      · exact .inl ⟨j, by omega, h2, by rw [hp, h3]⟩
      · refine .inr ⟨fun j hj => ?_, by rw [hp, h2]⟩
        by_cases hjk : j = k
        · subst hjk; exact h
        · exact h1 j (by omega)

theorem Facts.blk_at (T : Facts S ops SL Hs st) (id : Nat) : ∀ k, k ≤ ops.size → (∃ j, j < k ∧ id ∈ (st j).rc.wr ∧ (∀ i, j < i → i < k → id ∉ (st i).rc.wr) ∧ blkOf (Hs k) id = blkOf (Hs (j + 1)) id) ∨ ((∀ j, j < k → id ∉ (st j).rc.wr) ∧ blkOf (Hs k) id = blkOf (Hs 0) id)
  | 0, _ => .inr ⟨fun j hj => by omega, rfl⟩
  | k + 1, hk => by
    have hg : ops[k]? = some ops[k] := Array.getElem?_eq_getElem (by omega)
    by_cases h : id ∈ (st k).rc.wr
    · exact .inl ⟨k, Nat.lt_succ_self k, h, fun i h1 h2 => by omega, rfl⟩
    · have hs := T.same k _ hg id h
      rcases T.blk_at id k (by omega) with ⟨j, h1, h2, h3, h4⟩ | ⟨h1, h2⟩
      · refine .inl ⟨j, by omega, h2, fun i hi1 hi2 => ?_, by rw [hs, h4]⟩
        by_cases hik : i = k
        · subst hik; exact h
        · exact h3 i hi1 (by omega)
      · refine .inr ⟨fun j hj => ?_, by rw [hs, h2]⟩
        by_cases hjk : j = k
        · subst hjk; exact h
        · exact h1 j (by omega)

/-- who wrote last, of those that are done -/
theorem last_writer (D : Nat → Bool) (id : Nat) : ∀ n, (∃ k, k < n ∧ D k = true ∧ id ∈ (st k).rc.wr ∧ ∀ j, k < j → j < n → D j = true → id ∉ (st j).rc.wr) ∨ (∀ k, k < n → D k = true → id ∉ (st k).rc.wr)
  | 0 => .inr fun k hk => by omega
  | n + 1 => by
    by_cases h : D n = true ∧ id ∈ (st n).rc.wr
    · exact .inl ⟨n, Nat.lt_succ_self n, h.1, h.2, fun j h1 h2 => by omega⟩
    · have hn : ∀ j, j = n → D j = true → id ∉ (st j).rc.wr := fun j hj hd hm => by subst hj; exact h ⟨hd, hm⟩
      rcases last_writer D id n with ⟨k, h1, h2, h3, h4⟩ | h1
      · refine .inl ⟨k, by omega, h2, h3, fun j hj1 hj2 hd => ?_⟩
        by_cases hjn : j = n
        · exact hn j hjn hd
        · exact h4 j hj1 (by omega) hd
      · refine .inr fun k hk hd => ?_
        by_cases hkn : k = n
        · exact hn k hkn hd
        · exact h1 k (by omega) hd
end facts

end
end Go.Proofs.Ytgplkdcibahofaa.Ev
