/-
  Operations whose order is drawn: one of them, done when it may be. No program is named here.
-/
import Derived.Test.YtgplkdcibahofaaEvDraw3
namespace Go.Proofs.Ytgplkdcibahofaa.Ev
open Go

section
variable {C : Ctx} {P : Program}

theorem RB.live_some {e : Env} {F : FH} {id : Nat} {ob : Option Obj} {b : Blk C.E} (h : RB e F id ob b) (hl : LiveB e id b) : ∃ x, ob = some x := by
  cases b with
  | dead => exact hl.elim
  | cells l => obtain ⟨a, el, h1, _⟩ := h; exact ⟨_, h1⟩
  | arr t l fro => obtain ⟨_, h1 | ⟨a, el, h1, _⟩⟩ := h
                   · exact absurd h1.1 hl
                   · exact ⟨_, h1⟩
  | map a b m => exact h.elim

theorem RB.live_nf {e : Env} {F : FH} {id : Nat} {ob : Option Obj} {b : Blk C.E} (h : RB e F id ob b) (hl : LiveB e id b) (hf : ¬ FroB b) : F (e.ρ id) = none := by
  cases b with
  | dead => exact hl.elim
  | cells l => obtain ⟨a, el, _, h2, _⟩ := h; exact h2
  | arr t l fro =>
    obtain ⟨_, h1 | ⟨a, el, _, h2, _⟩⟩ := h
    · exact absurd h1.1 hl
    · cases fro with
      | true => exact absurd trivial hf
      | false => exact h2 rfl
  | map a b m => exact h.elim

theorem RB.live_f {e : Env} {F : FH} {id : Nat} {ob : Option Obj} {b : Blk C.E} (h : RB e F id ob b) (hl : LiveB e id b) (hf : FroB b) : F (e.ρ id) = ob := by
  cases b with
  | arr t l fro =>
    obtain ⟨_, h1 | ⟨a, el, _, _, h3, _⟩⟩ := h
    · exact absurd h1.1 hl
    · cases fro with
      | true => exact h3 rfl
      | false => exact hf.elim
  | _ => exact hf.elim

open Classical in
/-- what an operation must leave alone -/
noncomputable def outer (X : FH) (w : World) (e : Env) (HD : Nat → Blk C.E) (rd : List Nat) : FH := fun b => match X b with
  | some o => some o
  | none => if ∃ id, id ∉ rd ∧ LiveB e id (HD id) ∧ ¬ FroB (HD id) ∧ e.ρ id = b then w.heap[b]? else none

section step
variable {S : Sums C} {ops : Array Oper} {SL : Nat → Nat → AV C.E} {Hs : Nat → List (Blk C.E)} {st : Nat → StepI C} {nt : Nat} {es : Env} {Fs X : FH} {ws w : World} {D : Nat → Bool} {a : Act} {e : Env} {F : FH} {HD : Nat → Blk C.E} {m : Nat → Nat}
  {k : Nat} {o : Oper}

theorem Inv.pre (T : Facts S ops SL Hs st) (I : Inv C X SL Hs st ops.size nt es Fs ws D a w e F HD m) (hk : ops[k]? = some o) (hr : ∀ x ∈ o.after, Region.binds .any x = true → D x.on = true) : ∀ i ∈ (st k).rc.preds, D i = true := by
  intro i hi
  obtain ⟨x, hx, hb, h⟩ := T.pred k o hk i hi
  have hkl : k < ops.size := (Array.getElem?_eq_some_iff.mp hk).1
  rcases h with rfl | ⟨h1, h2⟩
  · exact hr x hx hb
  · exact I.closed x.on (by omega) (hr x hx hb) i h2

theorem Inv.early (T : Facts S ops SL Hs st) (I : Inv C X SL Hs st ops.size nt es Fs ws D a w e F HD m) (hk : ops[k]? = some o) (hr : ∀ x ∈ o.after, Region.binds .any x = true → D x.on = true) {j : Nat} (hj : j < k) (hD : ¬ D j = true) : Ev.apart (st k).rc (st j).rc = true := by
  rcases T.far k o hk j hj with h | h
  · exact absurd (I.pre T hk hr j h) hD
  · exact h

theorem Inv.late (T : Facts S ops SL Hs st) (I : Inv C X SL Hs st ops.size nt es Fs ws D a w e F HD m) (hDk : ¬ D k = true) {j : Nat} (hkj : k < j) (hj : j < ops.size) (hD : D j = true) : Ev.apart (st j).rc (st k).rc = true := by
  rcases T.far j ops[j] (Array.getElem?_eq_getElem hj) k hkj with h | h
  · exact absurd (I.closed j hj hD k h) hDk
  · exact h

theorem Inv.looks (T : Facts S ops SL Hs st) (I : Inv C X SL Hs st ops.size nt es Fs ws D a w e F HD m) (hk : ops[k]? = some o) (hDk : ¬ D k = true) (hr : ∀ x ∈ o.after, Region.binds .any x = true → D x.on = true) {t : Nat} (ht : t ∈ (st k).rc.looks) :
    RV C (e.cut (Hs k).length) F (SL k t) (a.tmps.getD t undef) := by
  have hkl : k < ops.size := (Array.getElem?_eq_some_iff.mp hk).1
  rcases T.regs_at t k (by omega) with ⟨j, h1, h2, h3⟩ | ⟨h1, h2⟩
  · have hDj : D j = true := Classical.byContradiction fun hn => (apart_ok (I.early T hk hr h1 hn)).2.1 t h2 ht
    rw [h3]
    exact (I.r1 j (by omega) hDj t h2).mono (e.cut_le (T.mono (by omega) (by omega))) (FLe.refl F)
  · rw [h2]
    refine (I.r0 t fun j hj hDj hd => ?_).mono (e.cut_le (T.mono (Nat.zero_le _) (by omega))) (FLe.refl F)
    rcases Nat.lt_trichotomy j k with hjk | hjk | hjk
    · exact h1 j hjk hd
    · subst hjk; exact hDk hDj
    · exact (apart_ok (I.late T hDk hjk hj hDj)).1 t hd ht

theorem Inv.reads (T : Facts S ops SL Hs st) (I : Inv C X SL Hs st ops.size nt es Fs ws D a w e F HD m) (hk : ops[k]? = some o) (hDk : ¬ D k = true) (hr : ∀ x ∈ o.after, Region.binds .any x = true → D x.on = true) {id : Nat} (hid : id ∈ (st k).rc.reads) :
    HD id = blkOf (Hs k) id ∧ m id ≤ (Hs k).length := by
  have hkl : k < ops.size := (Array.getElem?_eq_some_iff.mp hk).1
  have hlate : ∀ j, k < j → j < ops.size → D j = true → id ∉ (st j).rc.wr := fun j h1 h2 h3 hw => ((apart_ok (I.late T hDk h1 h2 h3)).2.2.1 id hw).1 hid
  rcases T.blk_at id k (by omega) with ⟨j, h1, h2, h3, h4⟩ | ⟨h1, h2⟩
  · have hDj : D j = true := Classical.byContradiction fun hn => (apart_ok (I.early T hk hr h1 hn)).2.2.2 id h2 hid
    obtain ⟨g1, g2⟩ := I.c1 j (by omega) hDj id h2 fun i hi1 hi2 hi3 => by
      rcases Nat.lt_trichotomy i k with hik | hik | hik
      · exact h3 i hi1 hik
      · subst hik; exact absurd hi3 hDk
      · exact hlate i hik hi2 hi3
    exact ⟨by rw [g1, h4], by rw [g2]; exact T.mono (by omega) (by omega)⟩
  · obtain ⟨g1, g2⟩ := I.c0 id fun i hi hDi => by
      rcases Nat.lt_trichotomy i k with hik | hik | hik
      · exact h1 i hik
      · subst hik; exact absurd hDi hDk
      · exact hlate i hik hi hDi
    exact ⟨by rw [g1, h2], by rw [g2]; exact T.mono (Nat.zero_le _) (by omega)⟩

theorem Inv.part (hC : Ok C P) (T : Facts S ops SL Hs st) (I : Inv C X SL Hs st ops.size nt es Fs ws D a w e F HD m) (hk : ops[k]? = some o) (hDk : ¬ D k = true) (hr : ∀ x ∈ o.after, Region.binds .any x = true → D x.on = true) :
    RH (e.cut (Hs k).length) F (outer X w e HD (st k).rc.reads) (only (st k).rc.reads 0 (Hs k)) w := by
  have hrd := fun id => I.reads T hk hDk hr (id := id)
  have hblk : ∀ id, blkOf (only (st k).rc.reads 0 (Hs k)) id = (if id ∈ (st k).rc.reads then HD id else .dead) := by
    intro id
    rw [only_get, Nat.zero_add]
    by_cases h : id ∈ (st k).rc.reads
    · have : (st k).rc.reads.contains id = true := by simpa using h
      rw [this, if_pos h, (hrd id h).1]
    · have : (st k).rc.reads.contains id = false := by simpa using h
      rw [this, if_neg h]
  have hlive : ∀ id, Live (e.cut (Hs k).length) (only (st k).rc.reads 0 (Hs k)) id → id ∈ (st k).rc.reads ∧ LiveB e id (HD id) := by
    intro id hl
    rw [live_iff, hblk] at hl
    by_cases h : id ∈ (st k).rc.reads
    · rw [if_pos h] at hl
      refine ⟨h, ?_⟩
      revert hl
      cases HD id <;> exact fun h => h
    · rw [if_neg h] at hl; exact hl.elim
  have hfro : ∀ id, id ∈ (st k).rc.reads → (Fro (only (st k).rc.reads 0 (Hs k)) id ↔ FroB (HD id)) := fun id h => by rw [fro_iff, hblk, if_pos h]
  refine ⟨(only_length _ _ _).symm, I.fro, fun b x hb => ?_, fun b x hb => ?_, fun id b hb => ?_, fun i j hij hi hj hnn => ?_, fun i hi hnf => ?_⟩
  · unfold outer at hb
    cases hX : X b with
    | some y => rw [hX] at hb; rw [← hb]; exact I.out b y hX
    | none =>
      rw [hX] at hb
      simp only [] at hb
      split at hb
      · exact hb
      · cases hb
  · unfold outer at hb
    cases hX : X b with
    | some y => exact I.apart b y hX
    | none =>
      rw [hX] at hb
      simp only [] at hb
      split at hb
      · rename_i hex
        obtain ⟨id, h1, h2, h3, rfl⟩ := hex
        exact (I.blk id).live_nf (e := e.cut (m id)) (by revert h2; cases HD id <;> exact fun h => h) h3
      · cases hb
  · have hbl : blkOf (only (st k).rc.reads 0 (Hs k)) id = b := by unfold blkOf; rw [hb]; rfl
    rw [hblk] at hbl
    by_cases h : id ∈ (st k).rc.reads
    · rw [if_pos h] at hbl
      subst hbl
      exact RB.move hC (I.blk id) rfl rfl rfl (FLe.refl F) (fun h _ => h) fun l _ c _ v hv => hv.mono (e.cut_le (hrd id h).2) (FLe.refl F)
    · rw [if_neg h] at hbl
      subst hbl; trivial
  · obtain ⟨h1, h2⟩ := hlive i hi
    obtain ⟨h3, h4⟩ := hlive j hj
    exact I.inj i j hij h2 h4 fun hh => hnn ⟨(hfro i h1).mpr hh.1, (hfro j h3).mpr hh.2⟩
  · obtain ⟨h1, h2⟩ := hlive i hi
    have hnf' : ¬ FroB (HD i) := fun h => hnf ((hfro i h1).mpr h)
    have hX := I.mine i h2 hnf'
    show outer X w e HD (st k).rc.reads (e.ρ i) = none
    unfold outer
    rw [hX]
    simp only []
    rw [if_neg]
    rintro ⟨id, g1, g2, g3, g4⟩
    exact I.inj id i (fun h => g1 (h ▸ h1)) g2 h2 (fun hh => hnf' hh.2) g4

theorem Inv.gives (hC : Ok C P) (hS : Valid P S) (T : Facts S ops SL Hs st) (I : Inv C X SL Hs st ops.size nt es Fs ws D a w e F HD m) (hk : ops[k]? = some o) (hDk : ¬ D k = true) (hr : ∀ x ∈ o.after, Region.binds .any x = true → D x.on = true) (hrun : (st k).run = true) :
    Gives P o a w (Post (e.cut (Hs k).length) F (outer X w e HD (st k).rc.reads) w (st k).v (st k).hh) := by
  have hlk : (st k).rc.looks = tmpsOf o ops.toList := T.looks k o hk
  have hRS : RS (e.cut (Hs k).length) F (maskT (fun t => (st k).rc.looks.contains t) (st k).sl) a := by
    refine ⟨fun t => ?_, I.def_⟩
    rw [maskT_get]
    by_cases ht : t ∈ (st k).rc.looks
    · have : (st k).rc.looks.contains t = true := by simpa using ht
      rw [this]
      show RV C _ F ((st k).sl.get t) _
      rw [T.regs k o hk]
      exact I.looks T hk hDk hr ht
    · have : (st k).rc.looks.contains t = false := by simpa using ht
      rw [this]; exact .top _
  have hs := opF_ok hC hS hRS (I.part hC T hk hDk hr) o
  have hcongr : opF C S (maskT (fun t => (st k).rc.looks.contains t) (st k).sl) (only (st k).rc.reads 0 (Hs k)) o = opF C S (st k).sl (only (st k).rc.reads 0 (Hs k)) o := by
    refine opF_congr _ o fun x hx => ?_
    cases x with
    | tmp t =>
      have ht : t ∈ (st k).rc.looks := by
        rw [hlk]
        unfold tmpsOf operandsOf
        exact List.mem_append_left _ (List.mem_filterMap.mpr ⟨.tmp t, by simpa using hx, rfl⟩)
      show (maskT _ _).get t = (st k).sl.get t
      rw [maskT_get]
      have : (st k).rc.looks.contains t = true := by simpa using ht
      rw [this]
    | _ => rfl
  rw [hcongr] at hs
  have ho := T.out k o hk hrun
  revert hs ho
  generalize opF C S (st k).sl (only (st k).rc.reads 0 (Hs k)) o = r
  intro hs ho
  cases r with
  | no => exact ho.elim
  | val v => obtain ⟨h1, h2⟩ := ho; rw [h1, h2]; exact hs
  | chk p v => obtain ⟨h0, h1, h2⟩ := ho; rw [h1, h2]; exact hs h0
  | mem v h' => obtain ⟨h1, h2⟩ := ho; rw [h1, h2]; exact hs
  | chm p v h' => obtain ⟨h0, h1, h2⟩ := ho; rw [h1, h2]; exact hs h0
  | anyB p => exact ho.elim

theorem Inv.wanted (T : Facts S ops SL Hs st) (I : Inv C X SL Hs st ops.size nt es Fs ws D a w e F HD m) (hk : ops[k]? = some o) (hDk : ¬ D k = true) (hr : ∀ x ∈ o.after, Region.binds .any x = true → D x.on = true) :
    Region.wanted o (yielded ops a.tmps) = (st k).run := by
  have hg := T.guard k o hk
  unfold GuardIs at hg
  split at hg
  · rename_i h1
    rw [hg]; simp [Region.wanted, h1]
  · rename_i j want h1
    obtain ⟨oj, t, h2, h3, h45⟩ := hg
    have ht : t ∈ (st k).rc.looks := by
      rw [T.looks k o hk]
      unfold tmpsOf
      refine List.mem_append_right _ ?_
      rw [h1]
      have : ops.toList[j]? = some oj := by simpa using h2
      simp only [this, h3]
      simp
    have hv := I.looks T hk hDk hr ht
    rcases h45 with ⟨c, h4, h5⟩ | ⟨h4, h5⟩
    case inr =>
      rw [← T.regs k o hk, h4] at hv
      have h6 := skip_inv hv
      have hy : yielded ops a.tmps j = none := by
        unfold yielded
        simp only [h2, h3, Option.bind_some]
        cases hh : a.tmps[t]? with
        | none => rfl
        | some u => simp [hh] at h6; subst h6; rfl
      rw [h5]
      simp only [Region.wanted, h1, hy]
      rfl
    rw [← T.regs k o hk, h4] at hv
    have hbv := hv.bool_inv
    have ht2 : a.tmps[t]? = some (.bool c) := by
      cases hh : a.tmps[t]? with
      | none => simp [hh] at hbv; exact absurd hbv (by simp [undef])
      | some u => simp [hh] at hbv; rw [hbv]
    have hy : yielded ops a.tmps j = some c := by simp [yielded, h2, h3, ht2]
    rw [h5]
    simp only [Region.wanted, h1, hy]
    rfl

end step
end
end Go.Proofs.Ytgplkdcibahofaa.Ev
