/-
  Operations whose order is drawn: any order will do. No program is named here.
-/
import Derived.Test.YtgplkdcibahofaaEvDraw5
namespace Go.Proofs.Ytgplkdcibahofaa.Ev
open Go

section
variable {C : Ctx} {P : Program}
variable {S : Sums C} {ops : Array Oper} {SL : Nat → Nat → AV C.E} {Hs : Nat → List (Blk C.E)} {st : Nat → StepI C} {nt : Nat} {es : Env} {Fs X : FH} {ws w w' : World} {D : Nat → Bool} {a : Act} {e e' : Env} {F F' : FH} {HD : Nat → Blk C.E} {m : Nat → Nat}
  {k : Nat} {o : Oper}

theorem Inv.skip (T : Facts S ops SL Hs st) (I : Inv C X SL Hs st ops.size nt es Fs ws D a w e F HD m) (hk : ops[k]? = some o) (hDk : ¬ D k = true) (hr : ∀ x ∈ o.after, Region.binds .any x = true → D x.on = true) (hrun : (st k).run = false) :
    Inv C X SL Hs st ops.size nt es Fs ws (fun i => D i || Nat.beq i k) (a.put o.dst undef) w e F HD m := by
  have hkl : k < ops.size := (Array.getElem?_eq_some_iff.mp hk).1
  have hpre := I.pre T hk hr
  have hdst := T.dst k o hk
  obtain ⟨hv, hwr, hh⟩ := T.stay k o hk hrun
  have hDs : ∀ j, (D j || Nat.beq j k) = true → j ≠ k → D j = true := by
    intro j hj hne
    rw [Bool.or_eq_true] at hj
    rcases hj with h | h
    · exact h
    · exact absurd (Nat.eq_of_beq_eq_true h) hne
  have hDk' : (D k || Nat.beq k k) = true := by simp
  have hDm : ∀ j, D j = true → (D j || Nat.beq j k) = true := fun j hj => by rw [hj]; rfl
  refine ⟨I.fle, I.ele, fun j hj hDj i hi => ?_, fun j hj hDj t ht => ?_, fun t ht => ?_, put_defs.trans I.def_, (by rw [put_size]; exact I.size), fun j hj hDj id hid hl => ?_, fun id hid => ?_, I.fro, I.out, I.apart, I.blk, I.inj, I.mine, I.ext⟩
  · by_cases hjk : j = k
    · subst hjk; exact hDm i (hpre i hi)
    · exact hDm i (I.closed j hj (hDs j hDj hjk) i hi)
  · by_cases hjk : j = k
    · subst hjk
      rw [hv, ← hdst, ht, put_undef]
      exact skip_rv
    · have hDj' := hDs j hDj hjk
      have hne : o.dst ≠ some t := by
        rw [← hdst]
        intro hh
        rcases Nat.lt_or_ge j k with h | h
        · exact T.fresh k o hk j t h ht hh
        · exact T.fresh j ops[j] (Array.getElem?_eq_getElem hj) k t (by omega) hh ht
      rw [put_get hne]
      exact I.r1 j hj hDj' t ht
  · have hne : o.dst ≠ some t := by rw [← hdst]; exact ht k hkl hDk'
    rw [put_get hne]
    exact I.r0 t fun j hj hDj => ht j hj (hDm j hDj)
  · by_cases hjk : j = k
    · subst hjk; rw [hwr] at hid; cases hid
    · exact I.c1 j hj (hDs j hDj hjk) id hid fun i h1 h2 h3 => hl i h1 h2 (hDm i h3)
  · exact I.c0 id fun j hj hDj => hid j hj (hDm j hDj)

theorem cnt_lt {p q : Nat → Bool} (h : ∀ x, q x = true → p x = true) {i : Nat} (hp : p i = true) (hq : q i = false) : ∀ (l : List Nat), i ∈ l → (l.filter q).length < (l.filter p).length
  | [], hi => by cases hi
  | x :: l, hi => by
    have hle : ∀ l : List Nat, (l.filter q).length ≤ (l.filter p).length := by
      intro l
      induction l with
      | nil => exact Nat.le_refl _
      | cons y l ih =>
        cases hqy : q y with
        | true => rw [List.filter_cons_of_pos hqy, List.filter_cons_of_pos (h y hqy)]; simpa using ih
        | false =>
          rw [List.filter_cons_of_neg (by simp [hqy])]
          cases hpy : p y with
          | true => rw [List.filter_cons_of_pos hpy]; simp; omega
          | false => rw [List.filter_cons_of_neg (by simp [hpy])]; exact ih
    rw [List.mem_cons] at hi
    rcases hi with rfl | hi
    · rw [List.filter_cons_of_pos hp, List.filter_cons_of_neg (by simp [hq])]
      have := hle l
      simp; omega
    · have ih := cnt_lt h hp hq l hi
      cases hqx : q x with
      | true => rw [List.filter_cons_of_pos hqx, List.filter_cons_of_pos (h x hqx)]; simpa using ih
      | false =>
        rw [List.filter_cons_of_neg (by simp [hqx])]
        cases hpx : p x with
        | true => rw [List.filter_cons_of_pos hpx]; simp; omega
        | false => rw [List.filter_cons_of_neg (by simp [hpx])]; exact ih

/-- when all is done -/
theorem Inv.fin (hC : Ok C P) (T : Facts S ops SL Hs st) (I : Inv C X SL Hs st ops.size nt es Fs ws D a w e F HD m) (hall : ∀ k, k < ops.size → D k = true) {e0 : Env} {F0 : FH} {w0 : World} (he : ELe e0 es) (hes : es.sz = (Hs 0).length) (hF : FLe F0 Fs) (hw : Ext w0 ws)
    {slN : Tr C.E} {hN : List (Blk C.E)} (hsl : SL ops.size = slN.get) (hh : Hs ops.size = hN) : St e0 F0 X w0 nt slN hN a w := by
  have h0N := T.mono (Nat.zero_le ops.size) (Nat.le_refl _)
  have hHD : ∀ id, HD id = blkOf hN id ∧ m id ≤ hN.length := by
    intro id
    rcases T.blk_at id ops.size (Nat.le_refl _) with ⟨j, h1, h2, h3, h4⟩ | ⟨h1, h2⟩
    · obtain ⟨g1, g2⟩ := I.c1 j h1 (hall j h1) id h2 fun i hi1 hi2 _ => h3 i hi1 hi2
      exact ⟨by rw [g1, ← hh, h4], by rw [g2, ← hh]; exact T.mono (by omega) (Nat.le_refl _)⟩
    · obtain ⟨g1, g2⟩ := I.c0 id fun j hj _ => h1 j hj
      exact ⟨by rw [g1, ← hh, h2], by rw [g2, ← hh]; exact h0N⟩
  have hlive : ∀ id, Live (e.cut hN.length) hN id → LiveB e id (HD id) := fun id hl => by
    rw [live_iff, ← (hHD id).1] at hl
    exact (LiveB.congr rfl).mp hl
  have hfro : ∀ id, Fro hN id ↔ FroB (HD id) := fun id => by rw [fro_iff, (hHD id).1]
  refine ⟨e.cut hN.length, F, ⟨?_, fun i hi => ?_, fun i hi => ?_, fun i hi => ?_⟩, hF.trans I.fle, ⟨fun t => ?_, I.def_⟩, ⟨rfl, I.fro, I.out, I.apart, fun id b hb => ?_, fun i j hij hi hj hnn => I.inj i j hij (hlive i hi) (hlive j hj) fun hx => hnn ⟨(hfro i).mpr hx.1, (hfro j).mpr hx.2⟩, fun i hi hnf => I.mine i (hlive i hi) fun hx => hnf ((hfro i).mpr hx)⟩, hw.trans I.ext, I.size⟩
  · show e0.sz ≤ hN.length
    have := he.sz
    rw [← hh]; omega
  · exact (I.ele i (by have := he.sz; omega)).1.trans (he.ρ i hi)
  · exact (I.ele i (by have := he.sz; omega)).2.1.trans (he.len i hi)
  · exact (I.ele i (by have := he.sz; omega)).2.2.trans (he.cap i hi)
  · rw [← hsl]
    rcases T.regs_at t ops.size (Nat.le_refl _) with ⟨j, h1, h2, h3⟩ | ⟨h1, h2⟩
    · rw [h3]
      exact (I.r1 j h1 (hall j h1) t h2).mono (e.cut_le (by rw [← hh]; exact T.mono (by omega) (Nat.le_refl _))) (FLe.refl F)
    · rw [h2]
      exact (I.r0 t fun j hj _ => h1 j hj).mono (e.cut_le (by rw [← hh]; exact h0N)) (FLe.refl F)
  · have hbl : blkOf hN id = b := by unfold blkOf; rw [hb]; rfl
    rw [← hbl, ← (hHD id).1]
    exact RB.move hC (I.blk id) rfl rfl rfl (FLe.refl F) (fun h _ => h) fun l _ c _ v hv => hv.mono (e.cut_le (hHD id).2) (FLe.refl F)

theorem draw_ok (hC : Ok C P) (hS : Valid P S) (hd : ops.toList.all (opDst nt) = true) {sl : Tr C.E} {h : List (Blk C.E)} {e0 : Env} {F0 : FH} {w0 : World} {K : Tr C.E → List (Blk C.E) → Prop} {Q : Exit → Act → World → Prop}
    (hs : St e0 F0 X w0 nt sl h a w) (hk : Drawn C S ops.toList sl h K) (hQ : ∀ sl h a w, St e0 F0 X w0 nt sl h a w → K sl h → Q .normal a w) :
    wpAny P .any ops Q ops.size (Array.replicate ops.size false) a w := by
  obtain ⟨SL, Hs, st, slN, hN, T0, hK⟩ := drawn_trace hk
  have T := facts T0
  obtain ⟨es, Fs, h1, h2, h3, h4, h5, h6⟩ := hs
  have hes : es.sz = (Hs 0).length := by rw [T0.h0]; exact h4.sz
  have hslE : SL ops.size = slN.get := by have := T0.slE; rwa [Array.length_toList] at this
  have hhE : Hs ops.size = hN := by have := T0.hE; rwa [Array.length_toList] at this
  have fin : ∀ (listed : Array Bool) a w, (∃ e F HD m, Inv C X SL Hs st ops.size nt es Fs w0 (fun i => listed.getD i false) a w e F HD m) → (∀ k, k < ops.size → listed.getD k false = true) → Q .normal a w := by
    intro listed a w ⟨e, F, HD, m, I⟩ hall
    exact hQ slN hN a w (I.fin hC T hall h1 hes h2 (Ext.refl w0) hslE hhE) hK
  have go : ∀ (n : Nat) (listed : Array Bool) a w, (∃ e F HD m, Inv C X SL Hs st ops.size nt es Fs w0 (fun i => listed.getD i false) a w e F HD m) → listed.size = ops.size →
      ((List.range ops.size).filter fun i => !listed.getD i true).length ≤ n → wpAny P .any ops Q n listed a w := by
    intro n
    induction n with
    | zero =>
      intro listed a w hI hsz hc
      have hall : ∀ k, k < ops.size → listed.getD k false = true := by
        intro k hk
        have h0 : (List.range ops.size).filter (fun i => !listed.getD i true) = [] := List.length_eq_zero_iff.mp (by omega)
        rw [List.filter_eq_nil_iff] at h0
        have := h0 k (by simpa using hk)
        have hk' : k < listed.size := by omega
        simpa [hk'] using this
      refine ⟨?_, fin listed a w hI hall⟩
      cases hrd : Region.ready .any ops listed with
      | nil => rfl
      | cons i r =>
        have hm : i ∈ Region.ready .any ops listed := by rw [hrd]; simp
        obtain ⟨g1, o, g2, _⟩ := mem_ready.1 hm
        have hil := (Array.getElem?_eq_some_iff.mp g2).1
        have := hall i hil
        have hk' : i < listed.size := by omega
        simp [hk'] at g1 this
        rw [g1] at this; cases this
    | succ n ih =>
      intro listed a w hI hsz hc
      refine ⟨fun hrd => fin listed a w hI ?_, fun i hi => ?_⟩
      · intro k
        induction k using Nat.strongRecOn with
        | _ k ihk =>
          intro hk
          cases hh : listed.getD k false with
          | true => rfl
          | false =>
            have hg : ops[k]? = some ops[k] := Array.getElem?_eq_getElem hk
            have hk' : k < listed.size := by omega
            have hm : k ∈ Region.ready .any ops listed := by
              refine mem_ready.2 ⟨by simp [hk'] at hh ⊢; exact hh, ops[k], hg, fun x hx hb => ?_⟩
              have := T.edge k _ hg x hx hb
              exact ihk x.on this (by omega)
            rw [hrd] at hm; cases hm
      · obtain ⟨e, F, HD, m, I⟩ := hI
        obtain ⟨g1, o, g2, g3⟩ := mem_ready.1 hi
        have hil := (Array.getElem?_eq_some_iff.mp g2).1
        have hk' : i < listed.size := by omega
        have hDi : ¬ listed.getD i false = true := by simp [hk'] at g1 ⊢; exact g1
        have hD' : (fun j => listed.getD j false || Nat.beq j i) = fun j => (listed.setIfInBounds i true).getD j false := by
          funext j
          by_cases hji : j = i
          · subst hji; simp [hk']
          · have : Nat.beq j i = false := by
              cases hb : Nat.beq j i with
              | false => rfl
              | true => exact absurd (Nat.eq_of_beq_eq_true hb) hji
            rw [this, Bool.or_false, getD_set_ne false (Ne.symm hji)]
        have hcount : ((List.range ops.size).filter fun j => !(listed.setIfInBounds i true).getD j true).length ≤ n := by
          have := cnt_lt (p := fun j => !listed.getD j true) (q := fun j => !(listed.setIfInBounds i true).getD j true) (fun x hx => by
            by_cases hxi : x = i
            · subst hxi; simp [hk'] at hx
            · rw [getD_set_ne true (Ne.symm hxi)] at hx; exact hx) (i := i) (by rw [g1]; rfl) (by simp [hk']) (List.range ops.size) (by simpa using hil)
          omega
        have hod : opDst nt o = true := by
          rw [List.all_eq_true] at hd
          exact hd o (List.mem_of_getElem? (by simpa using g2))
        unfold wpOp
        simp only [g2]
        have hwant := I.wanted T g2 hDi g3
        rw [hwant]
        cases hrun : (st i).run with
        | true =>
          simp only [if_true]
          refine .inl (I.gives hC hS T g2 hDi g3 hrun _ _ fun rv w' hp => ?_)
          obtain ⟨e2, F2, HD2, m2, I2⟩ := I.done hC T g2 hDi g3 hrun hod hp
          rw [hD'] at I2
          exact ih _ _ _ ⟨e2, F2, HD2, m2, I2⟩ (by simpa using hsz) hcount
        | false =>
          simp only [Bool.false_eq_true, if_false]
          have I2 := I.skip T g2 hDi g3 hrun
          rw [hD'] at I2
          exact ih _ _ _ ⟨e, F, HD, m, I2⟩ (by simpa using hsz) hcount
  refine go ops.size _ a w ⟨es, Fs, blkOf (Hs 0), fun _ => (Hs 0).length, ?_⟩ (by simp) (by
    have := List.length_filter_le (fun i => !(Array.replicate ops.size false).getD i true) (List.range ops.size)
    simpa using this)
  have hDf : ∀ k, ¬ (Array.replicate ops.size false).getD k false = true := by
    intro k
    simp [Array.getD]
  have hcut : es.cut (Hs 0).length = es := by rw [← hes]; rfl
  have H0 : RH es Fs X (Hs 0) w := by rw [T0.h0]; exact h4
  refine ⟨FLe.refl Fs, fun i _ => ⟨rfl, rfl, rfl⟩, fun k _ hD => absurd hD (hDf k), fun k _ hD => absurd hD (hDf k), fun t _ => ?_, h3.def_, h6, fun k _ hD => absurd hD (hDf k), fun id _ => ⟨rfl, rfl⟩, H0.fro, H0.out, H0.apart, fun id => ?_,
    fun i j hij hi hj hnn => H0.inj i j hij (live_iff.mpr hi) (live_iff.mpr hj) fun hx => hnn ⟨fro_iff.mp hx.1, fro_iff.mp hx.2⟩, fun i hi hnf => H0.mine i (live_iff.mpr hi) fun hx => hnf (fro_iff.mp hx), h5⟩
  · rw [hcut, T0.sl0]; exact h3.reg t
  · rw [hcut]
    cases hb : (Hs 0)[id]? with
    | none => unfold blkOf; rw [hb]; trivial
    | some b => unfold blkOf; rw [hb]; exact H0.blk id b hb

end
end Go.Proofs.Ytgplkdcibahofaa.Ev
