/-
  Operations whose order is drawn: what holds behind each one, and at the end. No program is named here.
-/
import Derived.Test.YtgplkdcibahofaaEvDraw4
namespace Go.Proofs.Ytgplkdcibahofaa.Ev
open Go

section
variable {C : Ctx} {P : Program}
variable {S : Sums C} {ops : Array Oper} {SL : Nat → Nat → AV C.E} {Hs : Nat → List (Blk C.E)} {st : Nat → StepI C} {nt : Nat} {es : Env} {Fs X : FH} {ws w w' : World} {D : Nat → Bool} {a : Act} {e e' : Env} {F F' : FH} {HD : Nat → Blk C.E} {m : Nat → Nat}
  {k : Nat} {o : Oper}

theorem put_get {a : Act} {d : Option Nat} {rv : Value} {t : Nat} (h : d ≠ some t) : (a.put d rv).tmps.getD t undef = a.tmps.getD t undef := by
  cases d with
  | none => rfl
  | some d =>
    have : d ≠ t := fun hh => h (by rw [hh])
    simp [Act.put, Array.getElem?_setIfInBounds_ne this]

theorem put_self {a : Act} {d : Nat} {rv : Value} (h : d < a.tmps.size) : (a.put (some d) rv).tmps.getD d undef = rv := by simp [Act.put, h]
theorem put_undef {a : Act} {d : Nat} : (a.put (some d) undef).tmps.getD d undef = undef := by
  by_cases h : d < a.tmps.size
  · exact put_self h
  · simp [Act.put, h]
theorem put_defs {a : Act} {d : Option Nat} {rv : Value} : (a.put d rv).defers = a.defers := by cases d <;> rfl
theorem put_size {a : Act} {d : Option Nat} {rv : Value} : (a.put d rv).tmps.size = a.tmps.size := by cases d <;> simp [Act.put]

/-- with the new numbers of an operation -/
def Env.with (e e' : Env) (L L' : Nat) : Env := ⟨e.sz, fun i => if L ≤ i ∧ i < L' then e'.ρ i else e.ρ i, fun i => if L ≤ i ∧ i < L' then e'.len i else e.len i, fun i => if L ≤ i ∧ i < L' then e'.cap i else e.cap i⟩

theorem LiveB.congr {e e' : Env} {id : Nat} {b : Blk C.E} (hc : e'.cap id = e.cap id) : LiveB e' id b ↔ LiveB e id b := by
  cases b <;> simp only [LiveB]
  rw [hc]

open Classical in
theorem Inv.done (hC : Ok C P) (T : Facts S ops SL Hs st) (I : Inv C X SL Hs st ops.size nt es Fs ws D a w e F HD m) (hk : ops[k]? = some o) (hDk : ¬ D k = true) (hr : ∀ x ∈ o.after, Region.binds .any x = true → D x.on = true) (hrun : (st k).run = true)
    (hd : opDst nt o = true) {rv : Value} (hp : Post (e.cut (Hs k).length) F (outer X w e HD (st k).rc.reads) w (st k).v (st k).hh rv w') :
    ∃ e2 F2 HD2 m2, Inv C X SL Hs st ops.size nt es Fs ws (fun i => D i || Nat.beq i k) (a.put o.dst rv) w' e2 F2 HD2 m2 := by
  obtain ⟨e', F', he, hF, hv, H', hx⟩ := hp
  have hkl : k < ops.size := (Array.getElem?_eq_some_iff.mp hk).1
  have hpre := I.pre T hk hr
  have hlen := T.hlen k o hk hrun
  have hLL := T.len k o hk
  have hdst := T.dst k o hk
  have hlate := fun j h1 h2 h3 => I.late T hDk (j := j) h1 h2 h3
  have hDs : ∀ j, (D j || Nat.beq j k) = true → j ≠ k → D j = true := by
    intro j hj hne
    rw [Bool.or_eq_true] at hj
    rcases hj with h | h
    · exact h
    · exact absurd (Nat.eq_of_beq_eq_true h) hne
  have hDk' : (D k || Nat.beq k k) = true := by simp
  have hDm : ∀ j, D j = true → (D j || Nat.beq j k) = true := fun j hj => by rw [hj]; rfl
  -- the new numbers
  have hlow : ∀ i, i < (Hs k).length → (e.with e' (Hs k).length (Hs (k + 1)).length).ρ i = e.ρ i ∧ (e.with e' (Hs k).length (Hs (k + 1)).length).len i = e.len i ∧ (e.with e' (Hs k).length (Hs (k + 1)).length).cap i = e.cap i := by
    intro i hi
    have hn : ¬ ((Hs k).length ≤ i ∧ i < (Hs (k + 1)).length) := by omega
    exact ⟨if_neg hn, if_neg hn, if_neg hn⟩
  have hold : ∀ i, ¬ ((Hs k).length ≤ i ∧ i < (Hs (k + 1)).length) → (e.with e' (Hs k).length (Hs (k + 1)).length).ρ i = e.ρ i ∧ (e.with e' (Hs k).length (Hs (k + 1)).length).len i = e.len i ∧ (e.with e' (Hs k).length (Hs (k + 1)).length).cap i = e.cap i :=
    fun i hn => ⟨if_neg hn, if_neg hn, if_neg hn⟩
  have hnew : ∀ i, i < (Hs (k + 1)).length → (e.with e' (Hs k).length (Hs (k + 1)).length).ρ i = e'.ρ i ∧ (e.with e' (Hs k).length (Hs (k + 1)).length).len i = e'.len i ∧ (e.with e' (Hs k).length (Hs (k + 1)).length).cap i = e'.cap i := by
    intro i hi
    by_cases h : (Hs k).length ≤ i
    · exact ⟨if_pos ⟨h, hi⟩, if_pos ⟨h, hi⟩, if_pos ⟨h, hi⟩⟩
    · have hi' : i < (Hs k).length := by omega
      obtain ⟨h1, h2, h3⟩ := hlow i hi'
      exact ⟨by rw [h1]; exact (he.ρ i hi').symm, by rw [h2]; exact (he.len i hi').symm, by rw [h3]; exact (he.cap i hi').symm⟩
  generalize he2 : e.with e' (Hs k).length (Hs (k + 1)).length = e2 at hlow hold hnew
  have hsz' : e'.sz = (Hs (k + 1)).length := by rw [hlen]; exact H'.sz
  have hE : ELe e' (e2.cut (Hs (k + 1)).length) := ⟨by rw [hsz']; exact Nat.le_refl _, fun i hi => (hnew i (by omega)).1, fun i hi => (hnew i (by omega)).2.1, fun i hi => (hnew i (by omega)).2.2⟩
  -- values that were there
  have tr1 : ∀ (B : Nat) (c : AV C.E) (u : Value), B ≤ (Hs k).length → RV C (e.cut B) F c u → RV C (e2.cut B) F' c u := by
    intro B c u hB hc
    have hle : ELe (e.cut B) (e2.cut B) := ⟨Nat.le_refl _, fun i hi => (hlow i (by have : i < B := hi; omega)).1, fun i hi => (hlow i (by have : i < B := hi; omega)).2.1, fun i hi => (hlow i (by have : i < B := hi; omega)).2.2⟩
    exact hc.mono hle hF
  have tr2 : ∀ (j B : Nat) (c : AV C.E) (u : Value), k < j → j < ops.size → D j = true → allIds (fun i => (st j).rc.reads.contains i || Nat.ble (Hs j).length i) 4 c = true → RV C (e.cut B) F c u → RV C (e2.cut B) F' c u := by
    intro j B c u h1 h2 h3 h4 hc
    have hag : Agree (e.cut B) (e2.cut B) (fun i => (st j).rc.reads.contains i || Nat.ble (Hs j).length i) := by
      intro i hi hiB
      have hn : ¬ ((Hs k).length ≤ i ∧ i < (Hs (k + 1)).length) := by
        rintro ⟨g1, g2⟩
        rw [Bool.or_eq_true] at hi
        rcases hi with hi | hi
        · exact (apart_ok (hlate j h1 h2 h3)).2.2.2 i (T.new k o hk hrun i g1 g2) (by simpa using hi)
        · have := Nat.le_of_ble_eq_true hi
          have := T.mono (show k + 1 ≤ j by omega) (by omega)
          omega
      exact ⟨hiB, (hold i hn).1, (hold i hn).2.1, (hold i hn).2.2⟩
    exact (hc.same hC hag 4 h4).mono (ELe.refl _) hF
  -- what the operation could reach
  have q : ∀ id, (id ∈ (st k).rc.reads ∨ ((Hs k).length ≤ id ∧ id < (Hs (k + 1)).length)) → (if id ∈ (st k).rc.wr then blkOf (Hs (k + 1)) id else HD id) = blkOf (st k).hh id := by
    intro id hid
    by_cases hw : id ∈ (st k).rc.wr
    · rw [if_pos hw]
      exact T.part k o hk hrun id (hid.imp (fun h => h) fun h => h.1)
    · rw [if_neg hw]
      rcases hid with hid | hid
      · rw [(I.reads T hk hDk hr hid).1, ← T.same k o hk id hw]
        exact T.part k o hk hrun id (.inl hid)
      · exact absurd (T.new k o hk hrun id hid.1 hid.2) hw
  have nd : ∀ id, ¬ (id ∈ (st k).rc.reads ∨ ((Hs k).length ≤ id ∧ id < (Hs (k + 1)).length)) → id ∉ (st k).rc.wr := fun id hn hw => hn (T.wr k o hk hrun id hw)
  have livelt : ∀ id (b : Blk C.E), blkOf (st k).hh id = b → LiveB e2 id b → id < (Hs (k + 1)).length := by
    intro id b hb hl
    rcases Nat.lt_or_ge id (Hs (k + 1)).length with h | h
    · exact h
    · rw [blkOf_ge (by omega)] at hb; subst hb; exact hl.elim
  have hblk' : ∀ id, id < (Hs (k + 1)).length → RB e' F' id w'.heap[e'.ρ id]? (blkOf (st k).hh id) := by
    intro id hid
    cases hb : (st k).hh[id]? with
    | none => unfold blkOf; rw [hb]; trivial
    | some b => unfold blkOf; rw [hb]; exact H'.blk id b hb
  -- what it could not reach
  have hX' : ∀ id, id ∉ (st k).rc.reads → LiveB e id (HD id) → ¬ FroB (HD id) → outer X w e HD (st k).rc.reads (e.ρ id) = w.heap[e.ρ id]? := by
    intro id h1 h2 h3
    unfold outer
    rw [I.mine id h2 h3]
    simp only []
    rw [if_pos ⟨id, h1, h2, h3, rfl⟩]
  have hXX : ∀ b, outer X w e HD (st k).rc.reads b = none → X b = none := by
    intro b hb
    unfold outer at hb
    cases hX : X b with
    | none => rfl
    | some y => rw [hX] at hb; cases hb
  have cross : ∀ i j, (i ∈ (st k).rc.reads ∨ ((Hs k).length ≤ i ∧ i < (Hs (k + 1)).length)) → ¬ (j ∈ (st k).rc.reads ∨ ((Hs k).length ≤ j ∧ j < (Hs (k + 1)).length)) → LiveB e2 i (blkOf (st k).hh i) → LiveB e j (HD j) → ¬ (FroB (blkOf (st k).hh i) ∧ FroB (HD j)) → e'.ρ i ≠ e.ρ j := by
    intro i j hi hj hli hlj hnn heq
    have hil := livelt i _ rfl hli
    have hli' : LiveB e' i (blkOf (st k).hh i) := (LiveB.congr (hnew i hil).2.2).mp hli
    have hjr : j ∉ (st k).rc.reads := fun h => hj (.inl h)
    have hBj : RB (e.cut (m j)) F j w.heap[e.ρ j]? (HD j) := I.blk j
    have hlj' : LiveB (e.cut (m j)) j (HD j) := (LiveB.congr rfl).mpr hlj
    obtain ⟨x, hx⟩ := hBj.live_some hlj'
    have hBi := hblk' i hil
    by_cases hfj : FroB (HD j)
    · have hfi : ¬ FroB (blkOf (st k).hh i) := fun h => hnn ⟨h, hfj⟩
      have h1 : F (e.ρ j) = w.heap[e.ρ j]? := hBj.live_f hlj' hfj
      have h2 := hF.le _ _ (h1.trans hx)
      have h3 := hBi.live_nf hli' hfi
      rw [heq, h2] at h3; cases h3
    · have h1 := hX' j hjr hlj hfj
      rw [hx] at h1
      by_cases hfi : FroB (blkOf (st k).hh i)
      · have h2 := H'.apart _ _ h1
        have h3 := hBi.live_f hli' hfi
        obtain ⟨y, hy⟩ := hBi.live_some hli'
        rw [hy] at h3
        rw [heq, h2] at h3; cases h3
      · have h2 := H'.mine i (live_iff.mpr hli') (fun h => hfi (fro_iff.mp h))
        rw [heq, h1] at h2; cases h2
  refine ⟨e2, F', fun id => if id ∈ (st k).rc.wr then blkOf (Hs (k + 1)) id else HD id, fun id => if id ∈ (st k).rc.wr then (Hs (k + 1)).length else m id, I.fle.trans hF, fun i hi => ?_, fun j hj hDj i hi => ?_, fun j hj hDj t ht => ?_, fun t ht => ?_,
    put_defs.trans I.def_, (by rw [put_size]; exact I.size), fun j hj hDj id hid hl => ?_, fun id hid => ?_, H'.fro, fun b x hb => ?_, fun b x hb => ?_, fun id => ?_, fun i j hij hi hj hnn => ?_, fun i hi hnf => ?_, I.ext.trans hx⟩
  · have hi' : i < (Hs k).length := Nat.lt_of_lt_of_le hi (T.mono (Nat.zero_le _) (by omega))
    obtain ⟨h1, h2, h3⟩ := hlow i hi'
    rw [h1, h2, h3]
    exact I.ele i hi
  · by_cases hjk : j = k
    · subst hjk; exact hDm i (hpre i hi)
    · exact hDm i (I.closed j hj (hDs j hDj hjk) i hi)
  · by_cases hjk : j = k
    · subst hjk
      rw [hdst] at ht
      have hlt : t < a.tmps.size := by
        have h1 := hd
        unfold opDst at h1
        rw [ht] at h1
        have : t < nt := by simpa [Nat.blt_eq] using h1
        have := I.size
        omega
      rw [ht, put_self hlt]
      exact hv.mono hE (FLe.refl F')
    · have hDj' := hDs j hDj hjk
      have hne : o.dst ≠ some t := by
        rw [← hdst]
        intro hh
        rcases Nat.lt_or_ge j k with h | h
        · exact T.fresh k o hk j t h ht hh
        · exact T.fresh j ops[j] (Array.getElem?_eq_getElem hj) k t (by omega) hh ht
      rw [put_get hne]
      have h1 := I.r1 j hj hDj' t ht
      rcases Nat.lt_or_ge j k with h | h
      · exact tr1 _ _ _ (T.mono (by omega) (by omega)) h1
      · have hgj : ops[j]? = some ops[j] := Array.getElem?_eq_getElem hj
        cases hrj : (st j).run with
        | true => exact tr2 j _ _ _ (by omega) hj hDj' (T.shutV j _ hgj hrj) h1
        | false =>
          rw [(T.stay j _ hgj hrj).1] at h1 ⊢
          rw [skip_inv h1]; exact skip_rv
  · have hne : o.dst ≠ some t := by rw [← hdst]; exact ht k hkl hDk'
    rw [put_get hne]
    exact tr1 _ _ _ (T.mono (Nat.zero_le _) (by omega)) (I.r0 t fun j hj hDj => ht j hj (hDm j hDj))
  · by_cases hjk : j = k
    · subst hjk; simp only [if_pos hid]; exact ⟨trivial, trivial⟩
    · have hDj' := hDs j hDj hjk
      have hnw : id ∉ (st k).rc.wr := by
        rcases Nat.lt_or_ge j k with h | h
        · exact hl k h hkl hDk'
        · exact fun hh => ((apart_ok (hlate j (by omega) hj hDj')).2.2.1 id hid).2 hh
      simp only [if_neg hnw]
      exact I.c1 j hj hDj' id hid fun i h1 h2 h3 => hl i h1 h2 (hDm i h3)
  · have hnw : id ∉ (st k).rc.wr := hid k hkl hDk'
    simp only [if_neg hnw]
    exact I.c0 id fun j hj hDj => hid j hj (hDm j hDj)
  · refine H'.out b x ?_
    unfold outer
    rw [hb]
  · refine H'.apart b x ?_
    unfold outer
    rw [hb]
  · by_cases hdom : id ∈ (st k).rc.reads ∨ ((Hs k).length ≤ id ∧ id < (Hs (k + 1)).length)
    · simp only [q id hdom]
      rcases Nat.lt_or_ge id (Hs (k + 1)).length with hil | hil
      · have hB := hblk' id hil
        by_cases hw : id ∈ (st k).rc.wr
        · rw [if_pos hw, (hnew id hil).1]
          exact RB.move hC hB (hnew id hil).1 (hnew id hil).2.1 (hnew id hil).2.2 (FLe.refl F') (fun h _ => h) fun l _ c _ v hv => hv.mono hE (FLe.refl F')
        · rw [if_neg hw, (hnew id hil).1]
          refine RB.move hC hB (hnew id hil).1 (hnew id hil).2.1 (hnew id hil).2.2 (FLe.refl F') (fun h _ => h) fun l hl c hc v hv => ?_
          have hBo : RB (e.cut (m id)) F id w.heap[e.ρ id]? (HD id) := I.blk id
          have hq := q id hdom
          rw [if_neg hw, hl] at hq
          rw [hq] at hBo
          obtain ⟨arr, el, g1, g2, g3, g4⟩ := hBo
          obtain ⟨i, hi, rfl⟩ := List.mem_iff_getElem.mp hc
          exact ((g4 i _ (List.getElem?_eq_getElem hi)).2).shrink hC (hv.mono hE (FLe.refl F'))
      · rw [blkOf_ge (by omega)]; trivial
    · have hnw := nd id hdom
      simp only [if_neg hnw]
      have hn : ¬ ((Hs k).length ≤ id ∧ id < (Hs (k + 1)).length) := fun h => hdom (.inr h)
      have hnr : id ∉ (st k).rc.reads := fun h => hdom (.inl h)
      have hBo : RB (e.cut (m id)) F id w.heap[e.ρ id]? (HD id) := I.blk id
      rw [(hold id hn).1]
      by_cases hl : LiveB e id (HD id)
      · have hl' : LiveB (e.cut (m id)) id (HD id) := (LiveB.congr rfl).mpr hl
        obtain ⟨x, hx0⟩ := hBo.live_some hl'
        have hsame : w'.heap[e.ρ id]? = w.heap[e.ρ id]? := by
          by_cases hf : FroB (HD id)
          · have h1 : F (e.ρ id) = w.heap[e.ρ id]? := hBo.live_f hl' hf
            rw [hx0] at h1 ⊢
            exact H'.fro _ _ (hF.le _ _ h1)
          · have h1 := hX' id hnr hl hf
            rw [hx0] at h1 ⊢
            exact H'.out _ _ h1
        rw [hsame]
        refine RB.move hC hBo (hold id hn).1 (hold id hn).2.1 (hold id hn).2.2 hF (fun h1 _ => ?_) fun l hl2 c hc v hv => ?_
        · have hf : ¬ FroB (HD id) := fun hf => by
            have h2 : F (e.ρ id) = w.heap[e.ρ id]? := hBo.live_f hl' hf
            have h1' : F (e.ρ id) = none := h1
            rw [h1', hx0] at h2; cases h2
          have h2 := hX' id hnr hl hf
          rw [hx0] at h2
          exact H'.apart _ _ h2
        · rcases last_writer (st := st) D id ops.size with ⟨j, h1, h2, h3, h4⟩ | h1
          · obtain ⟨g1, g2⟩ := I.c1 j h1 h2 id h3 h4
            rcases Nat.lt_trichotomy j k with h | h | h
            · exact tr1 _ _ _ (by rw [g2]; exact T.mono (by omega) (by omega)) hv
            · subst h; exact absurd h2 hDk
            · have hgj : ops[j]? = some ops[j] := Array.getElem?_eq_getElem h1
              have hrj : (st j).run = true := by
                cases hrj : (st j).run with
                | true => rfl
                | false => rw [(T.stay j _ hgj hrj).2.1] at h3; cases h3
              have hsh := T.shutB j _ hgj hrj id ((T.wr j _ hgj hrj id h3).imp (fun h => h) fun h => h.1)
              rw [← T.part j _ hgj hrj id ((T.wr j _ hgj hrj id h3).imp (fun h => h) fun h => h.1), ← g1, hl2] at hsh
              simp only [blkAll, List.all_eq_true] at hsh
              exact tr2 j _ _ _ h h1 h2 (hsh c hc) hv
          · obtain ⟨g1, g2⟩ := I.c0 id h1
            exact tr1 _ _ _ (by rw [g2]; exact T.mono (Nat.zero_le _) (by omega)) hv
      · cases hb : HD id with
        | dead => trivial
        | cells l => rw [hb] at hl; exact absurd trivial hl
        | arr t l fro =>
          rw [hb] at hl hBo
          have hcap : e.cap id = 0 := by
            rcases Nat.eq_zero_or_pos (e.cap id) with h | h
            · exact h
            · exact absurd (by show e.cap id ≠ 0; omega) hl
          have hl0 : l = [] := by
            rcases hBo.2 with h | ⟨_, _, _, _, _, _, h5, _⟩
            · exact h.2
            · have : (e.cut (m id)).cap id = 0 := hcap
              rw [this] at h5; exact List.length_eq_zero_iff.mp (by omega)
          exact ⟨by show e2.len id = _; rw [(hold id hn).2.1]; exact hBo.1, .inl ⟨by show e2.cap id = 0; rw [(hold id hn).2.2]; exact hcap, hl0⟩⟩
        | map x y z => rw [hb] at hBo; exact hBo.elim
  · by_cases di : i ∈ (st k).rc.reads ∨ ((Hs k).length ≤ i ∧ i < (Hs (k + 1)).length) <;> by_cases dj : j ∈ (st k).rc.reads ∨ ((Hs k).length ≤ j ∧ j < (Hs (k + 1)).length)
    · simp only [q i di, q j dj] at hi hj hnn
      have hil := livelt i _ rfl hi
      have hjl := livelt j _ rfl hj
      rw [(hnew i hil).1, (hnew j hjl).1]
      exact H'.inj i j hij (live_iff.mpr ((LiveB.congr (hnew i hil).2.2).mp hi)) (live_iff.mpr ((LiveB.congr (hnew j hjl).2.2).mp hj)) fun hh => hnn ⟨fro_iff.mp hh.1, fro_iff.mp hh.2⟩
    · have hnj : ¬ ((Hs k).length ≤ j ∧ j < (Hs (k + 1)).length) := fun h => dj (.inr h)
      simp only [q i di, if_neg (nd j dj)] at hi hj hnn
      have hil := livelt i _ rfl hi
      rw [(hnew i hil).1, (hold j hnj).1]
      exact cross i j di dj hi ((LiveB.congr (hold j hnj).2.2).mp hj) hnn
    · have hni : ¬ ((Hs k).length ≤ i ∧ i < (Hs (k + 1)).length) := fun h => di (.inr h)
      simp only [q j dj, if_neg (nd i di)] at hi hj hnn
      have hjl := livelt j _ rfl hj
      rw [(hnew j hjl).1, (hold i hni).1]
      exact fun h => cross j i dj di hj ((LiveB.congr (hold i hni).2.2).mp hi) (fun hh => hnn ⟨hh.2, hh.1⟩) h.symm
    · have hni : ¬ ((Hs k).length ≤ i ∧ i < (Hs (k + 1)).length) := fun h => di (.inr h)
      have hnj : ¬ ((Hs k).length ≤ j ∧ j < (Hs (k + 1)).length) := fun h => dj (.inr h)
      simp only [if_neg (nd i di), if_neg (nd j dj)] at hi hj hnn
      rw [(hold i hni).1, (hold j hnj).1]
      exact I.inj i j hij ((LiveB.congr (hold i hni).2.2).mp hi) ((LiveB.congr (hold j hnj).2.2).mp hj) hnn
  · by_cases di : i ∈ (st k).rc.reads ∨ ((Hs k).length ≤ i ∧ i < (Hs (k + 1)).length)
    · simp only [q i di] at hi hnf
      have hil := livelt i _ rfl hi
      rw [(hnew i hil).1]
      exact hXX _ (H'.mine i (live_iff.mpr ((LiveB.congr (hnew i hil).2.2).mp hi)) fun h => hnf (fro_iff.mp h))
    · have hni : ¬ ((Hs k).length ≤ i ∧ i < (Hs (k + 1)).length) := fun h => di (.inr h)
      simp only [if_neg (nd i di)] at hi hnf
      rw [(hold i hni).1]
      exact I.mine i ((LiveB.congr (hold i hni).2.2).mp hi) hnf

end
end Go.Proofs.Ytgplkdcibahofaa.Ev
