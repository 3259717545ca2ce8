/-
  Operations whose order is drawn: what each one leaves alone. No program is named here.
-/
import Derived.Test.YtgplkdcibahofaaEvDraw
namespace Go.Proofs.Ytgplkdcibahofaa.Ev
open Go

section
variable {C : Ctx} {P : Program}

def Env.cut (e : Env) (m : Nat) : Env := { e with sz := m }
theorem Env.cut_le (e : Env) {m m' : Nat} (h : m ≤ m') : ELe (e.cut m) (e.cut m') := ⟨h, fun _ _ => rfl, fun _ _ => rfl, fun _ _ => rfl⟩

/-- the block of a number, if there is one -/
def blkOf (h : List (Blk C.E)) (id : Nat) : Blk C.E := (h[id]?).getD .dead

theorem blkOf_ge {h : List (Blk C.E)} {id : Nat} (hi : h.length ≤ id) : blkOf h id = .dead := by unfold blkOf; rw [List.getElem?_eq_none hi]; rfl

theorem only_length (keep : List Nat) : ∀ (n : Nat) (h : List (Blk C.E)), (only keep n h).length = h.length
  | _, [] => rfl
  | n, b :: r => by simp [only, only_length keep (n + 1) r]

theorem only_get (keep : List Nat) : ∀ (n : Nat) (h : List (Blk C.E)) (i : Nat), blkOf (only keep n h) i = (match keep.contains (n + i) with | true => blkOf h i | false => .dead)
  | n, [], i => by
    have : blkOf ([] : List (Blk C.E)) i = .dead := blkOf_ge (Nat.zero_le i)
    show blkOf [] i = _
    rw [this]; split <;> rfl
  | n, b :: r, 0 => by
    show (match keep.contains n with | true => b | false => .dead) = (match keep.contains (n + 0) with | true => b | false => .dead)
    rfl
  | n, b :: r, i + 1 => by
    have := only_get keep (n + 1) r i
    rw [show n + 1 + i = n + (i + 1) by omega] at this
    exact this

theorem over_length (keep : List Nat) : ∀ (n : Nat) (h h' : List (Blk C.E)), h.length ≤ h'.length → (over keep n h h').length = h'.length
  | _, [], h', _ => rfl
  | _, b :: r, [], hl => by simp at hl
  | n, b :: r, c :: s, hl => by simp [over, over_length keep (n + 1) r s (by simpa using hl)]

theorem over_get (keep : List Nat) : ∀ (n : Nat) (h h' : List (Blk C.E)) (i : Nat), h.length ≤ h'.length → blkOf (over keep n h h') i = (if keep.contains (n + i) = true ∨ h.length ≤ i then blkOf h' i else blkOf h i)
  | n, [], h', i, _ => by
    have : over keep n ([] : List (Blk C.E)) h' = h' := rfl
    rw [this, if_pos (.inr (by simp))]
  | _, b :: r, [], i, hl => by simp at hl
  | n, b :: r, c :: s, 0, hl => by
    show (match keep.contains n with | true => c | false => b) = (if keep.contains (n + 0) = true ∨ (b :: r).length ≤ 0 then c else b)
    rw [Nat.add_zero]
    cases hk : keep.contains n
    · rw [if_neg (by simp)]
    · rw [if_pos (.inl rfl)]
  | n, b :: r, c :: s, i + 1, hl => by
    have := over_get keep (n + 1) r s i (by simpa using hl)
    rw [show n + 1 + i = n + (i + 1) by omega] at this
    show blkOf (over keep (n + 1) r s) i = _
    rw [this]
    have h1 : blkOf (c :: s) (i + 1) = blkOf s i := rfl
    have h2 : blkOf (b :: r) (i + 1) = blkOf r i := rfl
    rw [h1, h2]
    by_cases hc : keep.contains (n + (i + 1)) = true ∨ r.length ≤ i
    · rw [if_pos hc, if_pos (by simpa using hc)]
    · rw [if_neg hc, if_neg (by simpa using hc)]

theorem mem_fromTo : ∀ {n a i : Nat}, i ∈ fromTo n a ↔ a ≤ i ∧ i < a + n
  | 0, a, i => by
    constructor
    · intro h; simp [fromTo] at h
    · intro h; omega
  | n + 1, a, i => by simp only [fromTo, List.mem_cons, mem_fromTo]; omega

theorem meets_false {a b : List Nat} (h : meets a b = false) : ∀ x ∈ a, x ∉ b := by
  intro x hx hb
  unfold meets at h
  rw [List.any_eq_false] at h
  exact h x hx (by simpa using hb)

theorem apart_ok {a b : Rec} (h : apart a b = true) : (∀ d, a.dst = some d → d ∉ b.looks) ∧ (∀ d, b.dst = some d → d ∉ a.looks) ∧ (∀ i ∈ a.wr, i ∉ b.reads ∧ i ∉ b.wr) ∧ (∀ i ∈ b.wr, i ∉ a.reads) := by
  unfold apart at h
  simp only [Bool.and_eq_true, Bool.not_eq_true'] at h
  obtain ⟨⟨⟨⟨h1, h2⟩, _⟩, h4⟩, h5⟩ := h
  refine ⟨fun d hd => ?_, fun d hd => ?_, fun i hi => ?_, fun i hi => meets_false h5 i hi⟩
  · exact meets_false h1 d (by rw [hd]; simp)
  · exact meets_false h2 d (by rw [hd]; simp)
  · have := meets_false h4 i hi
    simpa using this

theorem dedupL_mem : ∀ {l acc : List Nat} {i : Nat}, i ∈ dedupL acc l → i ∈ acc ∨ i ∈ l
  | [], acc, i, h => .inl h
  | x :: r, acc, i, h => by
    simp only [dedupL] at h
    split at h
    · rcases dedupL_mem h with h | h
      · exact .inl h
      · exact .inr (by simp [h])
    · rcases dedupL_mem h with h | h
      · rw [List.mem_cons] at h
        rcases h with h | h
        · exact .inr (by simp [h])
        · exact .inl h
      · exact .inr (by simp [h])

/-- what is said of the operations, one by one -/
structure Facts (S : Sums C) (ops : Array Oper) (SL : Nat → Nat → AV C.E) (Hs : Nat → List (Blk C.E)) (st : Nat → StepI C) : Prop where
  dst : ∀ (k : Nat) (o : Oper), ops[k]? = some o → (st k).rc.dst = o.dst
  looks : ∀ (k : Nat) (o : Oper), ops[k]? = some o → (st k).rc.looks = tmpsOf o ops.toList
  pred : ∀ (k : Nat) (o : Oper), ops[k]? = some o → ∀ i ∈ (st k).rc.preds, ∃ e ∈ o.after, Region.binds .any e = true ∧ (i = e.on ∨ (e.on < k ∧ i ∈ (st e.on).rc.preds))
  edge : ∀ (k : Nat) (o : Oper), ops[k]? = some o → ∀ e ∈ o.after, Region.binds .any e = true → e.on < k
  far : ∀ (k : Nat) (o : Oper), ops[k]? = some o → ∀ i, i < k → i ∈ (st k).rc.preds ∨ apart (st k).rc (st i).rc = true
  fresh : ∀ (k : Nat) (o : Oper), ops[k]? = some o → ∀ i d, i < k → (st i).rc.dst = some d → (st k).rc.dst ≠ some d
  guard : ∀ (k : Nat) (o : Oper), ops[k]? = some o → GuardIs ops (st k).sl o (st k).run
  regs : ∀ (k : Nat) (o : Oper), ops[k]? = some o → ∀ t, (st k).sl.get t = SL k t
  put : ∀ (k : Nat) (o : Oper), ops[k]? = some o → ∀ t, SL (k + 1) t = if o.dst = some t then (st k).v else SL k t
  out : ∀ (k : Nat) (o : Oper), ops[k]? = some o → (st k).run = true → Out (only (st k).rc.reads 0 (Hs k)) (opF C S (st k).sl (only (st k).rc.reads 0 (Hs k)) o) (st k).v (st k).hh
  len : ∀ (k : Nat) (o : Oper), ops[k]? = some o → (Hs k).length ≤ (Hs (k + 1)).length
  hlen : ∀ (k : Nat) (o : Oper), ops[k]? = some o → (st k).run = true → (Hs (k + 1)).length = (st k).hh.length
  stay : ∀ (k : Nat) (o : Oper), ops[k]? = some o → (st k).run = false → (st k).v = .tuple [] ∧ (st k).rc.wr = [] ∧ Hs (k + 1) = Hs k
  same : ∀ (k : Nat) (o : Oper), ops[k]? = some o → ∀ id, id ∉ (st k).rc.wr → blkOf (Hs (k + 1)) id = blkOf (Hs k) id
  part : ∀ (k : Nat) (o : Oper), ops[k]? = some o → (st k).run = true → ∀ id, (id ∈ (st k).rc.reads ∨ (Hs k).length ≤ id) → blkOf (Hs (k + 1)) id = blkOf (st k).hh id
  wr : ∀ (k : Nat) (o : Oper), ops[k]? = some o → (st k).run = true → ∀ id, id ∈ (st k).rc.wr → id ∈ (st k).rc.reads ∨ ((Hs k).length ≤ id ∧ id < (Hs (k + 1)).length)
  new : ∀ (k : Nat) (o : Oper), ops[k]? = some o → (st k).run = true → ∀ id, (Hs k).length ≤ id → id < (Hs (k + 1)).length → id ∈ (st k).rc.wr
  shutV : ∀ (k : Nat) (o : Oper), ops[k]? = some o → (st k).run = true → allIds (fun i => (st k).rc.reads.contains i || Nat.ble (Hs k).length i) 4 (st k).v = true
  shutB : ∀ (k : Nat) (o : Oper), ops[k]? = some o → (st k).run = true → ∀ id, (id ∈ (st k).rc.reads ∨ (Hs k).length ≤ id) → blkAll (fun i => (st k).rc.reads.contains i || Nat.ble (Hs k).length i) (blkOf (st k).hh id) = true

theorem out_keeps {hin : List (Blk C.E)} {r : OpR C.E} (hk : Keeps hin r) {v : AV C.E} {hh : List (Blk C.E)} (ho : Out hin r v hh) : ∃ x, hh = hin ++ x := by
  cases r with
  | no => exact ho.elim
  | val v => exact ⟨[], by rw [ho.2]; simp⟩
  | chk p v => exact ⟨[], by rw [ho.2.2]; simp⟩
  | mem v h' => obtain ⟨x, hx⟩ := hk; exact ⟨x, by rw [ho.2, hx]⟩
  | chm p v h' => obtain ⟨x, hx⟩ := hk; exact ⟨x, by rw [ho.2.2, hx]⟩
  | anyB p => exact ho.elim

theorem facts {S : Sums C} {ops : Array Oper} {sl : Tr C.E} {h : List (Blk C.E)} {SL : Nat → Nat → AV C.E} {Hs : Nat → List (Blk C.E)} {st : Nat → StepI C} {slN : Tr C.E} {hN : List (Blk C.E)}
    (T : Trace S ops [] ops.toList sl h SL Hs st slN hN) : Facts S ops SL Hs st := by
  have L : ∀ (k : Nat) (o : Oper), ops[k]? = some o → ops.toList[k]? = some o := fun k o hk => by simpa using hk
  have prev : ∀ k i : Nat, i < k → (([] : List Rec) ++ (List.range k).map fun i => (st i).rc)[i]? = some (st i).rc := by
    intro k i hi
    simp [hi]
  have ok := fun k o hk => T.step k o (L k o hk)
  -- an operation that is done: lengths and blocks
  have key : ∀ (k : Nat) (o : Oper), ops[k]? = some o → (st k).run = true → (Hs k).length ≤ (st k).hh.length ∧ (Hs (k + 1)).length = (st k).hh.length ∧
      (∀ id, (id ∈ (st k).rc.reads ∨ (Hs k).length ≤ id) → blkOf (Hs (k + 1)) id = blkOf (st k).hh id) ∧ (∀ id, id ∉ (st k).rc.reads → id < (Hs k).length → blkOf (Hs (k + 1)) id = blkOf (Hs k) id) ∧
      (wrAt C (st k).sl o = false → ∀ id, id < (Hs k).length → blkOf (Hs (k + 1)) id = blkOf (Hs k) id) := by
    intro k o hk hr
    obtain ⟨_, _, _, _, _, hrun, _⟩ := ok k o hk
    obtain ⟨ho, hcl, hwr⟩ := hrun hr
    have hh := T.heap k o (L k o hk)
    rw [hh] at ho hcl
    have hle : (Hs k).length ≤ (st k).hh.length := by
      unfold closedD at hcl
      simp only [Bool.and_eq_true] at hcl
      exact Nat.le_of_ble_eq_true hcl.1.1.1
    have hnx := T.next k o (L k o hk)
    unfold StepI.after behind at hnx
    rw [hr, hh] at hnx
    cases hw : wrAt C (st k).sl o with
    | true =>
      rw [hw] at hnx
      simp only [] at hnx
      have hg : ∀ id, blkOf (Hs (k + 1)) id = (if (st k).rc.reads.contains id = true ∨ (Hs k).length ≤ id then blkOf (st k).hh id else blkOf (Hs k) id) := by
        intro id
        rw [hnx, over_get _ 0 _ _ _ hle, Nat.zero_add]
      refine ⟨hle, by rw [hnx, over_length _ _ _ _ hle], fun id hid => ?_, fun id h1 h2 => ?_, fun hf => (by cases hf)⟩
      · rw [hg, if_pos (by simpa using hid)]
      · rw [hg, if_neg (by simp [h1]; omega)]
    | false =>
      rw [hw] at hnx
      simp only [] at hnx
      have hlow : ∀ id, id < (Hs k).length → blkOf (Hs (k + 1)) id = blkOf (Hs k) id := by
        intro id hid
        unfold blkOf
        rw [hnx, List.getElem?_append_left hid]
      obtain ⟨x, hx⟩ := out_keeps (opF_keeps' (S := S) (sl := (st k).sl) (only (st k).rc.reads 0 (Hs k)) o hw) ho
      refine ⟨hle, by rw [hnx]; simp; omega, fun id hid => ?_, fun id _ h2 => hlow id h2, fun _ => hlow⟩
      by_cases hlt : id < (Hs k).length
      · have hmem : id ∈ (st k).rc.reads := hid.resolve_right (by omega)
        rw [hlow id hlt]
        have h3 : blkOf (st k).hh id = blkOf (only (st k).rc.reads 0 (Hs k)) id := by
          unfold blkOf
          rw [hx, List.getElem?_append_left (by rw [only_length]; exact hlt)]
        rw [h3, only_get, Nat.zero_add]
        have : (st k).rc.reads.contains id = true := by simpa using hmem
        rw [this]
      · unfold blkOf
        rw [hnx, List.getElem?_append_right (by omega), List.getElem?_drop]
        rw [show (Hs k).length + (id - (Hs k).length) = id by omega]
  have wrk : ∀ (k : Nat) (o : Oper), ops[k]? = some o → (st k).run = true → ∀ id, id ∈ (st k).rc.wr ↔ ((wrAt C (st k).sl o = true ∧ id ∈ (st k).rc.reads) ∨ ((Hs k).length ≤ id ∧ id < (Hs (k + 1)).length)) := by
    intro k o hk hr id
    obtain ⟨_, _, _, _, _, hrun, _⟩ := ok k o hk
    obtain ⟨ho, hcl, hwr⟩ := hrun hr
    have hh := T.heap k o (L k o hk)
    obtain ⟨k1, k2, _⟩ := key k o hk hr
    rw [hwr, hh, List.mem_append, mem_fromTo, k2]
    have : (Hs k).length + ((st k).hh.length - (Hs k).length) = (st k).hh.length := by omega
    rw [this]
    cases wrAt C (st k).sl o <;> simp
  refine ⟨fun k o hk => (ok k o hk).1, fun k o hk => (ok k o hk).2.1, fun k o hk i hi => ?_, fun k o hk e he hb => ?_, fun k o hk i hik => ?_, fun k o hk i d hik hd hd' => ?_, fun k o hk => (ok k o hk).2.2.2.2.1, fun k o hk => T.regs k o (L k o hk),
    fun k o hk => T.put k o (L k o hk), fun k o hk hr => ?_, fun k o hk => ?_, fun k o hk hr => (key k o hk hr).2.1, fun k o hk hr => ?_, fun k o hk id hid => ?_, fun k o hk hr => (key k o hk hr).2.2.1, fun k o hk hr id hid => ?_, fun k o hk hr id h1 h2 => (wrk k o hk hr id).mpr (.inr ⟨h1, h2⟩), fun k o hk hr => ?_, fun k o hk hr id hid => ?_⟩
  · have h1 := (ok k o hk).2.2.1
    rw [h1] at hi
    unfold predsOf at hi
    replace hi := (dedupL_mem hi).resolve_left (by simp)
    rw [List.mem_flatMap] at hi
    obtain ⟨e, he, hi⟩ := hi
    split at hi
    · rename_i hb
      refine ⟨e, by simpa using he, hb, ?_⟩
      rw [List.mem_cons] at hi
      rcases hi with hi | hi
      · exact .inl hi
      · refine .inr ?_
        by_cases hlt : e.on < k
        · rw [List.getElem?_map, prev k e.on hlt] at hi
          exact ⟨hlt, hi⟩
        · rw [List.getElem?_eq_none (by simp; omega)] at hi
          simp at hi
    · simp at hi
  · have h1 := (ok k o hk).2.2.2.1
    unfold okD at h1
    simp only [Bool.and_eq_true] at h1
    have h2 := h1.1.1
    unfold edgesOk at h2
    rw [List.all_eq_true] at h2
    have := h2 e (by simpa using he)
    simp only [hb, Bool.not_true, Bool.false_or, Nat.blt_eq] at this
    simpa using this
  · have h1 := (ok k o hk).2.2.2.1
    unfold okD at h1
    simp only [Bool.and_eq_true] at h1
    have := allApart_ok h1.2 i _ (prev k i hik)
    rwa [Nat.zero_add] at this
  · have h1 := (ok k o hk).2.2.2.1
    unfold okD at h1
    simp only [Bool.and_eq_true] at h1
    rw [(ok k o hk).1] at hd'
    have h2 := h1.1.2
    rw [hd'] at h2
    exact freshDst_ok h2 i _ (prev k i hik) hd
  · obtain ⟨_, _, _, _, _, hrun, _⟩ := ok k o hk
    have := (hrun hr).1
    rwa [T.heap k o (L k o hk)] at this
  · cases hr : (st k).run with
    | true => have := key k o hk hr; omega
    | false =>
      have hnx := T.next k o (L k o hk)
      unfold StepI.after at hnx
      rw [hr] at hnx
      rw [hnx, T.heap k o (L k o hk)]; exact Nat.le_refl _
  · obtain ⟨_, _, _, _, _, _, hst⟩ := ok k o hk
    have hnx := T.next k o (L k o hk)
    unfold StepI.after at hnx
    rw [hr] at hnx
    exact ⟨(hst hr).1, (hst hr).2.2, by rw [hnx, T.heap k o (L k o hk)]⟩
  · cases hr : (st k).run with
    | true =>
      obtain ⟨k1, k2, k3, k4, k5⟩ := key k o hk hr
      rw [wrk k o hk hr] at hid
      by_cases hlt : id < (Hs k).length
      · by_cases hmem : id ∈ (st k).rc.reads
        · cases hw : wrAt C (st k).sl o with
          | true => exact absurd (.inl ⟨hw, hmem⟩) hid
          | false => exact k5 hw id hlt
        · exact k4 id hmem hlt
      · have : (Hs (k + 1)).length ≤ id := by
          rcases Nat.lt_or_ge id (Hs (k + 1)).length with h1 | h1
          · exact absurd (.inr ⟨by omega, h1⟩) hid
          · exact h1
        rw [blkOf_ge this, blkOf_ge (by omega)]
    | false =>
      have hnx := T.next k o (L k o hk)
      unfold StepI.after at hnx
      rw [hr] at hnx
      rw [hnx, T.heap k o (L k o hk)]
  · rcases (wrk k o hk hr id).mp hid with h1 | h1
    · exact .inl h1.2
    · exact .inr h1
  · obtain ⟨_, _, _, _, _, hrun, _⟩ := ok k o hk
    have hcl := (hrun hr).2.1
    rw [T.heap k o (L k o hk)] at hcl
    unfold closedD at hcl
    simp only [Bool.and_eq_true] at hcl
    exact hcl.1.1.2
  · obtain ⟨_, _, _, _, _, hrun, _⟩ := ok k o hk
    have hcl := (hrun hr).2.1
    rw [T.heap k o (L k o hk)] at hcl
    unfold closedD at hcl
    simp only [Bool.and_eq_true, List.all_eq_true] at hcl
    unfold blkOf
    cases hb : (st k).hh[id]? with
    | none => rfl
    | some b =>
      rcases hid with hid | hid
      · have := hcl.2 id hid
        rw [hb] at this
        exact this
      · refine hcl.1.2 b ?_
        have : ((st k).hh.drop (Hs k).length)[id - (Hs k).length]? = some b := by
          rw [List.getElem?_drop, show (Hs k).length + (id - (Hs k).length) = id by omega, hb]
        exact List.mem_of_getElem? this

end
end Go.Proofs.Ytgplkdcibahofaa.Ev
