/-
  Operations whose order is drawn: what the evaluator has said of them in their own order. No program is named here.
-/
import Derived.Test.YtgplkdcibahofaaEvPure
namespace Go.Proofs.Ytgplkdcibahofaa.Ev
open Go

section
variable {C : Ctx} {P : Program}

variable (C) in
structure StepI where
  rc : Rec
  run : Bool
  v : AV C.E
  sl : Tr C.E
  h : List (Blk C.E)
  hh : List (Blk C.E)

variable (C) in
def StepI.none : StepI C := ⟨⟨[], .none, [], [], []⟩, false, .tuple [], .lf, [], []⟩

def GuardIs (ops : Array Oper) (sl : Tr C.E) (o : Oper) (b : Bool) : Prop := match o.guard with
  | .none => b = true
  | some (j, want) => ∃ oj t, ops[j]? = some oj ∧ oj.dst = some t ∧ ((∃ c, sl.get t = .bool c ∧ b = (c == want)) ∨ (sl.get t = .tuple [] ∧ b = false))

def StepOk (S : Sums C) (ops : Array Oper) (prev : List Rec) (o : Oper) (s : StepI C) : Prop :=
  s.rc.dst = o.dst ∧ s.rc.looks = tmpsOf o ops.toList ∧ s.rc.preds = predsOf (prev.map Rec.preds) o ∧ okD prev o s.rc = true ∧ GuardIs ops s.sl o s.run ∧
  (s.run = true → Out (only s.rc.reads 0 s.h) (opF C S s.sl (only s.rc.reads 0 s.h) o) s.v s.hh ∧ closedD C s.rc.reads s.h.length s.v s.hh = true ∧
    s.rc.wr = (match wrAt C s.sl o with | true => s.rc.reads | false => []) ++ fromTo (s.hh.length - s.h.length) s.h.length) ∧
  (s.run = false → s.v = .tuple [] ∧ s.rc.reads = [] ∧ s.rc.wr = [])

def StepI.after (o : Oper) (s : StepI C) : List (Blk C.E) := match s.run with
  | true => behind C (wrAt C s.sl o) s.rc.reads s.h s.hh
  | false => s.h

structure Trace (S : Sums C) (ops : Array Oper) (prev : List Rec) (rest : List Oper) (sl : Tr C.E) (h : List (Blk C.E)) (SL : Nat → Nat → AV C.E) (Hs : Nat → List (Blk C.E)) (st : Nat → StepI C) (slN : Tr C.E) (hN : List (Blk C.E)) : Prop where
  step : ∀ (k : Nat) (o : Oper), rest[k]? = some o → StepOk S ops (prev ++ (List.range k).map fun i => (st i).rc) o (st k)
  regs : ∀ (k : Nat) (o : Oper), rest[k]? = some o → ∀ t, (st k).sl.get t = SL k t
  heap : ∀ (k : Nat) (o : Oper), rest[k]? = some o → (st k).h = Hs k
  next : ∀ (k : Nat) (o : Oper), rest[k]? = some o → Hs (k + 1) = (st k).after o
  put : ∀ (k : Nat) (o : Oper), rest[k]? = some o → ∀ t, SL (k + 1) t = if o.dst = some t then (st k).v else SL k t
  sl0 : SL 0 = sl.get
  h0 : Hs 0 = h
  slE : SL rest.length = slN.get
  hE : Hs rest.length = hN

theorem guarded_is {ops : Array Oper} {sl : Tr C.E} {o : Oper} {run skip : Tr C.E → Prop} (hk : guarded C ops.toList sl o run skip) :
    ∃ sl' b, (∀ n, sl'.get n = sl.get n) ∧ GuardIs ops sl' o b ∧ ((b = true ∧ run sl') ∨ (b = false ∧ skip sl')) := by
  unfold guarded at hk
  split at hk
  · rename_i hg
    exact ⟨sl, true, fun _ => rfl, by unfold GuardIs; rw [hg], .inl ⟨rfl, hk⟩⟩
  · rename_i j want hg
    split at hk
    · rename_i oj hoj
      split at hk
      · rename_i t ht
        split at hk
        · rename_i c hc
          have hoj' : ops[j]? = some oj := by simpa using hoj
          have hset : ∀ (b' : Bool) (K : Tr C.E → Prop), c = b' → setK fuel sl t (.bool b') K → ∃ sl', (∀ n, sl'.get n = sl.get n) ∧ K sl' := by
            intro b' K hbb hh
            obtain ⟨s1, h1, h2⟩ := setK_ok fuel hh
            refine ⟨s1, fun n => ?_, h1⟩
            rw [h2]
            split
            · rename_i hn; rw [hn, hc, hbb]
            · rfl
          have hgi : ∀ sl' : Tr C.E, (∀ n, sl'.get n = sl.get n) → GuardIs ops sl' o (c == want) := by
            intro sl' hh
            unfold GuardIs
            rw [hg]
            exact ⟨oj, t, hoj', ht, .inl ⟨c, by rw [hh, hc], rfl⟩⟩
          cases want <;> cases c <;> simp only [br] at hk
          · obtain ⟨s1, h1, h2⟩ := hset _ _ rfl hk; exact ⟨s1, _, h1, hgi s1 h1, .inl ⟨rfl, h2⟩⟩
          · obtain ⟨s1, h1, h2⟩ := hset _ _ rfl hk; exact ⟨s1, _, h1, hgi s1 h1, .inr ⟨rfl, h2⟩⟩
          · obtain ⟨s1, h1, h2⟩ := hset _ _ rfl hk; exact ⟨s1, _, h1, hgi s1 h1, .inr ⟨rfl, h2⟩⟩
          · obtain ⟨s1, h1, h2⟩ := hset _ _ rfl hk; exact ⟨s1, _, h1, hgi s1 h1, .inl ⟨rfl, h2⟩⟩
        · rename_i vs hc
          split at hk
          · have hoj' : ops[j]? = some oj := by simpa using hoj
            exact ⟨sl, false, fun _ => rfl, by unfold GuardIs; rw [hg]; exact ⟨oj, t, hoj', ht, .inr ⟨hc, rfl⟩⟩, .inr ⟨rfl, hk⟩⟩
          · exact hk.elim
        · exact hk.elim
      · exact hk.elim
    · exact hk.elim

theorem putK_ok {sl : Tr C.E} {d : Option Nat} {v : AV C.E} {K : Tr C.E → Prop} (hk : put C sl d v K) : ∃ sl', K sl' ∧ ∀ t, sl'.get t = if d = some t then v else sl.get t := by
  unfold put at hk
  split at hk
  · rename_i d
    obtain ⟨s1, h1, h2⟩ := setK_ok fuel hk
    refine ⟨s1, h1, fun t => ?_⟩
    rw [h2]
    by_cases ht : t = d
    · subst ht; simp
    · rw [if_neg ht, if_neg (fun hh => ht (Option.some.inj hh).symm)]
  · exact ⟨sl, hk, fun t => by simp⟩

theorem after_out {hin : List (Blk C.E)} {r : OpR C.E} {K : AV C.E → List (Blk C.E) → Prop} (hk : afterD C hin r K False) : ∃ v hh, Out hin r v hh ∧ K v hh := by
  unfold afterD at hk
  cases r with
  | anyB p => exact hk.elim
  | no => exact hk.elim
  | val v =>
    simp only [after, forceV_eq] at hk
    exact ⟨v, hin, ⟨rfl, rfl⟩, hk⟩
  | chk p v =>
    simp only [after, forceV_eq] at hk
    exact ⟨v, hin, ⟨hk.1, rfl, rfl⟩, hk.2⟩
  | mem v h' =>
    simp only [after, forceV_eq, forceH_eq] at hk
    exact ⟨v, h', ⟨rfl, rfl⟩, hk⟩
  | chm p v h' =>
    simp only [after, forceV_eq, forceH_eq] at hk
    exact ⟨v, h', ⟨hk.1, rfl, rfl⟩, hk.2⟩

theorem stepD_ok {S : Sums C} {ops : Array Oper} {prev : List Rec} {sl : Tr C.E} {h : List (Blk C.E)} {o : Oper} {K : List Rec → Tr C.E → List (Blk C.E) → Prop} (hk : stepD C S ops.toList sl h prev o K) :
    ∃ s : StepI C, (∀ t, s.sl.get t = sl.get t) ∧ s.h = h ∧ StepOk S ops prev o s ∧ ∃ sl', (∀ t, sl'.get t = if o.dst = some t then s.v else sl.get t) ∧ K (prev ++ [s.rc]) sl' (s.after o) := by
  unfold stepD at hk
  obtain ⟨s1, b, h1, h2, h3 | h3⟩ := guarded_is hk
  · obtain ⟨rfl, h3⟩ := h3
    obtain ⟨v, hh, h4, h5⟩ := after_out h3
    split at h5
    · rename_i hok
      rw [Bool.and_eq_true] at hok
      rw [forceH_eq] at h5
      obtain ⟨s2, h6, h7⟩ := putK_ok h5
      exact ⟨⟨_, true, v, s1, h, hh⟩, h1, rfl, ⟨rfl, rfl, rfl, hok.1, h2, fun _ => ⟨h4, hok.2, rfl⟩, fun hf => by cases hf⟩, s2, fun t => by rw [h7, h1], h6⟩
    · exact h5.elim
  · obtain ⟨rfl, h3⟩ := h3
    split at h3
    · rename_i hok
      obtain ⟨s2, h6, h7⟩ := putK_ok h3
      refine ⟨⟨_, false, .tuple [], s1, h, h⟩, h1, rfl, ⟨rfl, rfl, rfl, hok, h2, fun hf => (by cases hf), fun _ => ⟨rfl, rfl, ?_⟩⟩, s2, fun t => by rw [h7, h1], h6⟩
      rfl
    · exact h3.elim

theorem trace {S : Sums C} {ops : Array Oper} {K : Tr C.E → List (Blk C.E) → Prop} : ∀ (rest : List Oper) (prev : List Rec) (sl : Tr C.E) (h : List (Blk C.E)), drawK C S ops.toList rest prev sl h K →
    ∃ SL Hs st slN hN, Trace S ops prev rest sl h SL Hs st slN hN ∧ K slN hN
  | [], prev, sl, h, hk => ⟨fun _ => sl.get, fun _ => h, fun _ => StepI.none C, sl, h, ⟨fun k o hk => by simp at hk, fun k o hk => by simp at hk, fun k o hk => by simp at hk, fun k o hk => by simp at hk, fun k o hk => by simp at hk, rfl, rfl, rfl, rfl⟩, hk⟩
  | o :: rest, prev, sl, h, hk => by
    unfold drawK at hk
    obtain ⟨s, h1, h2, h3, sl', h4, h5⟩ := stepD_ok hk
    obtain ⟨SL, Hs, st, slN, hN, T, hK⟩ := trace rest _ _ _ h5
    refine ⟨fun k => match k with | 0 => sl.get | k + 1 => SL k, fun k => match k with | 0 => h | k + 1 => Hs k, fun k => match k with | 0 => s | k + 1 => st k, slN, hN, ⟨fun k o' hk => ?_, fun k o' hk => ?_, fun k o' hk => ?_, fun k o' hk => ?_, fun k o' hk => ?_, rfl, rfl, T.slE, T.hE⟩, hK⟩
    · cases k with
      | zero => simp at hk; subst hk; simpa using h3
      | succ k =>
        have := T.step k o' (by simpa using hk)
        rw [List.append_assoc] at this
        rw [List.range_succ_eq_map, List.map_cons, List.map_map]
        exact this
    · cases k with
      | zero => exact h1
      | succ k => exact T.regs k o' (by simpa using hk)
    · cases k with
      | zero => exact h2
      | succ k => exact T.heap k o' (by simpa using hk)
    · cases k with
      | zero => simp at hk; subst hk; exact T.h0
      | succ k => exact T.next k o' (by simpa using hk)
    · cases k with
      | zero =>
        simp at hk; subst hk
        intro t
        show SL 0 t = _
        rw [T.sl0, h4]
      | succ k => exact T.put k o' (by simpa using hk)

theorem wrAt_le {sl : Tr C.E} {o : Oper} (h : writes o.op = false) : wrAt C sl o = false := by
  unfold wrAt
  split
  · rename_i c hc
    split
    · rename_i b hb
      split
      · rw [hc] at h
        unfold writes at h
        simp only [hb] at h
        cases h
      · exact h
    · exact h
  · exact h

/-! .. of a region in which nothing is written -/
def bare (r : Rec) : Rec := { r with reads := [] }

theorem apart_bare {a b : Rec} (ha : a.wr = []) (hb : b.wr = []) : apart a b = apart (bare a) (bare b) := by
  unfold apart bare
  simp [ha, hb, meets]

theorem allApart_bare {r : Rec} (hr : r.wr = []) : ∀ {l : List Rec} {n : Nat}, (∀ q ∈ l, q.wr = []) → allApart r n l = allApart (bare r) n (l.map bare)
  | [], n, _ => rfl
  | q :: l, n, h => by
    simp only [allApart, List.map_cons]
    rw [apart_bare hr (h q (by simp)), allApart_bare hr fun q hq => h q (by simp [hq])]
    rfl

theorem freshDst_bare {d : Option Nat} : ∀ {l : List Rec}, freshDst d l = freshDst d (l.map bare)
  | [] => rfl
  | q :: l => by
    simp only [freshDst, List.map_cons]
    rw [freshDst_bare (l := l)]
    rfl

theorem okD_bare {recs : List Rec} {o : Oper} {r : Rec} (hr : r.wr = []) (h : ∀ q ∈ recs, q.wr = []) : okD recs o r = okD (recs.map bare) o (bare r) := by
  unfold okD
  rw [allApart_bare hr h, freshDst_bare (l := recs), List.length_map]

theorem only_all : ∀ (k : List Nat) (h : List (Blk C.E)) (n : Nat), (∀ i, n ≤ i → i < n + h.length → k.contains i = true) → only k n h = h
  | k, [], n, _ => rfl
  | k, b :: r, n, hk => by
    simp only [only]
    rw [hk n (Nat.le_refl _) (by simp), only_all k r (n + 1) fun i h1 h2 => hk i (by omega) (by simp; omega)]

theorem only_len : ∀ (k : List Nat) (h : List (Blk C.E)) (n : Nat), (only k n h).length = h.length
  | k, [], n => rfl
  | k, b :: r, n => by simp [only, only_len k r]

theorem in_fromTo : ∀ {n a i : Nat}, a ≤ i → i < a + n → (fromTo n a).contains i = true
  | 0, a, i, h1, h2 => by omega
  | n + 1, a, i, h1, h2 => by
    simp only [fromTo, List.contains_cons, Bool.or_eq_true]
    by_cases h : i = a
    · left; simp [h]
    · right; exact in_fromTo (by omega) (by omega)

theorem of_fromTo : ∀ {n a i : Nat}, i ∈ fromTo n a → a ≤ i ∧ i < a + n
  | 0, a, i, h => by simp [fromTo] at h
  | n + 1, a, i, h => by
    simp only [fromTo, List.mem_cons] at h
    rcases h with h | h
    · omega
    · have := of_fromTo h; omega

theorem allIds_mono {p q : Nat → Bool} (h : ∀ i, p i = true → q i = true) : ∀ (d : Nat) (v : AV C.E), allIds p d v = true → allIds q d v = true := by
  intro d
  induction d with
  | zero => intro v hv; cases v <;> first | exact h _ hv | exact hv
  | succ d ih =>
    intro v hv
    cases v with
    | fn f a b =>
      simp only [allIds, Bool.and_eq_true, List.all_eq_true] at hv ⊢
      exact ⟨fun x hx => ih x (hv.1 x hx), fun x hx => ih x (hv.2 x hx)⟩
    | agg cs => simp only [allIds, List.all_eq_true] at hv ⊢; exact fun x hx => ih x (hv x hx)
    | tuple cs => simp only [allIds, List.all_eq_true] at hv ⊢; exact fun x hx => ih x (hv x hx)
    | _ => first | exact h _ hv | exact hv

theorem blkAll_mono {p q : Nat → Bool} (h : ∀ i, p i = true → q i = true) {b : Blk C.E} (hb : blkAll p b = true) : blkAll q b = true := by
  cases b with
  | cells l => simp only [blkAll, List.all_eq_true] at hb ⊢; exact fun x hx => allIds_mono h 4 x (hb x hx)
  | _ => exact hb

def qReads (o : Oper) (n : Nat) : List Nat := match writes o.op with
  | true => []
  | false => fromTo n 0

theorem qHeap_only (o : Oper) (h : List (Blk C.E)) : qHeap C o h = only (qReads o h.length) 0 h := by
  unfold qHeap qReads
  cases writes o.op with
  | true => rfl
  | false => exact (only_all _ _ _ fun i h1 h2 => in_fromTo h1 (by omega)).symm

theorem qShut_closed {o : Oper} {h : List (Blk C.E)} (hw : h.all (blkAll (fun i => Nat.blt i h.length)) = true) {v : AV C.E} (hv : qShut C o h.length v = true) : closedD C (qReads o h.length) h.length v (only (qReads o h.length) 0 h) = true := by
  unfold qShut at hv
  unfold closedD qReads
  rw [only_len]
  simp only [Bool.and_eq_true]
  cases hwo : writes o.op with
  | true =>
    simp only [hwo] at hv ⊢
    refine ⟨⟨⟨by simp, allIds_mono (fun i hi => by cases hi) 4 v hv⟩, ?_⟩, rfl⟩
    rw [List.drop_eq_nil_of_le (by rw [only_len]; exact Nat.le_refl _)]; rfl
  | false =>
    simp only [hwo] at hv ⊢
    refine ⟨⟨⟨by simp, allIds_mono (fun i hi => by simp only [Bool.or_eq_true]; left; exact in_fromTo (Nat.zero_le _) (by simpa [Nat.blt_eq] using hi)) 4 v hv⟩, ?_⟩, ?_⟩
    · rw [List.drop_eq_nil_of_le (by rw [only_len]; exact Nat.le_refl _)]; rfl
    · rw [List.all_eq_true] at hw ⊢
      intro i hi
      rw [only_all _ _ _ fun i h1 h2 => in_fromTo h1 (by omega)]
      split
      · rename_i b hb
        exact blkAll_mono (fun j hj => by simp only [Bool.or_eq_true]; left; exact in_fromTo (Nat.zero_le _) (by simpa [Nat.blt_eq] using hj)) (hw b (List.mem_of_getElem? hb))
      · rfl

theorem quiet_trace {S : Sums C} {ops : Array Oper} {K : Tr C.E → List (Blk C.E) → Prop} {h : List (Blk C.E)} (hw : h.all (blkAll (fun i => Nat.blt i h.length)) = true) : ∀ (rest : List Oper) (prev : List Rec) (sl : Tr C.E), (∀ q ∈ prev, q.wr = []) → staticL ops.toList rest (prev.map bare) = true → quietK C S ops.toList rest sl h K →
    ∃ SL Hs st slN hN, Trace S ops prev rest sl h SL Hs st slN hN ∧ K slN hN
  | [], prev, sl, _, _, hk => ⟨fun _ => sl.get, fun _ => h, fun _ => StepI.none C, sl, h, ⟨fun k o hk => by simp at hk, fun k o hk => by simp at hk, fun k o hk => by simp at hk, fun k o hk => by simp at hk, fun k o hk => by simp at hk, rfl, rfl, rfl, rfl⟩, hk⟩
  | o :: rest, prev, sl, hwr, hst, hk => by
    unfold quietK at hk
    simp only [staticL, Bool.and_eq_true, List.map_map] at hst
    have hpm : (List.map (Rec.preds ∘ bare) prev) = prev.map Rec.preds := rfl
    rw [hpm] at hst
    obtain ⟨s1, b, h1, h2, h3⟩ := guarded_is hk
    have main : ∃ s : StepI C, (∀ t, s.sl.get t = sl.get t) ∧ s.h = h ∧ StepOk S ops prev o s ∧ s.after o = h ∧ s.rc.wr = [] ∧ bare s.rc = sRec ops.toList o (predsOf (prev.map Rec.preds) o) ∧ ∃ sl', (∀ t, sl'.get t = if o.dst = some t then s.v else sl.get t) ∧ quietK C S ops.toList rest sl' h K := by
      rcases h3 with ⟨rfl, h3⟩ | ⟨rfl, h3⟩
      · have key : ∀ v, Out (only (qReads o h.length) 0 h) (opF C S s1 (only (qReads o h.length) 0 h) o) v (only (qReads o h.length) 0 h) → qShut C o h.length v = true → put C s1 o.dst v (fun sl => quietK C S ops.toList rest sl h K) →
            ∃ s : StepI C, (∀ t, s.sl.get t = sl.get t) ∧ s.h = h ∧ StepOk S ops prev o s ∧ s.after o = h ∧ s.rc.wr = [] ∧ bare s.rc = sRec ops.toList o (predsOf (prev.map Rec.preds) o) ∧ ∃ sl', (∀ t, sl'.get t = if o.dst = some t then s.v else sl.get t) ∧ quietK C S ops.toList rest sl' h K := by
          intro v ho hq hp
          obtain ⟨s2, m1, m2⟩ := putK_ok hp
          refine ⟨⟨⟨predsOf (prev.map Rec.preds) o, o.dst, tmpsOf o ops.toList, qReads o h.length, []⟩, true, v, s1, h, only (qReads o h.length) 0 h⟩, h1, rfl, ⟨rfl, rfl, rfl, ?_, h2, fun _ => ⟨ho, qShut_closed hw hq, ?_⟩, fun hf => by cases hf⟩, ?_, rfl, rfl, s2, fun t => by rw [m2, h1], m1⟩
          · rw [okD_bare rfl hwr]; exact hst.1
          · rw [only_len, Nat.sub_self]
            cases hwo : writes o.op with
            | true => cases wrAt C s1 o <;> (unfold qReads; rw [hwo]; rfl)
            | false => rw [wrAt_le hwo]; rfl
          · show behind C (wrAt C s1 o) (qReads o h.length) h (only (qReads o h.length) 0 h) = h
            have back : behind C false (qReads o h.length) h (only (qReads o h.length) 0 h) = h := by
              show h ++ (only (qReads o h.length) 0 h).drop h.length = h
              rw [List.drop_eq_nil_of_le (by rw [only_len]; exact Nat.le_refl _), List.append_nil]
            cases hwo : writes o.op with
            | true =>
              cases wrAt C s1 o with
              | false => exact back
              | true =>
              unfold behind qReads
              rw [hwo]
              simp only
              have : ∀ (n : Nat) (h : List (Blk C.E)), over [] n h (only [] n h) = h := by
                intro n h
                induction h generalizing n with
                | nil => rfl
                | cons b r ih => simp only [only, over]; rw [ih]; rfl
              exact this 0 h
            | false => rw [wrAt_le hwo]; exact back
        unfold afterQ at h3
        rw [qHeap_only] at h3
        split at h3
        · rename_i v hr
          rw [forceV_eq] at h3
          split at h3
          · rename_i hq
            exact key v (by rw [hr]; exact ⟨rfl, rfl⟩) hq h3
          · exact h3.elim
        · rename_i p v hr
          rw [forceV_eq] at h3
          obtain ⟨hp, h3⟩ := h3
          split at h3
          · rename_i hq
            exact key v (by rw [hr]; exact ⟨hp, rfl, rfl⟩) hq h3
          · exact h3.elim
        · exact h3.elim
      · obtain ⟨s2, m1, m2⟩ := putK_ok h3
        refine ⟨⟨⟨predsOf (prev.map Rec.preds) o, o.dst, tmpsOf o ops.toList, [], []⟩, false, .tuple [], s1, h, h⟩, h1, rfl, ⟨rfl, rfl, rfl, ?_, h2, fun hf => (by cases hf), fun _ => ⟨rfl, rfl, rfl⟩⟩, rfl, rfl, rfl, s2, fun t => by rw [m2, h1], m1⟩
        rw [okD_bare rfl hwr]; exact hst.1
    obtain ⟨s, g1, g2, g3, g4, g5, g6, sl', g7, g8⟩ := main
    have hst2 := hst.2
    rw [← g6, show prev.map bare ++ [bare s.rc] = (prev ++ [s.rc]).map bare by simp] at hst2
    obtain ⟨SL, Hs, st, slN, hN, T, hK⟩ := quiet_trace hw rest (prev ++ [s.rc]) sl' (fun q hq => (List.mem_append.mp hq).elim (hwr q) fun hq => by simp at hq; rw [hq]; exact g5) hst2 g8
    refine ⟨fun k => match k with | 0 => sl.get | k + 1 => SL k, fun k => match k with | 0 => h | k + 1 => Hs k, fun k => match k with | 0 => s | k + 1 => st k, slN, hN, ⟨fun k o' hk => ?_, fun k o' hk => ?_, fun k o' hk => ?_, fun k o' hk => ?_, fun k o' hk => ?_, rfl, rfl, T.slE, T.hE⟩, hK⟩
    · cases k with
      | zero => simp at hk; subst hk; simpa using g3
      | succ k =>
        have := T.step k o' (by simpa using hk)
        rw [List.append_assoc] at this
        rw [List.range_succ_eq_map, List.map_cons, List.map_map]
        exact this
    · cases k with
      | zero => exact g1
      | succ k => exact T.regs k o' (by simpa using hk)
    · cases k with
      | zero => exact g2
      | succ k => exact T.heap k o' (by simpa using hk)
    · cases k with
      | zero => simp at hk; subst hk; rw [g4]; exact T.h0
      | succ k => exact T.next k o' (by simpa using hk)
    · cases k with
      | zero =>
        simp at hk; subst hk
        intro t
        show SL 0 t = _
        rw [T.sl0, g7]
      | succ k => exact T.put k o' (by simpa using hk)

theorem drawn_trace {S : Sums C} {ops : Array Oper} {K : Tr C.E → List (Blk C.E) → Prop} {sl : Tr C.E} {h : List (Blk C.E)} (hk : Drawn C S ops.toList sl h K) : ∃ SL Hs st slN hN, Trace S ops [] ops.toList sl h SL Hs st slN hN ∧ K slN hN := by
  cases hk with
  | any hk => exact trace _ _ _ _ hk
  | quiet hs hw hk => exact quiet_trace hw _ _ _ (fun q hq => by cases hq) hs hk

theorem allApart_ok {r : Rec} : ∀ {l : List Rec} {n : Nat}, allApart r n l = true → ∀ (i : Nat) (q : Rec), l[i]? = some q → n + i ∈ r.preds ∨ apart r q = true
  | [], n, h, i, q, hi => by simp at hi
  | x :: l, n, h, i, q, hi => by
    simp only [allApart, Bool.and_eq_true, Bool.or_eq_true] at h
    cases i with
    | zero =>
      simp at hi; subst hi
      rcases h.1 with h1 | h1
      · exact .inl (by simpa using h1)
      · exact .inr h1
    | succ i =>
      have := allApart_ok h.2 i q (by simpa using hi)
      rwa [show n + 1 + i = n + (i + 1) by omega] at this

theorem freshDst_ok {d : Nat} : ∀ {l : List Rec}, freshDst (some d) l = true → ∀ (i : Nat) (q : Rec), l[i]? = some q → q.dst ≠ some d
  | [], h, i, q, hi => by simp at hi
  | x :: l, h, i, q, hi => by
    simp only [freshDst, Bool.and_eq_true] at h
    cases i with
    | zero =>
      simp at hi; subst hi
      intro hq
      have h1 := h.1
      rw [hq] at h1
      simp at h1
    | succ i => exact freshDst_ok h.2 i q (by simpa using hi)

end
end Go.Proofs.Ytgplkdcibahofaa.Ev
