/-
  Summaries: what a function does, told over the part of the heap that its arguments lead to, holds over the whole heap. No program is named here.
-/
import Derived.Test.YtgplkdcibahofaaEvFast
namespace Go.Proofs.Ytgplkdcibahofaa.Ev
open Go

section
variable (C : Ctx)

def idsIn (h : H C) (args : List (V C)) : List Nat := (reach C h 256 (args.flatMap (idsOf 4)) []).reverse

def inOf (ks : List Nat) (i : Nat) : Option Nat := findAt 0 ks 0 i

def outOf (ks : List Nat) (n j : Nat) : Option Nat := match ks[j]? with
  | some i => some i
  | none => some (n + (j - ks.length))

/-- blocks, some of them in the place of others, the rest behind -/
def putK {E : Nat → Type} (m : Nat → Option Nat) : List (Blk E) → List Nat → List (Blk E) → List (Blk E)
  | h, [], h1 => h ++ h1.map (renB m)
  | h, _ :: _, [] => h
  | h, k :: ks, b :: h1 => putK m (h.set k (renB m b)) ks h1

/-- what comes of a summary over a part of the heap -/
def backR {E : Nat → Type} (m : Nat → Option Nat) (h : List (Blk E)) (ks : List Nat) (hl : List (Blk E)) : OpR E → OpR E
  | .no => .no
  | .val v => .mem (renV m 4 v) (putK m h ks hl)
  | .chk p v => .chm p (renV m 4 v) (putK m h ks hl)
  | .mem v h1 => .mem (renV m 4 v) (putK m h ks h1)
  | .chm p v h1 => .chm p (renV m 4 v) (putK m h ks h1)
  | .anyB _ => .no

/-- .. where no part of it is led to: what leads to no memory leaves the heap as it was -/
def back0 {E : Nat → Type} (m : Nat → Option Nat) (h' : List (Blk E)) : OpR E → OpR E
  | .val v => match noRef v with
    | true => .val v
    | false => .mem (renV m 4 v) h'
  | .chk p v => match noRef v with
    | true => .chk p v
    | false => .chm p (renV m 4 v) h'
  | r => backR m h' [] [] r

/-- A summary over the part of the heap that the arguments lead to; 'fz': slices are only read from now on -/
def frameS (fz : Bool) (g : List (V C) → H C → OpR C.E) (args : List (V C)) (h : H C) : OpR C.E :=
  match (match fz with | true => frzArgs C h args | false => some (args, h)) with
  | none => .no
  | some (args', h') => match idsIn C h' args' with
    | [] => back0 (outOf [] h'.length) h' (g (args'.map (renV (inOf []) 4)) [])
    | k :: ks => match okKept 0 (k :: ks) && (k :: ks).all (fun i => Nat.blt i h'.length) with
      | true => backR (outOf (k :: ks) h'.length) h' (k :: ks) ((pickB h' (k :: ks)).map (renB (inOf (k :: ks)))) (g (args'.map (renV (inOf (k :: ks)) 4)) ((pickB h' (k :: ks)).map (renB (inOf (k :: ks)))))
      | false => .no

/-- a function's body does as its summary says -/
noncomputable def Does (S : Sums C) (N : Enter C) (i : FnI C.E) (args : List (V C)) (h : H C) : OpR C.E → Prop
  | .no => True
  | .val v => bodyF C S N i args h fun v' h' => v' = v ∧ h' = h
  | .chk p v => p → bodyF C S N i args h fun v' h' => v' = v ∧ h' = h
  | .mem v h1 => bodyF C S N i args h fun v' h' => v' = v ∧ h' = h1
  | .chm p v h1 => p → bodyF C S N i args h fun v' h' => v' = v ∧ h' = h1
  | .anyB _ => True

/-- what a call comes to, only read from now on -/
def frzR (h : H C) : V C → Option (V C × H C)
  | .tuple vs => match frzArgs C h vs with
    | some (vs', h') => some (.tuple vs', h')
    | none => none
  | v => frz C h v

/-- A summary by plain values: what is handed in is only read, and so is what comes of it. -/
def pureF (g : List (V C) → OpR C.E) (args : List (V C)) (h : H C) : OpR C.E := match frzArgs C h args with
  | none => .no
  | some (args', h') => match g (args'.map (renV (inOf []) 4)) with
    | .val v => match noRef v with
      | true => .val v
      | false => .mem v h'
    | .chk p v => match noRef v with
      | true => .chk p v
      | false => .chm p v h'
    | _ => .no

noncomputable def Gets (S : Sums C) (N : Enter C) (i : FnI C.E) (args : List (V C)) (v : V C) : Prop :=
  allIds (fun _ => false) 4 v = true ∧ bodyF C S N i args [] fun v' h' => ∃ h'', frzR C h' v' = some (v, h'')

noncomputable def DoesF (S : Sums C) (N : Enter C) (i : FnI C.E) (args : List (V C)) : OpR C.E → Prop
  | .val v => Gets C S N i args v
  | .chk p v => p → Gets C S N i args v
  | _ => True

variable {C} {P : Program} {e : Env} {F X : FH} {h : List (Blk C.E)} {w : World}

/-- what a part of the heap leaves to others -/
noncomputable def rest (F : FH) (w : World) (e : Env) (h : List (Blk C.E)) : FH := open Classical in
  fun b => if F b = none ∧ ¬ ∃ j, Live e h j ∧ ¬ Fro h j ∧ e.ρ j = b then w.heap[b]? else none

theorem rest_some {b : Nat} {o : Obj} (hb : rest F w e h b = some o) : F b = none ∧ w.heap[b]? = some o := by
  unfold rest at hb
  split at hb
  · rename_i h1; exact ⟨h1.1, hb⟩
  · cases hb

theorem rest_none {b : Nat} (hb : rest F w e h b = none) (hF : F b = none) (hw : w.heap[b]? ≠ none) : ∃ j, Live e h j ∧ ¬ Fro h j ∧ e.ρ j = b := by
  unfold rest at hb
  split at hb
  · exact absurd hb hw
  · rename_i h1; exact Classical.byContradiction fun hh => h1 ⟨hF, hh⟩

theorem RH.reX (H : RH e F X h w) : RH e F (rest F w e h) h w where
  sz := H.sz
  fro := H.fro
  out := fun b o hb => (rest_some hb).2
  apart := fun b o hb => (rest_some hb).1
  blk := H.blk
  inj := H.inj
  mine := fun i hi hnf => by
    unfold rest
    rw [if_neg fun hh => hh.2 ⟨i, hi, hnf, rfl⟩]

def locE (e : Env) (ks : List Nat) : Env := ⟨ks.length, fun j => e.ρ (ks.getD j 0), fun j => e.len (ks.getD j 0), fun j => e.cap (ks.getD j 0)⟩

theorem getD_of {ks : List Nat} {k i : Nat} (h : ks[k]? = some i) : ks.getD k 0 = i := by rw [List.getD_eq_getElem?_getD, h]; rfl

theorem inOf_ren {ks : List Nat} : Ren e (locE e ks) (inOf ks) := by
  intro i j hi hj
  obtain ⟨k, h1, rfl⟩ := findAt_ok hj
  have hk := (List.getElem?_eq_some_iff.mp h1).1
  have hg := getD_of h1
  refine ⟨by show _ < ks.length; omega, ?_, ?_, ?_⟩
  · show e.ρ (ks.getD _ 0) = _; rw [show 0 + 0 + k = k by omega, hg]
  · show e.len (ks.getD _ 0) = _; rw [show 0 + 0 + k = k by omega, hg]
  · show e.cap (ks.getD _ 0) = _; rw [show 0 + 0 + k = k by omega, hg]

/-- a part of the heap, by itself -/
theorem RH.loc (hC : Ok C P) (H : RH e F X h w) {ks : List Nat} (hok : okKept 0 ks = true) : RH (locE e ks) F X ((pickB h ks).map (renB (inOf ks))) w := by
  obtain ⟨_, g2⟩ := okKept_ok hok
  have hlen : ((pickB h ks).map (renB (E := C.E) (inOf ks))).length = ks.length := by rw [List.length_map, pickB_length]
  refine H.ren hC inOf_ren (fun j => ks.getD j 0) (by rw [hlen]; rfl) (fun j hj b' hb' => ?_) (fun i j hi hj hij hh => ?_) (fun _ _ => rfl) (fun _ _ => rfl) (fun _ _ => rfl)
  · rw [List.getElem?_map] at hb'
    obtain ⟨b, hb, rfl⟩ := Option.map_eq_some_iff.mp hb'
    obtain ⟨i, h1, h2⟩ := pickB_get h ks j b hb
    exact ⟨b, by rw [getD_of h1]; exact h2, rfl⟩
  · rw [hlen] at hi hj
    have h1 : ks[i]? = some (ks.getD i 0) := by rw [List.getD_eq_getElem?_getD, List.getElem?_eq_getElem hi]; rfl
    have h2 : ks[j]? = some (ks.getD j 0) := by rw [List.getD_eq_getElem?_getD, List.getElem?_eq_getElem hj]; rfl
    exact hij (g2 i j _ (by rw [h1, hh]) h2)

theorem putK_get {E : Nat → Type} {m : Nat → Option Nat} : ∀ (ks : List Nat) (h h1 : List (Blk E)), (∀ (k k' i : Nat), ks[k]? = some i → ks[k']? = some i → k = k') → (∀ i ∈ ks, i < h.length) → ks.length ≤ h1.length →
    (putK m h ks h1).length = h.length + (h1.length - ks.length) ∧ (∀ (k i : Nat), ks[k]? = some i → (putK m h ks h1)[i]? = (h1[k]?).map (renB m)) ∧
    (∀ i, i < h.length → i ∉ ks → (putK m h ks h1)[i]? = h[i]?) ∧ (∀ j, (putK m h ks h1)[h.length + j]? = (h1[ks.length + j]?).map (renB m))
  | [], h, h1, _, _, _ => by
    refine ⟨by simp [putK], fun k i hk => by simp at hk, fun i hi _ => by simp [putK, List.getElem?_append_left hi], fun j => ?_⟩
    simp only [putK]
    rw [List.getElem?_append_right (by omega), Nat.add_sub_cancel_left, List.getElem?_map]
    simp
  | k :: ks, h, [], _, _, hl => by simp at hl
  | k :: ks, h, b :: h1, hd, hm, hl => by
    have hk : k < h.length := hm k (by simp)
    have hnk : k ∉ ks := fun hin => by
      obtain ⟨j, hj, rfl⟩ := List.mem_iff_getElem.mp hin
      have := hd 0 (j + 1) ks[j] rfl (by simp)
      omega
    obtain ⟨g1, g2, g3, g4⟩ := putK_get (m := m) ks (h.set k (renB m b)) h1 (fun a a' i x y => by have := hd (a + 1) (a' + 1) i (by simpa using x) (by simpa using y); omega)
      (fun i hi => by rw [List.length_set]; exact hm i (by simp [hi])) (by simpa using hl)
    rw [List.length_set] at g1 g3 g4
    refine ⟨by simp only [putK, List.length_cons]; rw [g1]; omega, fun a i ha => ?_, fun i hi hni => ?_, fun j => ?_⟩
    · cases a with
      | zero =>
        simp at ha; subst ha
        show (putK m (h.set k (renB m b)) ks h1)[k]? = _
        rw [g3 k hk hnk]
        simp [hk]
      | succ a => show (putK m (h.set k (renB m b)) ks h1)[i]? = _; rw [g2 a i (by simpa using ha)]; simp
    · show (putK m (h.set k (renB m b)) ks h1)[i]? = _
      rw [g3 i hi (fun hh => hni (by simp [hh])), List.getElem?_set_ne (fun hh => hni (by simp [hh]))]
    · show (putK m (h.set k (renB m b)) ks h1)[h.length + j]? = _
      rw [g4 j]
      simp only [List.length_cons]
      rw [show ks.length + 1 + j = (ks.length + j) + 1 by omega, List.getElem?_cons_succ]

def backE (e e1 : Env) (n m : Nat) (len1 : Nat) : Env :=
  ⟨n + (len1 - m), fun i => if i < n then e.ρ i else e1.ρ (m + (i - n)), fun i => if i < n then e.len i else e1.len (m + (i - n)), fun i => if i < n then e.cap i else e1.cap (m + (i - n))⟩

theorem live_heap {e : Env} {F X : FH} {h : List (Blk C.E)} {w : World} (H : RH e F X h w) {j : Nat} (hl : Live e h j) : w.heap[e.ρ j]? ≠ none := by
  obtain ⟨a, el, h1⟩ := heap_of_live H hl
  rw [h1]; simp

/-- what is live and not frozen lies apart from what is frozen -/
theorem notF {e : Env} {F X : FH} {h : List (Blk C.E)} {w : World} (H : RH e F X h w) {j : Nat} (hl : Live e h j) (hnf : ¬ Fro h j) : F (e.ρ j) = none := by
  unfold Live at hl
  cases hb : h[j]? with
  | none => rw [hb] at hl; exact hl.elim
  | some b =>
    rw [hb] at hl
    have hB := H.blk j b hb
    cases b with
    | dead => exact hl.elim
    | cells l => obtain ⟨a, el, _, h2, _⟩ := hB; exact h2
    | arr t l fro =>
      cases fro with
      | true => exact absurd ⟨t, l, hb⟩ hnf
      | false =>
        obtain ⟨_, g | ⟨a, el, _, g, _⟩⟩ := hB
        · exact absurd g.1 hl
        · exact g rfl
    | map a b m => exact hB.elim

theorem isF {e : Env} {F X : FH} {h : List (Blk C.E)} {w : World} (H : RH e F X h w) {j : Nat} (hl : Live e h j) (hf : Fro h j) : F (e.ρ j) = w.heap[e.ρ j]? := by
  obtain ⟨t, l, hb⟩ := hf
  unfold Live at hl
  rw [hb] at hl
  obtain ⟨_, g | ⟨a, el, g1, _, g3, _⟩⟩ := H.blk j _ hb
  · exact absurd g.1 hl
  · exact g3 rfl

theorem live_of {e e' : Env} {h h' : List (Blk C.E)} {i j : Nat} (hg : h'[j]? = h[i]?) (hc : e'.cap j = e.cap i) : (Live e' h' j ↔ Live e h i) ∧ (Fro h' j ↔ Fro h i) := by
  unfold Live Fro
  rw [hg, hc]
  exact ⟨Iff.rfl, Iff.rfl⟩

theorem live_renB {m : Nat → Option Nat} {e e' : Env} {h h' : List (Blk C.E)} {i j : Nat} (hg : h'[j]? = (h[i]?).map (renB m)) (hc : e'.cap j = e.cap i) (hl : Live e' h' j) : Live e h i ∧ (Fro h i → Fro h' j) := by
  cases hb : h[i]? with
  | none =>
    rw [hb] at hg
    unfold Live at hl
    rw [hg] at hl
    exact hl.elim
  | some b => exact live_ren (m := m) (fun b' hb' => ⟨b, .inl hb, by rw [hg, hb] at hb'; simpa using hb'.symm⟩) hc hl

/-- A part of the heap has become another one: so has the whole. -/
theorem RH.back (hC : Ok C P) (H : RH e F X h w) {ks : List Nat} (hok : okKept 0 ks = true) (hlt : ∀ i ∈ ks, i < h.length) {hl : List (Blk C.E)} (Hl : RH (locE e ks) F X hl w) {mi : Nat → Option Nat} (hhl : ∀ (j i : Nat), ks[j]? = some i → hl[j]? = (h[i]?).map (renB mi))
    {e1 : Env} {F1 : FH} {h1 : List (Blk C.E)} {w' : World} (he : ELe (locE e ks) e1) (hF : FLe F F1) (H1 : RH e1 F1 (rest F w (locE e ks) hl) h1 w') :
    ∃ e2, ELe e e2 ∧ Ren e1 e2 (outOf ks h.length) ∧ RH e2 F1 X (putK (outOf ks h.length) h ks h1) w' := by
  obtain ⟨_, dist⟩ := okKept_ok hok
  have hsz : ks.length ≤ h1.length := by rw [← H1.sz]; exact he.sz
  have hsz1 : e1.sz = h1.length := H1.sz
  have hsze : e.sz = h.length := H.sz
  obtain ⟨p1, p2, p3, p4⟩ := putK_get (m := outOf ks h.length) ks h h1 dist hlt hsz
  generalize hm : outOf ks h.length = m at p1 p2 p3 p4 ⊢
  generalize hh2 : putK m h ks h1 = h2 at p1 p2 p3 p4 ⊢
  generalize he2 : backE e e1 h.length ks.length h1.length = e2
  have hs2 : e2.sz = h2.length := by rw [← he2, p1]; rfl
  have old : ∀ i, i < h.length → e2.ρ i = e.ρ i ∧ e2.len i = e.len i ∧ e2.cap i = e.cap i := fun i hi => by
    rw [← he2]; exact ⟨if_pos hi, if_pos hi, if_pos hi⟩
  have new : ∀ j, e2.ρ (h.length + j) = e1.ρ (ks.length + j) ∧ e2.len (h.length + j) = e1.len (ks.length + j) ∧ e2.cap (h.length + j) = e1.cap (ks.length + j) := fun j => by
    rw [← he2]
    refine ⟨?_, ?_, ?_⟩
    · show (if h.length + j < h.length then _ else _) = _; rw [if_neg (by omega), Nat.add_sub_cancel_left]
    · show (if h.length + j < h.length then _ else _) = _; rw [if_neg (by omega), Nat.add_sub_cancel_left]
    · show (if h.length + j < h.length then _ else _) = _; rw [if_neg (by omega), Nat.add_sub_cancel_left]
  have kept : ∀ k i, ks[k]? = some i → e1.ρ k = e.ρ i ∧ e1.len k = e.len i ∧ e1.cap k = e.cap i := fun k i hk => by
    have hkl := (List.getElem?_eq_some_iff.mp hk).1
    have hg := getD_of hk
    refine ⟨?_, ?_, ?_⟩
    · rw [he.ρ k hkl]; show e.ρ (ks.getD k 0) = _; rw [hg]
    · rw [he.len k hkl]; show e.len (ks.getD k 0) = _; rw [hg]
    · rw [he.cap k hkl]; show e.cap (ks.getD k 0) = _; rw [hg]
  have hE : ELe e e2 := ⟨by rw [hs2, hsze, p1]; omega, fun i hi => (old i (by omega)).1, fun i hi => (old i (by omega)).2.1, fun i hi => (old i (by omega)).2.2⟩
  have hR : Ren e1 e2 m := by
    intro j i hj hi
    rw [← hm] at hi
    unfold outOf at hi
    split at hi
    · rename_i i' hk
      cases hi
      have hil := hlt i (List.mem_of_getElem? hk)
      obtain ⟨a1, a2, a3⟩ := kept j i hk
      obtain ⟨b1, b2, b3⟩ := old i hil
      exact ⟨by rw [hs2, p1]; omega, by rw [b1, a1], by rw [b2, a2], by rw [b3, a3]⟩
    · rename_i hk
      cases hi
      have hjk : ks.length ≤ j := by simpa using hk
      obtain ⟨b1, b2, b3⟩ := new (j - ks.length)
      rw [show ks.length + (j - ks.length) = j by omega] at b1 b2 b3
      exact ⟨by rw [hs2, p1]; omega, b1, b2, b3⟩
  -- each number of the new heap is an old one that was left alone, or comes of one of the part's
  have src : ∀ i, i < h2.length → (i < h.length ∧ i ∉ ks ∧ h2[i]? = h[i]?) ∨ ∃ j, h2[i]? = (h1[j]?).map (renB m) ∧ e2.ρ i = e1.ρ j ∧ e2.len i = e1.len j ∧ e2.cap i = e1.cap j ∧ m j = some i := by
    intro i hi
    by_cases hil : i < h.length
    · by_cases hin : i ∈ ks
      · obtain ⟨k, hk⟩ := List.mem_iff_getElem?.mp hin
        obtain ⟨a1, a2, a3⟩ := kept k i hk
        obtain ⟨b1, b2, b3⟩ := old i hil
        exact .inr ⟨k, p2 k i hk, by rw [b1, a1], by rw [b2, a2], by rw [b3, a3], by rw [← hm]; unfold outOf; rw [hk]⟩
      · exact .inl ⟨hil, hin, p3 i hil hin⟩
    · obtain ⟨d, rfl⟩ : ∃ d, i = h.length + d := ⟨i - h.length, by omega⟩
      obtain ⟨b1, b2, b3⟩ := new d
      exact .inr ⟨ks.length + d, p4 d, b1, b2, b3, by rw [← hm]; unfold outOf; rw [List.getElem?_eq_none (by omega)]; simp⟩
  have back1 : ∀ j, Live (locE e ks) hl j → ¬ Fro hl j → ∃ i, ks[j]? = some i ∧ Live e h i ∧ ¬ Fro h i ∧ (locE e ks).ρ j = e.ρ i := by
    intro j hj hjf
    have hjl : j < ks.length := by have h5 := lt_of_live hj; have h6 := Hl.sz; simp [locE] at h6; omega
    have hkj : ks[j]? = some (ks.getD j 0) := by rw [List.getD_eq_getElem?_getD, List.getElem?_eq_getElem hjl]; rfl
    obtain ⟨g1, g2⟩ := live_renB (e := e) (e' := locE e ks) (hhl j _ hkj) rfl hj
    exact ⟨_, hkj, g1, fun hf => hjf (g2 hf), rfl⟩
  -- a block that was left alone
  have alone : ∀ i, i < h.length → i ∉ ks → Live e h i → ¬ Fro h i → rest F w (locE e ks) hl (e.ρ i) = w.heap[e.ρ i]? := by
    intro i hi hni hli hnf
    have hFn := notF H hli hnf
    unfold rest
    refine if_pos ⟨hFn, fun ⟨j, hj, hjf, hjρ⟩ => ?_⟩
    obtain ⟨i', g1, g2, g3, g4⟩ := back1 j hj hjf
    refine H.inj i i' (fun hh => hni (hh ▸ List.mem_of_getElem? g1)) hli g2 (fun hh => hnf hh.1) ?_
    rw [← g4, hjρ]
  have same : ∀ i, i < h.length → i ∉ ks → Live e h i → w'.heap[e.ρ i]? = w.heap[e.ρ i]? := by
    intro i hi hni hli
    obtain ⟨a, el, ha⟩ := heap_of_live H hli
    by_cases hf : Fro h i
    · have h5 := isF H hli hf
      rw [ha] at h5 ⊢
      exact H1.fro _ _ (hF.le _ _ h5)
    · have h5 := alone i hi hni hli hf
      rw [ha] at h5 ⊢
      exact H1.out _ _ h5
  have lv : ∀ i, i < h.length → i ∉ ks → h2[i]? = h[i]? → ((Live e2 h2 i ↔ Live e h i) ∧ (Fro h2 i ↔ Fro h i)) := fun i hi hni hg => live_of hg (old i hi).2.2
  have xrest : ∀ b o, X b = some o → rest F w (locE e ks) hl b = some o := by
    intro b o hb
    have h5 := H.out b o hb
    unfold rest
    rw [if_pos]
    · exact h5
    · refine ⟨H.apart b o hb, fun ⟨j, hj, hjf, hjρ⟩ => ?_⟩
      obtain ⟨i', g1, g2, g3, g4⟩ := back1 j hj hjf
      have h6 := H.mine i' g2 g3
      rw [← g4, hjρ, hb] at h6; cases h6
  -- one that was left alone and one of the part's
  have cross : ∀ i j, i < h.length → i ∉ ks → Live e h i → Live e1 h1 j → ¬ (Fro h i ∧ Fro h1 j) → e.ρ i ≠ e1.ρ j := by
    intro i j hi hni hli hlj hnn hh
    by_cases hfi : Fro h i
    · have hfj : ¬ Fro h1 j := fun hf => hnn ⟨hfi, hf⟩
      have h5 := isF H hli hfi
      obtain ⟨a, el, ha⟩ := heap_of_live H hli
      rw [ha] at h5
      have h6 := hF.le _ _ h5
      rw [hh, notF H1 hlj hfj] at h6; cases h6
    · have h5 := alone i hi hni hli hfi
      obtain ⟨a, el, ha⟩ := heap_of_live H hli
      rw [ha] at h5
      by_cases hfj : Fro h1 j
      · have h6 := H1.apart _ _ h5
        rw [hh, isF H1 hlj hfj] at h6
        exact live_heap H1 hlj h6
      · have h6 := H1.mine j hlj hfj
        rw [← hh, h5] at h6; cases h6
  refine ⟨e2, hE, hR, ⟨hs2, H1.fro, fun b o hb => H1.out _ _ (xrest b o hb), fun b o hb => H1.apart _ _ (xrest b o hb), fun i b hb => ?_, fun i j hij hi hj hnn => ?_, fun i hi hnf => ?_⟩⟩
  · have hi := (List.getElem?_eq_some_iff.mp hb).1
    rcases src i hi with ⟨g1, g2, g3⟩ | ⟨j, g1, g2, g3, g4, _⟩
    · rw [g3] at hb
      have hB := H.blk i b hb
      obtain ⟨b1, b2, b3⟩ := old i g1
      rw [b1]
      by_cases hli : Live e h i
      · rw [same i g1 g2 hli]
        refine RB.mono hE hF (by omega) (fun hn hne => ?_) hB
        have hnf : ¬ Fro h i := fun hf => by
          have h5 := isF H hli hf
          rw [hn] at h5
          exact hne h5.symm
        have h5 := alone i g1 g2 hli hnf
        obtain ⟨a, el, ha⟩ := heap_of_live H hli
        rw [ha] at h5
        exact H1.apart _ _ h5
      · unfold Live at hli
        rw [hb] at hli
        cases b with
        | dead => trivial
        | cells l => exact absurd trivial hli
        | arr t l fro =>
          have hcap : e.cap i = 0 := by
            rcases Nat.eq_zero_or_pos (e.cap i) with h' | h'
            · exact h'
            · exact absurd (by show e.cap i ≠ 0; omega) hli
          have hl0 : l = [] := by
            rcases hB.2 with h' | ⟨_, _, _, _, _, _, h5, _⟩
            · exact h'.2
            · rw [hcap] at h5; exact List.length_eq_zero_iff.mp (by omega)
          exact ⟨by rw [b2]; exact hB.1, .inl ⟨by rw [b3]; exact hcap, hl0⟩⟩
        | map a b m => exact hB.elim
    · rw [g1] at hb
      obtain ⟨b', hb', rfl⟩ := Option.map_eq_some_iff.mp hb
      rw [g2]
      exact RB.ren hC hR g2 g3 g4 (H1.blk j b' hb')
  · have hi' := lt_of_live hi
    have hj' := lt_of_live hj
    rcases src i hi' with ⟨g1, g2, g3⟩ | ⟨i1, g1, g2, g3, g4, g5⟩ <;> rcases src j hj' with ⟨k1, k2, k3⟩ | ⟨j1, k1, k2, k3, k4, k5⟩
    · rw [(old i g1).1, (old j k1).1]
      exact H.inj i j hij ((lv i g1 g2 g3).1.1 hi) ((lv j k1 k2 k3).1.1 hj) fun hh => hnn ⟨(lv i g1 g2 g3).2.2 hh.1, (lv j k1 k2 k3).2.2 hh.2⟩
    · rw [(old i g1).1, k2]
      obtain ⟨m1, m2⟩ := live_renB k1 k4 hj
      exact cross i j1 g1 g2 ((lv i g1 g2 g3).1.1 hi) m1 fun hh => hnn ⟨(lv i g1 g2 g3).2.2 hh.1, m2 hh.2⟩
    · rw [(old j k1).1, g2]
      obtain ⟨m1, m2⟩ := live_renB g1 g4 hi
      exact fun hh => cross j i1 k1 k2 ((lv j k1 k2 k3).1.1 hj) m1 (fun hh => hnn ⟨m2 hh.2, (lv j k1 k2 k3).2.2 hh.1⟩) hh.symm
    · rw [g2, k2]
      obtain ⟨m1, m2⟩ := live_renB g1 g4 hi
      obtain ⟨n1, n2⟩ := live_renB k1 k4 hj
      refine H1.inj i1 j1 (fun hh => ?_) m1 n1 fun hh => hnn ⟨m2 hh.1, n2 hh.2⟩
      subst hh
      rw [g5] at k5
      exact hij (Option.some.inj k5)
  · have hi' := lt_of_live hi
    rcases src i hi' with ⟨g1, g2, g3⟩ | ⟨i1, g1, g2, g3, g4, g5⟩
    · rw [(old i g1).1]
      exact H.mine i ((lv i g1 g2 g3).1.1 hi) fun hf => hnf ((lv i g1 g2 g3).2.2 hf)
    · obtain ⟨m1, m2⟩ := live_renB g1 g4 hi
      rw [g2]
      have h5 := H1.mine i1 m1 fun hf => hnf (m2 hf)
      cases hx : X (e1.ρ i1) with
      | none => rfl
      | some o => rw [xrest _ _ hx] at h5; cases h5


theorem CallsR.mono {f : Nat} {vs : Array Value} {R R' : Value → World → Prop} (h : CallsR P f vs w R) (hr : ∀ v w', R v w' → R' v w') : CallsR P f vs w R' :=
  Calls.mono h fun en w' hh => by
    cases en with
    | returned v => exact hr _ _ hh
    | panicked _ => exact hh
    | outgrown => exact hh

theorem RVs.ren (hC : Ok C P) {e' : Env} {m : Nat → Option Nat} (hm : Ren e e' m) {l : List (AV C.E)} {vs : List Value} (h : RVs e F l vs) : RVs e' F (l.map (renV m 4)) vs := by
  refine ⟨by rw [List.length_map]; exact h.1, fun i c hi => ?_⟩
  rw [List.getElem?_map] at hi
  obtain ⟨c', hc', rfl⟩ := Option.map_eq_some_iff.mp hi
  exact (h.2 i c' hc').ren hC hm 4

/-- a body that does as is told, over a part of the heap -/
theorem does_back (hC : Ok C P) {S : Sums C} (hS : Valid P S) {N : Enter C} (hN : EnterOk P N) {f : Nat} {i : FnI C.E} (hf : P.funcs[f]? = some i.fn) (hd : ∀ c, i.fn.body = some c → dstsOk i.fn.ntmps c = true)
    (H : RH e F X h w) {ks : List Nat} (hok : okKept 0 ks = true) (hlt : ∀ i ∈ ks, i < h.length) {args : List (AV C.E)} {vs : List Value} (hv : RVs e F args vs) {v : AV C.E} {h1 : List (Blk C.E)}
    (hk : bodyF C S N i (args.map (renV (inOf ks) 4)) ((pickB h ks).map (renB (inOf ks))) fun v' h' => v' = v ∧ h' = h1) :
    CallsR P f vs.toArray w fun rv w' => ∃ e2 F1, ELe e e2 ∧ FLe F F1 ∧ RV C e2 F1 (renV (outOf ks h.length) 4 v) rv ∧ RH e2 F1 X (putK (outOf ks h.length) h ks h1) w' ∧ Ext w w' := by
  rw [bodyF_eq] at hk
  have Hl := RH.loc hC H hok
  have hpick : ∀ (ks : List Nat) (j i : Nat), ks[j]? = some i → i < h.length → (pickB h ks)[j]? = h[i]? := by
    intro ks
    induction ks with
    | nil => intro j i hj; simp at hj
    | cons k ks ih =>
      intro j i hj hi
      cases j with
      | zero =>
        simp at hj; subst hj
        simp [pickB, hi]
      | succ j => simpa [pickB] using ih j i (by simpa using hj) hi
  have hhl : ∀ (j i : Nat), ks[j]? = some i → ((pickB h ks).map (renB (E := C.E) (inOf ks)))[j]? = (h[i]?).map (renB (inOf ks)) := by
    intro j i hj
    rw [List.getElem?_map, hpick ks j i hj (hlt i (List.mem_of_getElem? hj))]
  refine CallsR.mono (body_ok hC hS hN hf hd hk Hl.reX (hv.ren hC inOf_ren)) ?_
  rintro rv w' ⟨v', h', ⟨e1, F1, g1, g2, g3, g4, g5⟩, rfl, rfl⟩
  obtain ⟨e2, k1, k2, k3⟩ := RH.back hC H hok hlt Hl hhl g1 g2 g4
  exact ⟨e2, F1, k1, g2, g3.ren hC k2 4, k3, g5⟩

theorem RH.world (H : RH e F X h w) {w' : World} (hw : ∀ (b : Nat) (o : Obj), w.heap[b]? = some o → w'.heap[b]? = some o) : RH e F X h w' where
  sz := H.sz
  fro := fun b o hb => hw _ _ (H.fro b o hb)
  out := fun b o hb => hw _ _ (H.out b o hb)
  apart := H.apart
  blk := fun i b hb => by
    have hB := H.blk i b hb
    cases b with
    | dead => trivial
    | cells l =>
      obtain ⟨a, el, h1, h2⟩ := hB
      exact ⟨a, el, hw _ _ h1, h2⟩
    | arr t l fro =>
      obtain ⟨h0, h1 | ⟨a, el, h1, h2, h3, h4⟩⟩ := hB
      · exact ⟨h0, .inl h1⟩
      · exact ⟨h0, .inr ⟨a, el, hw _ _ h1, h2, fun hf => by rw [h3 hf, h1, hw _ _ h1], h4⟩⟩
    | map a b m => exact hB.elim
  inj := H.inj
  mine := H.mine

theorem noRef1_rv {e' : Env} {F' : FH} {v : AV C.E} {rv : Value} (hn : noRef1 v = true) (hv : RV C e F v rv) : RV C e' F' v rv := by
  cases hv <;> first
    | exact .bool _
    | exact .int _ _
    | exact .str _
    | exact .nilp
    | exact .nils _
    | exact .nilmap
    | exact .nilf
    | cases hn

theorem noRefA_rv {e' : Env} {F' : FH} {cs : List (AV C.E)} {rv : Value} (hn : cs.all noRef1 = true) (hv : RV C e F (.agg cs) rv) : RV C e' F' (.agg cs) rv := by
  rw [List.all_eq_true] at hn
  cases hv with
  | agg cs vs hs h1 h2 => exact .agg cs vs hs h1 fun i c hi => noRef1_rv (hn c (List.mem_of_getElem? hi)) (h2 i c hi)

theorem noRef_rv {e' : Env} {F' : FH} {v : AV C.E} {rv : Value} (hn : noRef v = true) (hv : RV C e F v rv) : RV C e' F' v rv := by
  unfold noRef at hn
  split at hn
  · exact noRefA_rv hn hv
  · rename_i vs
    rw [List.all_eq_true] at hn
    cases hv with
    | tuple cs us hs h2 =>
      refine .tuple vs us hs fun i c hi => ?_
      have h3 := hn c (List.mem_of_getElem? hi)
      split at h3
      · exact noRefA_rv h3 (h2 i _ hi)
      · exact noRef1_rv h3 (h2 i c hi)
  · exact noRef1_rv hn hv

/-- .. where no part of the heap is led to, and what comes leads to none -/
theorem does_none (hC : Ok C P) {S : Sums C} (hS : Valid P S) {N : Enter C} (hN : EnterOk P N) {f : Nat} {i : FnI C.E} (hf : P.funcs[f]? = some i.fn) (hd : ∀ c, i.fn.body = some c → dstsOk i.fn.ntmps c = true)
    (H : RH e F X h w) {F' : FH} {h' : List (Blk C.E)} (H' : RH e F' X h' w) {args : List (AV C.E)} {vs : List Value} (hv : RVs e F' args vs) {v : AV C.E} (hn : noRef v = true)
    (hk : bodyF C S N i (args.map (renV (inOf []) 4)) [] fun v' h'' => v' = v ∧ h'' = []) : CallsR P f vs.toArray w (Post e F X w v h) := by
  rw [bodyF_eq] at hk
  have Hl : RH (locE e []) F' X [] w := RH.loc hC H' rfl
  refine CallsR.mono (body_ok hC hS hN hf hd hk Hl.reX (hv.ren hC inOf_ren)) ?_
  rintro rv w' ⟨v', h'', ⟨e1, F1, g1, g2, g3, g4, g5⟩, rfl, rfl⟩
  refine ⟨e, F, ELe.refl e, FLe.refl F, noRef_rv hn g3, H.world fun b o hb => ?_, g5⟩
  cases hF' : F' b with
  | some o' =>
    have h6 := H'.fro b o' hF'
    rw [hb] at h6; cases h6
    exact g4.fro _ _ (g2.le _ _ hF')
  | none =>
    refine g4.out b o ?_
    unfold rest
    rw [if_pos ⟨hF', fun ⟨j, hj, _⟩ => by have := lt_of_live hj; simp at this⟩]
    exact hb

theorem frame_ok (hC : Ok C P) {S : Sums C} (hS : Valid P S) {N : Enter C} (hN : EnterOk P N) {f : Nat} {i : FnI C.E} (hf : P.funcs[f]? = some i.fn) (hfn : fnOk P f = true) (hd : ∀ c, i.fn.body = some c → dstsOk i.fn.ntmps c = true)
    {g : List (AV C.E) → List (Blk C.E) → OpR C.E} (hg : ∀ args h, Does C S N i args h (g args h)) (fz : Bool) :
    fnOk P f = true ∧ ∀ (e : Env) (F X : FH) (h : List (Blk C.E)) (w : World) (args : List (AV C.E)) (vs : List Value), RH e F X h w → RVs e F args vs → SumR P f vs.toArray w e F X h (frameS C fz g args h) := by
  refine ⟨hfn, fun e F X h w args vs H hv => ?_⟩
  unfold frameS
  split
  · trivial
  · rename_i args' h' hz
    obtain ⟨F', hF', H', hv'⟩ : ∃ F', FLe F F' ∧ RH e F' X h' w ∧ RVs e F' args' vs := by
      cases fz with
      | true =>
        obtain ⟨F', g1, g2, g3⟩ := frzArgs_ok hC H hz
        exact ⟨F', g1, g2, g3 vs hv⟩
      | false => cases hz; exact ⟨F, FLe.refl F, H, hv⟩
    have gen : ∀ (ks : List Nat), okKept 0 ks = true → (∀ i ∈ ks, i < h'.length) → ∀ (hl : List (Blk C.E)), hl = (pickB h' ks).map (renB (inOf ks)) → ∀ r, r = g (args'.map (renV (inOf ks) 4)) hl → SumR P f vs.toArray w e F X h (backR (outOf ks h'.length) h' ks hl r) := by
      intro ks hok hlt hl hhl r hr
      have hdo := hg (args'.map (renV (inOf ks) 4)) hl
      rw [← hr] at hdo
      have key : ∀ (v : AV C.E) (h1 : List (Blk C.E)), (bodyF C S N i (args'.map (renV (inOf ks) 4)) hl fun v' h' => v' = v ∧ h' = h1) → CallsR P f vs.toArray w (Post e F X w (renV (outOf ks h'.length) 4 v) (putK (outOf ks h'.length) h' ks h1)) := by
        intro v h1 hk
        rw [hhl] at hk
        refine CallsR.mono (does_back hC hS hN hf hd H' hok hlt hv' hk) ?_
        rintro rv w' ⟨e2, F1, k1, k2, k3, k4, k5⟩
        exact ⟨e2, F1, k1, hF'.trans k2, k3, k4, k5⟩
      cases r with
      | no => trivial
      | val v => exact key _ _ hdo
      | chk p v => exact fun hp => key _ _ (hdo hp)
      | mem v h1 => exact key _ _ hdo
      | chm p v h1 => exact fun hp => key _ _ (hdo hp)
      | anyB p => trivial
    split
    · have g0 := gen [] rfl (fun i hi => by cases hi) [] rfl _ rfl
      have hdo := hg (args'.map (renV (inOf []) 4)) []
      revert g0 hdo
      generalize g (args'.map (renV (inOf []) 4)) [] = r
      intro g0 hdo
      cases r with
      | val v =>
        simp only [back0]
        split
        · rename_i hn
          exact does_none hC hS hN hf hd H H' hv' hn hdo
        · simpa [backR, putK] using g0
      | chk p v =>
        simp only [back0]
        split
        · rename_i hn
          exact fun hp => does_none hC hS hN hf hd H H' hv' hn (hdo hp)
        · simpa [backR, putK] using g0
      | no => exact g0
      | mem v h1 => exact g0
      | chm p v h1 => exact g0
      | anyB p => exact g0
    · rename_i k ks hks
      split
      · rename_i hall
        simp only [Bool.and_eq_true, List.all_eq_true] at hall
        exact gen (k :: ks) hall.1 (fun i hi => by simpa [Nat.blt_eq] using hall.2 i hi) _ rfl _ rfl
      · trivial

theorem frzR_ok (hC : Ok C P) (H : RH e F X h w) {v v' : AV C.E} {h' : List (Blk C.E)} (hf : frzR C h v = some (v', h')) {rv : Value} (hv : RV C e F v rv) : ∃ F', FLe F F' ∧ RH e F' X h' w ∧ RV C e F' v' rv := by
  unfold frzR at hf
  split at hf
  · rename_i vs
    split at hf
    · rename_i vs' h'' hz
      cases hf
      obtain ⟨F', g1, g2, g3⟩ := frzArgs_ok hC H hz
      cases hv with
      | tuple cs us hs h2 =>
        obtain ⟨k1, k2⟩ := g3 us.toList ⟨by simpa using hs, fun i c hi => by rw [getD_toList]; exact h2 i c hi⟩
        exact ⟨F', g1, g2, .tuple vs' us (by simpa using k1) fun i c hi => by rw [← getD_toList]; exact k2 i c hi⟩
    · cases hf
  · obtain ⟨F', g1, g2, g3⟩ := frz_ok hC H hf
    exact ⟨F', g1, g2, g3 rv hv⟩

theorem pure_ok (hC : Ok C P) {S : Sums C} (hS : Valid P S) {N : Enter C} (hN : EnterOk P N) {f : Nat} {i : FnI C.E} (hf : P.funcs[f]? = some i.fn) (hfn : fnOk P f = true) (hd : ∀ c, i.fn.body = some c → dstsOk i.fn.ntmps c = true)
    {g : List (AV C.E) → OpR C.E} (hg : ∀ args, DoesF C S N i args (g args)) :
    fnOk P f = true ∧ ∀ (e : Env) (F X : FH) (h : List (Blk C.E)) (w : World) (args : List (AV C.E)) (vs : List Value), RH e F X h w → RVs e F args vs → SumR P f vs.toArray w e F X h (pureF C g args h) := by
  refine ⟨hfn, fun e F X h w args vs H hv => ?_⟩
  unfold pureF
  split
  · trivial
  · rename_i args' h' hz
    obtain ⟨F', hF', H', g3⟩ := frzArgs_ok hC H hz
    have hv' := g3 vs hv
    have hdo := hg (args'.map (renV (inOf []) 4))
    have key : ∀ v, Gets C S N i (args'.map (renV (inOf []) 4)) v → CallsR P f vs.toArray w fun rv w' => (∀ (b : Nat) (o : Obj), w.heap[b]? = some o → w'.heap[b]? = some o) ∧ (∃ F1, FLe F' F1 ∧ RV C e F1 v rv ∧ RH e F1 X h' w') ∧ Ext w w' := by
      intro v ⟨hids, hk⟩
      rw [bodyF_eq] at hk
      have Hl : RH (locE e []) F' X [] w := RH.loc hC H' rfl
      refine CallsR.mono (body_ok hC hS hN hf hd hk Hl.reX (hv'.ren hC inOf_ren)) ?_
      rintro rv w' ⟨v', h'', ⟨e1, F1, k1, k2, k3, k4, k5⟩, h3, hz2⟩
      obtain ⟨F2, m1, m2, m3⟩ := frzR_ok hC k4 hz2 k3
      have hw : ∀ (b : Nat) (o : Obj), w.heap[b]? = some o → w'.heap[b]? = some o := by
        intro b o hb
        cases hFb : F' b with
        | some o' =>
          have h6 := H'.fro b o' hFb
          rw [hb] at h6; cases h6
          exact k4.fro _ _ (k2.le _ _ hFb)
        | none =>
          refine k4.out b o ?_
          unfold rest
          rw [if_pos ⟨hFb, fun ⟨j, hj, _⟩ => by have := lt_of_live hj; simp at this⟩]
          exact hb
      have hag : Agree e1 e (fun _ => false) := fun i hi => by cases hi
      -- the heap as it was, what is only read being more
      have H2 := H'.world hw
      refine ⟨hw, ⟨F2, k2.trans m1, m3.same hC hag 4 hids, ?_⟩, k5⟩
      have hF2 : ∀ b o, F2 b = some o → F' b = some o ∨ (F' b = none ∧ (∀ i, Live e h' i → e.ρ i ≠ b) ∧ X b = none) := by
        intro b o hb
        cases hFb : F' b with
        | some o' => left; rw [(k2.trans m1).le _ _ hFb] at hb; exact hb
        | none =>
          right
          have hr : rest (C := C) F' w (locE e []) [] b = none := by
            cases hx : rest (C := C) F' w (locE e []) [] b with
            | none => rfl
            | some o2 => rw [m2.apart _ _ hx] at hb; cases hb
          have hwn : w.heap[b]? = none := by
            unfold rest at hr
            rwa [if_pos ⟨hFb, fun ⟨j, hj, _⟩ => by have := lt_of_live hj; simp at this⟩] at hr
          refine ⟨rfl, fun i hi hib => ?_, ?_⟩
          · have := live_heap H' hi
            rw [hib] at this; exact this hwn
          · cases hX : X b with
            | none => rfl
            | some o2 => rw [H'.out _ _ hX] at hwn; cases hwn
      refine ⟨H2.sz, m2.fro, H2.out, fun b o hb => ?_, fun i b hb => ?_, H2.inj, H2.mine⟩
      · cases hx : F2 b with
        | none => rfl
        | some o2 =>
          rcases hF2 b o2 hx with h5 | ⟨_, _, h5⟩
          · rw [H2.apart b o hb] at h5; cases h5
          · rw [hb] at h5; cases h5
      · have hB := H2.blk i b hb
        have hi : i < e.sz := by rw [H2.sz]; exact (List.getElem?_eq_some_iff.mp hb).1
        by_cases hli : Live e h' i
        · refine RB.mono (ELe.refl e) (k2.trans m1) hi (fun hn _ => ?_) hB
          cases hx : F2 (e.ρ i) with
          | none => rfl
          | some o2 =>
            rcases hF2 _ o2 hx with h5 | ⟨_, h5, _⟩
            · rw [hn] at h5; cases h5
            · exact absurd rfl (h5 i hli)
        · unfold Live at hli
          rw [hb] at hli
          cases b with
          | dead => trivial
          | cells l => exact absurd trivial hli
          | arr t l fro =>
            have hcap : e.cap i = 0 := by
              rcases Nat.eq_zero_or_pos (e.cap i) with h' | h'
              · exact h'
              · exact absurd (by show e.cap i ≠ 0; omega) hli
            have hl0 : l = [] := by
              rcases hB.2 with h' | ⟨_, _, _, _, _, _, h5, _⟩
              · exact h'.2
              · rw [hcap] at h5; exact List.length_eq_zero_iff.mp (by omega)
            exact ⟨hB.1, .inl ⟨hcap, hl0⟩⟩
          | map a b m => exact hB.elim
    have plain : ∀ v, Gets C S N i (args'.map (renV (inOf []) 4)) v → noRef v = true → CallsR P f vs.toArray w (Post e F X w v h) := fun v hk hn => by
      refine CallsR.mono (key v hk) ?_
      rintro rv w' ⟨hw, ⟨F1, k1, k2, k3⟩, k5⟩
      exact ⟨e, F, ELe.refl e, FLe.refl F, noRef_rv hn k2, H.world hw, k5⟩
    have frozen : ∀ v, Gets C S N i (args'.map (renV (inOf []) 4)) v → CallsR P f vs.toArray w (Post e F X w v h') := fun v hk => by
      refine CallsR.mono (key v hk) ?_
      rintro rv w' ⟨hw, ⟨F1, k1, k2, k3⟩, k5⟩
      exact ⟨e, F1, ELe.refl e, hF'.trans k1, k2, k3, k5⟩
    revert hdo
    generalize g (args'.map (renV (inOf []) 4)) = r
    intro hdo
    cases r with
    | val v =>
      simp only
      split
      · rename_i hn; exact plain v hdo hn
      · exact frozen v hdo
    | chk p v =>
      simp only
      split
      · rename_i hn; exact fun hp => plain v (hdo hp) hn
      · exact fun hp => frozen v (hdo hp)
    | _ => trivial

end
end Go.Proofs.Ytgplkdcibahofaa.Ev
