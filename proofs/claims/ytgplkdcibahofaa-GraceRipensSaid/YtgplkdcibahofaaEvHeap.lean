/-
  What an abstract heap says of the machine's memory, and what keeps it so: a new block, a block that is written, a row that is only read from now on. No program is named here.
-/
import Derived.Test.YtgplkdcibahofaaEvRel
import Derived.Laws.CopyRow
import Derived.Laws.Cells
import Derived.Laws.World
namespace Go.Proofs.Ytgplkdcibahofaa.Ev
open Go

section
variable {C : Ctx}

/-- the plain cells of a row of elements, in an array of the machine's -/
def Rows (e : Env) (F : FH) (t : Nat) (l : List (C.E t)) (a : Array Value) : Prop :=
  ∀ i x j c, l[i]? = some x → (C.enc t x)[j]? = some c → RV C e F c (a.getD (i * C.size t + j) undef)

def RB (e : Env) (F : FH) (id : Nat) (o : Option Obj) : Blk C.E → Prop
  | .dead => True
  | .cells l => ∃ a el, o = some (.cells a el (0, 0)) ∧ F (e.ρ id) = none ∧ a.size = l.length ∧
      (∀ (j : Nat) (c : AV C.E), l[j]? = some c → AV.one c = true ∧ RV C e F c (a.getD j undef))
  | .arr t l fro => e.len id = l.length ∧ ((e.cap id = 0 ∧ l = []) ∨ ∃ a el, o = some (.cells a el (0, 0)) ∧ (fro = false → F (e.ρ id) = none) ∧
      (fro = true → F (e.ρ id) = o) ∧ a.size = e.cap id * C.size t ∧ l.length ≤ e.cap id ∧ (∀ j, j < a.size → (a.getD j undef).oneCell' = true) ∧ Rows e F t l a)
  | .map _ _ _ => False

/-- does the heap hold a block of the machine's under this number -/
def Live (e : Env) (h : List (Blk C.E)) (id : Nat) : Prop := match h[id]? with
  | some .dead => False
  | some (.arr _ _ _) => e.cap id ≠ 0
  | some _ => True
  | none => False

def Fro (h : List (Blk C.E)) (id : Nat) : Prop := ∃ t l, h[id]? = some (.arr t l true)

structure RH (e : Env) (F X : FH) (h : List (Blk C.E)) (w : World) : Prop where
  sz : e.sz = h.length
  fro : ∀ b o, F b = some o → w.heap[b]? = some o
  out : ∀ b o, X b = some o → w.heap[b]? = some o
  apart : ∀ b o, X b = some o → F b = none
  blk : ∀ id b, h[id]? = some b → RB e F id w.heap[e.ρ id]? b
  inj : ∀ i j, i ≠ j → Live e h i → Live e h j → ¬ (Fro h i ∧ Fro h j) → e.ρ i ≠ e.ρ j
  mine : ∀ i, Live e h i → ¬ Fro h i → X (e.ρ i) = none

structure Ext (w w' : World) : Prop where
  os : w'.os = w.os
  tape : w'.tape = w.tape
  output : w'.output = w.output
  size : w.heap.size ≤ w'.heap.size
theorem Ext.refl (w : World) : Ext w w := ⟨rfl, rfl, rfl, Nat.le_refl _⟩
theorem Ext.trans {a b c : World} (h : Ext a b) (k : Ext b c) : Ext a c := ⟨k.os.trans h.os, k.tape.trans h.tape, k.output.trans h.output, Nat.le_trans h.size k.size⟩

theorem Rows.mono {e e' : Env} {F F' : FH} (he : ELe e e') (hF : FLe F F') {t : Nat} {l : List (C.E t)} {a : Array Value} (h : Rows e F t l a) : Rows e' F' t l a :=
  fun i x j c h1 h2 => (h i x j c h1 h2).mono he hF

theorem lt_of_live {e : Env} {h : List (Blk C.E)} {id : Nat} (hl : Live e h id) : id < h.length := by
  unfold Live at hl
  rcases Nat.lt_or_ge id h.length with h1 | h1
  · exact h1
  · rw [List.getElem?_eq_none h1] at hl; exact hl.elim

theorem heap_of_live {e : Env} {F X : FH} {h : List (Blk C.E)} {w : World} (H : RH e F X h w) {id : Nat} (hl : Live e h id) : ∃ a el, w.heap[e.ρ id]? = some (.cells a el (0, 0)) := by
  unfold Live at hl
  cases hb : h[id]? with
  | none => simp [hb] at hl
  | some b =>
    have hB := H.blk id b hb
    cases b with
    | dead => simp [hb] at hl
    | cells l => obtain ⟨a, el, h1, _⟩ := hB; exact ⟨a, el, h1⟩
    | arr t l fro =>
      obtain ⟨_, h1 | ⟨a, el, h1, _⟩⟩ := hB
      · simp [hb] at hl; exact absurd h1.1 hl
      · exact ⟨a, el, h1⟩
    | map a b m => exact hB.elim

theorem ρ_lt {e : Env} {F X : FH} {h : List (Blk C.E)} {w : World} (H : RH e F X h w) {id : Nat} (hl : Live e h id) : e.ρ id < w.heap.size := by
  obtain ⟨a, el, h1⟩ := heap_of_live H hl
  exact (Array.getElem?_eq_some_iff.mp h1).1

/-- a block's say is the same in a greater heap, whose block it is -/
theorem RB.mono {e e' : Env} {F F' : FH} (he : ELe e e') (hF : FLe F F') {id : Nat} (hid : id < e.sz) {o : Option Obj} {b : Blk C.E}
    (hn : F (e.ρ id) = none → o ≠ none → F' (e.ρ id) = none ) (h : RB e F id o b) : RB e' F' id o b := by
  cases b with
  | dead => trivial
  | cells l =>
    obtain ⟨a, el, h1, h2, h3, h4⟩ := h
    exact ⟨a, el, h1, by rw [he.ρ id hid]; exact hn h2 (by rw [h1]; simp), h3, fun j c hj => ⟨(h4 j c hj).1, (h4 j c hj).2.mono he hF⟩⟩
  | arr t l fro =>
    obtain ⟨h0, h⟩ := h
    refine ⟨by rw [he.len id hid]; exact h0, ?_⟩
    rcases h with h | ⟨a, el, h1, h2, h3, h4, h5, h6, h7⟩
    · exact .inl ⟨by rw [he.cap id hid]; exact h.1, h.2⟩
    · refine .inr ⟨a, el, h1, fun hf => by rw [he.ρ id hid]; exact hn (h2 hf) (by rw [h1]; simp), fun hf => ?_, by rw [he.cap id hid]; exact h4, by rw [he.cap id hid]; exact h5, h6, h7.mono he hF⟩
      rw [he.ρ id hid, h1]
      exact hF.le _ _ (by rw [h3 hf, h1])
  | map a b m => exact h.elim

/-- the room of one number more -/
def Env.add (e : Env) (b len cap : Nat) : Env :=
  { sz := e.sz + 1, ρ := fun i => if i = e.sz then b else e.ρ i, len := fun i => if i = e.sz then len else e.len i, cap := fun i => if i = e.sz then cap else e.cap i }
theorem Env.le_add (e : Env) (b len cap : Nat) : ELe e (e.add b len cap) :=
  ⟨Nat.le_succ _, fun i hi => if_neg (by omega), fun i hi => if_neg (by omega), fun i hi => if_neg (by omega)⟩
@[simp] theorem Env.add_sz (e : Env) (b len cap : Nat) : (e.add b len cap).sz = e.sz + 1 := rfl
@[simp] theorem Env.add_ρ (e : Env) (b len cap : Nat) : (e.add b len cap).ρ e.sz = b := if_pos rfl
@[simp] theorem Env.add_len (e : Env) (b len cap : Nat) : (e.add b len cap).len e.sz = len := if_pos rfl
@[simp] theorem Env.add_cap (e : Env) (b len cap : Nat) : (e.add b len cap).cap e.sz = cap := if_pos rfl
theorem Env.add_ρ_lt {e : Env} {b len cap i : Nat} (h : i < e.sz) : (e.add b len cap).ρ i = e.ρ i := if_neg (by omega)
theorem Env.add_cap_lt {e : Env} {b len cap i : Nat} (h : i < e.sz) : (e.add b len cap).cap i = e.cap i := if_neg (by omega)

theorem live_append {e : Env} {h : List (Blk C.E)} {b : Blk C.E} {m len cap id : Nat} (hs : e.sz = h.length) (hid : id < h.length) : Live (e.add m len cap) (h ++ [b]) id ↔ Live e h id := by
  unfold Live
  rw [List.getElem?_append_left hid, Env.add_cap_lt (by omega)]

/-- The heap with one block more, in whatever world in which the old blocks are as they were. The new one may lie where a dead one lay. -/
theorem RH.push {e : Env} {F X : FH} {h : List (Blk C.E)} {w w' : World} (H : RH e F X h w) (b : Blk C.E) (m len cap : Nat)
    (hw : ∀ k, k < w.heap.size → k ≠ m → w'.heap[k]? = w.heap[k]?)
    (hm : ∀ i, Live e h i → e.ρ i ≠ m) (hF : F m = none) (hX : X m = none)
    (new : RB (e.add m len cap) F h.length w'.heap[m]? b) : RH (e.add m len cap) F X (h ++ [b]) w' := by
  have old : ∀ k o, w.heap[k]? = some o → k ≠ m → w'.heap[k]? = some o := fun k o hk hne => by rw [hw k (Array.getElem?_eq_some_iff.mp hk).1 hne]; exact hk
  refine ⟨by simp [H.sz], fun k o hk => old k o (H.fro k o hk) (fun hh => by rw [hh, hF] at hk; exact absurd hk (by simp)),
    fun k o hk => old k o (H.out k o hk) (fun hh => by rw [hh, hX] at hk; exact absurd hk (by simp)), H.apart, ?_, ?_, ?_⟩
  · intro id c hc
    rcases Nat.lt_or_ge id h.length with hl | hl
    · rw [List.getElem?_append_left hl] at hc
      have hB := H.blk id c hc
      have hρ : (e.add m len cap).ρ id = e.ρ id := Env.add_ρ_lt (by rw [H.sz]; exact hl)
      have hB' : RB (e.add m len cap) F id w.heap[e.ρ id]? c := RB.mono (Env.le_add e m len cap) (FLe.refl F) (by rw [H.sz]; exact hl) (fun h _ => h) hB
      rw [hρ]
      by_cases hlive : Live e h id
      · obtain ⟨a, el, ha⟩ := heap_of_live H hlive
        rw [hw _ (Array.getElem?_eq_some_iff.mp ha).1 (hm id hlive)]; exact hB'
      · unfold Live at hlive
        rw [hc] at hlive
        cases c with
        | dead => trivial
        | cells l => exact absurd trivial hlive
        | arr t l fro =>
          have hcap : e.cap id = 0 := by
            rcases Nat.eq_zero_or_pos (e.cap id) with h | h
            · exact h
            · exact absurd (by show e.cap id ≠ 0; omega) hlive
          have hl0 : l = [] := by
            rcases hB.2 with h | ⟨_, _, _, _, _, _, h5, _⟩
            · exact h.2
            · rw [hcap] at h5; exact List.length_eq_zero_iff.mp (by omega)
          exact ⟨by rw [(Env.le_add e m len cap).len id (by rw [H.sz]; exact hl)]; exact hB.1, .inl ⟨by rw [Env.add_cap_lt (by rw [H.sz]; exact hl)]; exact hcap, hl0⟩⟩
        | map a b m => exact hB.elim
    · have hid : id = h.length := by
        have := (List.getElem?_eq_some_iff.mp hc).1
        simp at this; omega
      subst hid
      simp at hc
      subst hc
      rw [← H.sz, Env.add_ρ, H.sz]; exact new
  · intro i j hij hi hj hnn
    have hli := lt_of_live hi
    have hlj := lt_of_live hj
    simp at hli hlj
    rcases Nat.lt_or_ge i h.length with h1 | h1 <;> rcases Nat.lt_or_ge j h.length with h2 | h2
    · rw [live_append H.sz h1] at hi
      rw [live_append H.sz h2] at hj
      rw [Env.add_ρ_lt (by rw [H.sz]; exact h1), Env.add_ρ_lt (by rw [H.sz]; exact h2)]
      exact H.inj i j hij hi hj fun ⟨⟨t, l, g1⟩, ⟨t', l', g2⟩⟩ => hnn ⟨⟨t, l, by rw [List.getElem?_append_left h1]; exact g1⟩, ⟨t', l', by rw [List.getElem?_append_left h2]; exact g2⟩⟩
    · rw [live_append H.sz h1] at hi
      have hj' : j = e.sz := by rw [H.sz]; omega
      subst hj'
      rw [Env.add_ρ_lt (by rw [H.sz]; exact h1), Env.add_ρ]
      exact hm i hi
    · rw [live_append H.sz h2] at hj
      have hi' : i = e.sz := by rw [H.sz]; omega
      subst hi'
      rw [Env.add_ρ, Env.add_ρ_lt (show j < e.sz by rw [H.sz]; exact h2)]
      exact fun hh => hm j hj hh.symm
    · omega
  · intro i hi hnf
    have hli := lt_of_live hi
    simp at hli
    rcases Nat.lt_or_ge i h.length with h1 | h1
    · rw [live_append H.sz h1] at hi
      rw [Env.add_ρ_lt (by rw [H.sz]; exact h1)]
      refine H.mine i hi fun ⟨t, l, hf⟩ => hnf ⟨t, l, by rw [List.getElem?_append_left h1]; exact hf⟩
    · have hi' : i = e.sz := by rw [H.sz]; omega
      subst hi'
      rw [Env.add_ρ]; exact hX

/-- One block is written. -/
theorem RH.set {e : Env} {F X : FH} {h : List (Blk C.E)} {w w' : World} (H : RH e F X h w) (id : Nat) (b : Blk C.E) (hl : Live e h id) (hnf : ¬ Fro h id) (hF : F (e.ρ id) = none)
    (hw : ∀ k, k ≠ e.ρ id → w'.heap[k]? = w.heap[k]?)
    (new : RB e F id w'.heap[e.ρ id]? b) : RH e F X (h.set id b) w' := by
  have hid := lt_of_live hl
  have hX := H.mine id hl hnf
  have hfro : ∀ i, Fro h i → Fro (h.set id b) i := fun i hf => by
    by_cases hii : i = id
    · subst hii; exact absurd hf hnf
    · obtain ⟨t, l, g⟩ := hf; exact ⟨t, l, by rw [List.getElem?_set_ne (Ne.symm hii)]; exact g⟩
  have hlive : ∀ j, Live e (h.set id b) j → Live e h j := by
    intro j hj
    by_cases hji : j = id
    · subst hji; exact hl
    · unfold Live at *; rw [List.getElem?_set_ne (Ne.symm hji)] at hj; exact hj
  refine ⟨by rw [List.length_set]; exact H.sz, fun k o hk => ?_, fun k o hk => ?_, H.apart, ?_, fun i j hij hi hj hnn => H.inj i j hij (hlive i hi) (hlive j hj) fun ⟨g1, g2⟩ => hnn ⟨hfro i g1, hfro j g2⟩, ?_⟩
  · rw [hw k (fun hh => by rw [hh, hF] at hk; exact absurd hk (by simp))]; exact H.fro k o hk
  · rw [hw k (fun hh => by rw [hh, hX] at hk; exact absurd hk (by simp))]; exact H.out k o hk
  · intro j c hc
    by_cases hji : j = id
    · subst hji
      rw [List.getElem?_set_self hid] at hc
      cases hc; exact new
    · rw [List.getElem?_set_ne (Ne.symm hji)] at hc
      have hB := H.blk j c hc
      by_cases hj : Live e h j
      · rw [hw _ (H.inj j id hji hj hl fun hh => hnf hh.2)]; exact hB
      · unfold Live at hj
        rw [hc] at hj
        cases c with
        | dead => trivial
        | cells l => exact absurd trivial hj
        | arr t l fro =>
          have hcap : e.cap j = 0 := by
            rcases Nat.eq_zero_or_pos (e.cap j) with h | h
            · exact h
            · exact absurd (by show e.cap j ≠ 0; omega) hj
          have hl0 : l = [] := by
            rcases hB.2 with h | ⟨_, _, _, _, _, _, h5, _⟩
            · exact h.2
            · rw [hcap] at h5; exact List.length_eq_zero_iff.mp (by omega)
          exact ⟨hB.1, .inl ⟨hcap, hl0⟩⟩
        | map a b m => exact hB.elim
  · intro i hi hnf'
    by_cases hii : i = id
    · subst hii; exact hX
    · exact H.mine i (hlive i hi) fun ⟨t, l, hf⟩ => hnf' ⟨t, l, by rw [List.getElem?_set_ne (Ne.symm hii)]; exact hf⟩

/-- A block falls away. -/
theorem RH.kill {e : Env} {F X : FH} {h : List (Blk C.E)} {w : World} (H : RH e F X h w) (id : Nat) : RH e F X (h.set id .dead) w := by
  have hlive : ∀ j, Live e (h.set id .dead) j → Live e h j ∧ j ≠ id := by
    intro j hj
    by_cases hji : j = id
    · subst hji
      have := lt_of_live hj
      unfold Live at hj
      rw [List.getElem?_set_self (by simpa using this)] at hj
      exact hj.elim
    · refine ⟨?_, hji⟩; unfold Live at *; rw [List.getElem?_set_ne (Ne.symm hji)] at hj; exact hj
  refine ⟨by rw [List.length_set]; exact H.sz, H.fro, H.out, H.apart, ?_, fun i j hij hi hj hnn => H.inj i j hij (hlive i hi).1 (hlive j hj).1 fun ⟨⟨t, l, g1⟩, ⟨t', l', g2⟩⟩ => hnn ⟨⟨t, l, by rw [List.getElem?_set_ne (Ne.symm (hlive i hi).2)]; exact g1⟩, ⟨t', l', by rw [List.getElem?_set_ne (Ne.symm (hlive j hj).2)]; exact g2⟩⟩, ?_⟩
  · intro j c hc
    by_cases hji : j = id
    · subst hji
      have := (List.getElem?_eq_some_iff.mp hc).1
      rw [List.getElem?_set_self (by simpa using this)] at hc
      cases hc; trivial
    · rw [List.getElem?_set_ne (Ne.symm hji)] at hc; exact H.blk j c hc
  · intro i hi hnf'
    exact H.mine i (hlive i hi).1 fun ⟨t, l, hf⟩ => hnf' ⟨t, l, by rw [List.getElem?_set_ne (Ne.symm (hlive i hi).2)]; exact hf⟩

/-- A row is only read from now on. -/
theorem RH.freeze {e : Env} {F X : FH} {h : List (Blk C.E)} {w : World} (H : RH e F X h w) (id t : Nat) (l : List (C.E t)) (fro : Bool) (hb : h[id]? = some (.arr t l fro)) :
    ∃ F', FLe F F' ∧ RH e F' X (h.set id (.arr t l true)) w ∧ (e.cap id ≠ 0 → F' (e.ρ id) = w.heap[e.ρ id]?) := by
  have hB := H.blk id _ hb
  have hid : id < h.length := (List.getElem?_eq_some_iff.mp hb).1
  have hLive : ∀ j, Live e (h.set id (.arr t l true)) j ↔ Live e h j := by
    intro j
    by_cases hji : j = id
    · subst hji; unfold Live; rw [List.getElem?_set_self hid, hb]
    · unfold Live; rw [List.getElem?_set_ne (Ne.symm hji)]
  have hfro : ∀ i, Fro h i → Fro (h.set id (.arr t l true)) i := fun i ⟨t', l', g⟩ => by
    by_cases hii : i = id
    · subst hii; exact ⟨t, l, List.getElem?_set_self hid⟩
    · exact ⟨t', l', by rw [List.getElem?_set_ne (Ne.symm hii)]; exact g⟩
  by_cases hcap : e.cap id = 0
  · refine ⟨F, FLe.refl F, ⟨by rw [List.length_set]; exact H.sz, H.fro, H.out, H.apart, ?_, fun i j hij hi hj hnn => H.inj i j hij ((hLive i).1 hi) ((hLive j).1 hj) fun ⟨g1, g2⟩ => hnn ⟨hfro i g1, hfro j g2⟩, ?_⟩, fun h => absurd hcap h⟩
    · intro j c hc
      by_cases hji : j = id
      · subst hji
        rw [List.getElem?_set_self hid] at hc
        cases hc
        refine ⟨hB.1, .inl ⟨hcap, ?_⟩⟩
        rcases hB.2 with h | ⟨_, _, _, _, _, _, h5, _⟩
        · exact h.2
        · rw [hcap] at h5; exact List.length_eq_zero_iff.mp (by omega)
      · rw [List.getElem?_set_ne (Ne.symm hji)] at hc; exact H.blk j c hc
    · intro i hi hnf
      have hi' := (hLive i).1 hi
      refine H.mine i hi' fun ⟨t', l', hf⟩ => ?_
      by_cases hii : i = id
      · subst hii
        unfold Live at hi'
        rw [hb] at hi'
        exact hi' hcap
      · exact hnf ⟨t', l', by rw [List.getElem?_set_ne (Ne.symm hii)]; exact hf⟩
  · have hl : Live e h id := by unfold Live; rw [hb]; exact hcap
    obtain ⟨h0, h0' | ⟨a, el, h1, h2, h3, h4, h5, h6, h7⟩⟩ := hB
    · exact absurd h0'.1 hcap
    · have hle : FLe F (fun b => if b = e.ρ id then w.heap[e.ρ id]? else F b) := by
        refine ⟨fun b o hbo => ?_⟩
        by_cases hbe : b = e.ρ id
        · subst hbe; simp only [if_pos]; exact H.fro _ _ hbo
        · simp only [if_neg hbe]; exact hbo
      refine ⟨_, hle, ⟨by rw [List.length_set]; exact H.sz, fun b o hbo => ?_, H.out, fun b o hbo => ?_, ?_, fun i j hij hi hj hnn => H.inj i j hij ((hLive i).1 hi) ((hLive j).1 hj) fun ⟨g1, g2⟩ => hnn ⟨hfro i g1, hfro j g2⟩, ?_⟩, fun _ => if_pos rfl⟩
      · by_cases hbe : b = e.ρ id
        · subst hbe; simp only [if_pos] at hbo; exact hbo
        · simp only [if_neg hbe] at hbo; exact H.fro b o hbo
      · by_cases hbe : b = e.ρ id
        · subst hbe
          cases fro with
          | false =>
            have := H.mine id hl fun ⟨t', l', hf⟩ => by rw [hb] at hf; cases hf
            rw [this] at hbo; cases hbo
          | true =>
            have h8 := H.apart _ _ hbo
            rw [h3 rfl, h1] at h8; cases h8
        · simp only [if_neg hbe]; exact H.apart b o hbo
      · intro j c hc
        by_cases hji : j = id
        · subst hji
          rw [List.getElem?_set_self hid] at hc
          cases hc
          exact ⟨h0, .inr ⟨a, el, h1, by simp, fun _ => by simp only [if_pos], h4, h5, h6, h7.mono (ELe.refl e) hle⟩⟩
        · rw [List.getElem?_set_ne (Ne.symm hji)] at hc
          have hjl : j < h.length := (List.getElem?_eq_some_iff.mp hc).1
          have hBj := H.blk j c hc
          by_cases hj : Live e h j
          · refine RB.mono (ELe.refl e) hle (by rw [H.sz]; exact hjl) (fun hn _ => ?_) hBj
            have hnfj : ¬ Fro h j := fun ⟨t', l', g⟩ => by
              rw [hc] at g; cases g
              obtain ⟨_, g1 | ⟨a', el', g1, g2, g3, _⟩⟩ := hBj
              · unfold Live at hj; rw [hc] at hj; exact hj g1.1
              · rw [g3 rfl, g1] at hn; cases hn
            simp only [if_neg (H.inj j id hji hj hl fun hh => hnfj hh.1)]; exact hn
          · unfold Live at hj
            rw [hc] at hj
            cases c with
            | dead => trivial
            | cells l => exact absurd trivial hj
            | arr t' l' fro' =>
              have hcap : e.cap j = 0 := by
                rcases Nat.eq_zero_or_pos (e.cap j) with h | h
                · exact h
                · exact absurd (by show e.cap j ≠ 0; omega) hj
              have hl0 : l' = [] := by
                rcases hBj.2 with h | ⟨_, _, _, _, _, _, h5, _⟩
                · exact h.2
                · rw [hcap] at h5; exact List.length_eq_zero_iff.mp (by omega)
              exact ⟨hBj.1, .inl ⟨hcap, hl0⟩⟩
            | map a b m => exact hBj.elim
      · intro i hi hnf
        have hi' := (hLive i).1 hi
        by_cases hii : i = id
        · subst hii; exact absurd ⟨t, l, List.getElem?_set_self hid⟩ hnf
        · exact H.mine i hi' fun ⟨t', l', hf⟩ => hnf ⟨t', l', by rw [List.getElem?_set_ne (Ne.symm hii)]; exact hf⟩

end
end Go.Proofs.Ytgplkdcibahofaa.Ev
