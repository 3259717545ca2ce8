/-
  The evaluator's registers, renumbering and what falls away: each step keeps what is said of the machine's. No program is named here.
-/
import Derived.Test.YtgplkdcibahofaaEvOps12
namespace Go.Proofs.Ytgplkdcibahofaa.Ev
open Go

/-! values made plain are the same values -/
section
variable {E : Nat → Type}

theorem natGo_eq : ∀ (n a : Nat) (k : Nat → Prop), natGo n a k = k (a + n)
  | 0, a, k => rfl
  | n + 1, a, k => by rw [natGo, natGo_eq n (a + 1) k]; congr 1; omega
theorem natK_eq (n : Nat) (k : Nat → Prop) : natK n k = k n := by rw [natK, natGo_eq, Nat.zero_add]
theorem force0_eq (v : AV E) (k : AV E → Prop) : force0 v k = k v := by cases v <;> simp [force0, natK_eq]
theorem forceL1_eq {f : AV E → (AV E → Prop) → Prop} (hf : ∀ v k, f v k = k v) : ∀ (l : List (AV E)) (k : List (AV E) → Prop), forceL1 f l k = k l
  | [], k => rfl
  | v :: r, k => by rw [forceL1, hf, forceL1_eq hf r]
theorem forceV_eq : ∀ (d : Nat) (v : AV E) (k : AV E → Prop), forceV d v k = k v
  | 0, v, k => by rw [forceV, force0_eq]
  | d + 1, v, k => by
    unfold forceV
    split
    · rw [forceL1_eq (forceV_eq d)]
    · rw [forceL1_eq (forceV_eq d)]
    · rw [forceL1_eq (forceV_eq d), forceL1_eq (forceV_eq d)]
    · rw [force0_eq]
theorem forceB_eq (b : Blk E) (k : Blk E → Prop) : forceB b k = k b := by cases b <;> simp [forceB, forceL1_eq (forceV_eq 3)]
theorem forceH_eq : ∀ (h : List (Blk E)) (k : List (Blk E) → Prop), forceH h k = k h
  | [], k => rfl
  | b :: r, k => by rw [forceH, forceB_eq, forceH_eq r]
theorem forceT_eq : ∀ (t : Tr E) (k : Tr E → Prop), forceT t k = k t
  | .lf, k => rfl
  | .nd v l r, k => by rw [forceT, forceV_eq, forceT_eq l, forceT_eq r]

theorem get_zero (v : AV E) (l r : Tr E) : (Tr.nd v l r).get 0 = v := rfl
theorem get_even (v : AV E) (l r : Tr E) {m : Nat} (h : m % 2 = 0) : (Tr.nd v l r).get (m + 1) = l.get (m / 2) := by simp only [Tr.get, h]
theorem get_odd (v : AV E) (l r : Tr E) {m : Nat} (h : m % 2 ≠ 0) : (Tr.nd v l r).get (m + 1) = r.get (m / 2) := by
  simp only [Tr.get]

theorem get_nd (u : AV E) (l r l' r' : Tr E) (v : AV E) {m : Nat} :
    (m % 2 = 0 → (∀ k, l'.get k = if k = m / 2 then v else l.get k) → ∀ k, (Tr.nd u l' r).get k = if k = m + 1 then v else (Tr.nd u l r).get k) ∧
    (m % 2 ≠ 0 → (∀ k, r'.get k = if k = m / 2 then v else r.get k) → ∀ k, (Tr.nd u l r').get k = if k = m + 1 then v else (Tr.nd u l r).get k) := by
  constructor <;> intro hm h k <;> cases k with
  | zero => simp [get_zero]
  | succ k =>
    by_cases hk : k % 2 = 0
    · rw [get_even _ _ _ hk, get_even _ _ _ hk]
      first
        | (rw [h]; by_cases hkm : k = m
           · subst hkm; simp
           · have : k / 2 ≠ m / 2 := by omega
             simp [hkm, this])
        | (have : k ≠ m := by intro hh; subst hh; exact hm hk
           simp [this])
    · rw [get_odd _ _ _ hk, get_odd _ _ _ hk]
      first
        | (rw [h]; by_cases hkm : k = m
           · subst hkm; simp
           · have : k / 2 ≠ m / 2 := by omega
             simp [hkm, this])
        | (have : k ≠ m := by intro hh; subst hh; exact hk hm
           simp [this])

theorem lf_get (k : Nat) : (Tr.lf : Tr E).get k = .top := rfl
theorem nd_lf_get (k : Nat) : (Tr.nd .top .lf .lf : Tr E).get k = .top := by
  cases k with
  | zero => rfl
  | succ k =>
    by_cases hk : k % 2 = 0
    · rw [get_even _ _ _ hk]; rfl
    · rw [get_odd _ _ _ hk]; rfl

theorem setK_ok : ∀ (d : Nat) {sl : Tr E} {n : Nat} {v : AV E} {K : Tr E → Prop}, setK d sl n v K → ∃ sl', K sl' ∧ ∀ m, sl'.get m = if m = n then v else sl.get m
  | 0, sl, n, v, K, h => h.elim
  | d + 1, .lf, n, v, K, h => by
    cases n with
    | zero =>
      refine ⟨_, h, fun m => ?_⟩
      cases m with
      | zero => rfl
      | succ m => by_cases hk : m % 2 = 0
                  · rw [get_even _ _ _ hk]; rfl
                  · rw [get_odd _ _ _ hk]; rfl
    | succ m =>
      simp only [setK] at h
      split at h
      · rename_i hm
        obtain ⟨l, h1, h2⟩ := setK_ok d h
        refine ⟨_, h1, fun k => ?_⟩
        rw [(get_nd .top .lf .lf l .lf v).1 hm h2 k, nd_lf_get]; rfl
      · rename_i hm
        obtain ⟨l, h1, h2⟩ := setK_ok d h
        refine ⟨_, h1, fun k => ?_⟩
        rw [(get_nd .top .lf .lf .lf l v).2 hm h2 k, nd_lf_get]; rfl
  | d + 1, .nd u l r, n, v, K, h => by
    cases n with
    | zero =>
      refine ⟨_, h, fun m => ?_⟩
      cases m with
      | zero => rfl
      | succ m => by_cases hk : m % 2 = 0
                  · rw [get_even _ _ _ hk, get_even _ _ _ hk]; simp
                  · rw [get_odd _ _ _ hk, get_odd _ _ _ hk]; simp
    | succ m =>
      simp only [setK] at h
      split at h
      · rename_i hm
        obtain ⟨l', h1, h2⟩ := setK_ok d h
        exact ⟨_, h1, (get_nd u l r l' r v).1 hm h2⟩
      · rename_i hm
        obtain ⟨r', h1, h2⟩ := setK_ok d h
        exact ⟨_, h1, (get_nd u l r l r' v).2 hm h2⟩

theorem get_congr {u : AV E} {l r l' r' : Tr E} (h1 : ∀ n, l'.get n = l.get n) (h2 : ∀ n, r'.get n = r.get n) (n : Nat) : (Tr.nd u l' r').get n = (Tr.nd u l r).get n := by
  cases n with
  | zero => rfl
  | succ k => by_cases hk : k % 2 = 0
              · rw [get_even _ _ _ hk, get_even _ _ _ hk, h1]
              · rw [get_odd _ _ _ hk, get_odd _ _ _ hk, h2]

theorem prune_ok : ∀ (t : Tr E) {K : Tr E → Prop}, prune t K → ∃ t', K t' ∧ ∀ n, t'.get n = t.get n
  | .lf, K, h => ⟨_, h, fun _ => rfl⟩
  | .nd v l r, K, h => by
    unfold prune at h
    obtain ⟨l', h1, h2⟩ := prune_ok l h
    obtain ⟨r', h3, h4⟩ := prune_ok r h1
    split at h3
    · exact ⟨_, h3, fun n => by rw [← get_congr h2 h4, nd_lf_get]; rfl⟩
    · exact ⟨_, h3, get_congr h2 h4⟩

theorem killK_ok : ∀ (l : List Nat) {sl : Tr E} {K : Tr E → Prop}, killK l sl K → ∃ sl', K sl' ∧ ∀ n, sl'.get n = .top ∨ sl'.get n = sl.get n
  | [], sl, K, h => ⟨_, h, fun _ => .inr rfl⟩
  | t :: r, sl, K, h => by
    unfold killK at h
    obtain ⟨s1, h1, h2⟩ := setK_ok fuel h
    obtain ⟨s2, h3, h4⟩ := killK_ok r h1
    refine ⟨s2, h3, fun n => ?_⟩
    rcases h4 n with h5 | h5
    · exact .inl h5
    · rw [h2] at h5
      split at h5
      · exact .inl h5
      · exact .inr h5

theorem trMap_get (f : AV E → AV E) (hf : f .top = .top) : ∀ (t : Tr E) (n : Nat), (trMap f t).get n = f (t.get n)
  | .lf, n => hf.symm
  | .nd v l r, n => by
    unfold trMap
    cases n with
    | zero => rfl
    | succ k => by_cases hk : k % 2 = 0
                · rw [get_even _ _ _ hk, get_even _ _ _ hk, trMap_get f hf l]
                · rw [get_odd _ _ _ hk, get_odd _ _ _ hk, trMap_get f hf r]
end

section
variable {C : Ctx} {P : Program} {e e' : Env} {F X : FH} {h : List (Blk C.E)} {w : World} {sl : Tr C.E} {a : Act} {o : Oper}

/-! blocks under other numbers -/
def Ren (e e' : Env) (m : Nat → Option Nat) : Prop := ∀ i j, i < e.sz → m i = some j → j < e'.sz ∧ e'.ρ j = e.ρ i ∧ e'.len j = e.len i ∧ e'.cap j = e.cap i

theorem one_ren {m : Nat → Option Nat} {d : Nat} {c : AV C.E} (h1 : AV.one c = true) (h2 : allIds (fun i => (m i).isSome) d c = true) : AV.one (renV m d c) = true := by
  have key : ∀ i, (m i).isSome = true → ∃ j, m i = some j := fun i hi => Option.isSome_iff_exists.mp hi
  cases c with
  | agg cs => cases h1
  | aarr t l => cases h1
  | tuple vs => cases h1
  | top => cases h1
  | fn f a b => cases d with
    | zero => cases h2
    | succ d => rfl
  | ptr id off =>
    obtain ⟨j, hj⟩ := key id (by cases d <;> exact h2)
    cases d <;> simp [renV, hj, AV.one]
  | eptr t id i off =>
    obtain ⟨j, hj⟩ := key id (by cases d <;> exact h2)
    cases d <;> simp [renV, hj, AV.one]
  | own t id =>
    obtain ⟨j, hj⟩ := key id (by cases d <;> exact h2)
    cases d <;> simp [renV, hj, AV.one]
  | view t id lo n =>
    obtain ⟨j, hj⟩ := key id (by cases d <;> exact h2)
    cases d <;> simp [renV, hj, AV.one]
  | viewc t id lo n c =>
    obtain ⟨j, hj⟩ := key id (by cases d <;> exact h2)
    cases d <;> simp [renV, hj, AV.one]
  | map id =>
    obtain ⟨j, hj⟩ := key id (by cases d <;> exact h2)
    cases d <;> simp [renV, hj, AV.one]
  | _ => cases d <;> rfl

theorem RV.plain_any (hC : Ok C P) {v : AV C.E} {rv : Value} (hv : RV C e F v rv) : v.plain = true → RV C e' F v rv := by
  induction hv with
  | bool b => exact fun _ => .bool b
  | int k n => exact fun _ => .int k n
  | str s => exact fun _ => .str s
  | nilp => exact fun _ => .nilp
  | nils t => exact fun _ => .nils t
  | sl t l a c b o vs hc ha h h2 ih => exact fun _ => .sl t l a c b o vs hc ha h (fun i x j cc h3 h4 => ih i x j cc h3 h4 (hC.enc t x cc (List.mem_of_getElem? h4)))
  | nilmap => exact fun _ => .nilmap
  | nilf => exact fun _ => .nilf
  | _ => exact fun h => by cases h

theorem RV.ren (hC : Ok C P) {m : Nat → Option Nat} (hm : Ren e e' m) {v : AV C.E} {rv : Value} (hv : RV C e F v rv) : ∀ d, RV C e' F (renV m d v) rv := by
  induction hv with
  | top v => intro d; cases d <;> exact .top v
  | bool b => intro d; cases d <;> exact .bool b
  | int k n => intro d; cases d <;> exact .int k n
  | str s => intro d; cases d <;> exact .str s
  | nilp => intro d; cases d <;> exact .nilp
  | ptr id off h =>
    intro d
    have : renV m d (.ptr id off : AV C.E) = (match m id with | some id => .ptr id off | none => .top) := by cases d <;> rfl
    rw [this]
    split
    · rename_i j hj
      obtain ⟨h1, h2, _⟩ := hm _ _ h hj
      rw [← h2]; exact .ptr _ _ h1
    · exact .top _
  | eptr t id i off h h1 =>
    intro d
    have : renV m d (.eptr t id i off : AV C.E) = (match m id with | some id => .eptr t id i off | none => .top) := by cases d <;> rfl
    rw [this]
    split
    · rename_i j hj
      obtain ⟨g1, g2, g3, _⟩ := hm _ _ h hj
      rw [← g2]; exact .eptr _ _ _ _ g1 (by rw [g3]; exact h1)
    · exact .top _
  | rptr t x off b o vs h h2 ih =>
    intro d
    have : renV m d (.rptr t x off : AV C.E) = .rptr t x off := by cases d <;> rfl
    rw [this]
    exact .rptr t x off b o vs h (fun j c hj => (h2 j c hj).plain_any hC (hC.enc t x c (List.mem_of_getElem? hj)))
  | nils t => intro d; cases d <;> exact .nils t
  | sl t l a c b o vs hc ha h h2 ih =>
    intro d
    have : renV m d (.sl t l : AV C.E) = .sl t l := by cases d <;> rfl
    rw [this]
    exact .sl t l a c b o vs hc ha h (fun i x j cc h3 h4 => (h2 i x j cc h3 h4).plain_any hC (hC.enc t x cc (List.mem_of_getElem? h4)))
  | own t id a c h h1 h2 h3 =>
    intro d
    have : renV m d (.own t id : AV C.E) = (match m id with | some id => .own t id | none => .top) := by cases d <;> rfl
    rw [this]
    split
    · rename_i j hj
      obtain ⟨g1, g2, g3, g4⟩ := hm _ _ h hj
      rw [← g3]
      exact .own _ _ _ _ g1 (by rw [g3]; exact h1) (by rw [g4]; exact h2) (fun hc => by rw [g2]; exact h3 hc)
    · exact .top _
  | view t id lo n a c h h1 h2 h3 h4 =>
    intro d
    have : renV m d (.view t id lo n : AV C.E) = (match m id with | some id => .view t id lo n | none => .top) := by cases d <;> rfl
    rw [this]
    split
    · rename_i j hj
      obtain ⟨g1, g2, g3, g4⟩ := hm _ _ h hj
      exact .view _ _ _ _ _ _ g1 h1 (by rw [g4]; exact h2) (fun hc => by rw [g2]; exact h3 hc) (by rw [g3]; exact h4)
    · exact .top _
  | viewc t id lo n c a h h1 h2 h3 =>
    intro d
    have : renV m d (.viewc t id lo n c : AV C.E) = (match m id with | some id => .viewc t id lo n c | none => .top) := by cases d <;> rfl
    rw [this]
    split
    · rename_i j hj
      obtain ⟨g1, g2, g3, g4⟩ := hm _ _ h hj
      exact .viewc _ _ _ _ _ _ g1 h1 (by rw [g3]; exact h2) (fun hc => by rw [g2]; exact h3 hc)
    · exact .top _
  | tsl t l a b o vs ha h h2 ih =>
    intro d
    have : renV m d (.tsl t l : AV C.E) = .tsl t l := by cases d <;> rfl
    rw [this]
    exact .tsl t l a b o vs ha h (fun i x j cc h3 h4 => (h2 i x j cc h3 h4).plain_any hC (hC.enc t x cc (List.mem_of_getElem? h4)))
  | nilmap => intro d; cases d <;> exact .nilmap
  | map id h =>
    intro d
    have : renV m d (.map id : AV C.E) = (match m id with | some id => .map id | none => .top) := by cases d <;> rfl
    rw [this]
    split
    · rename_i j hj
      obtain ⟨h1, h2, _⟩ := hm _ _ h hj
      rw [← h2]; exact .map _ h1
    · exact .top _
  | nilf => intro d; cases d <;> exact .nilf
  | fn f a b va vb ha hb h1 h2 ih1 ih2 =>
    intro d
    cases d with
    | zero => exact .top _
    | succ d =>
      refine .fn f _ _ va vb (by rw [List.length_map]; exact ha) (by rw [List.length_map]; exact hb) (fun i c hi => ?_) (fun i c hi => ?_)
      · rw [List.getElem?_map] at hi
        obtain ⟨c', hc', rfl⟩ := Option.map_eq_some_iff.mp hi
        exact ih1 i c' hc' d
      · rw [List.getElem?_map] at hi
        obtain ⟨c', hc', rfl⟩ := Option.map_eq_some_iff.mp hi
        exact ih2 i c' hc' d
  | agg cs vs hs h1 h ih =>
    intro d
    cases d with
    | zero => exact .top _
    | succ d =>
      simp only [renV]
      split
      · rename_i hall
        rw [List.all_eq_true] at hall
        refine .agg _ vs (by rw [List.length_map]; exact hs) (fun i c hi => ?_) (fun i c hi => ?_)
        · rw [List.getElem?_map] at hi
          obtain ⟨c', hc', rfl⟩ := Option.map_eq_some_iff.mp hi
          exact one_ren (h1 i c' hc') (hall c' (List.mem_of_getElem? hc'))
        · rw [List.getElem?_map] at hi
          obtain ⟨c', hc', rfl⟩ := Option.map_eq_some_iff.mp hi
          exact ih i c' hc' d
      · exact .top _
  | aarr t l vs hs h1 h ih =>
    intro d
    have : renV m d (.aarr t l : AV C.E) = .aarr t l := by cases d <;> rfl
    rw [this]
    exact .aarr t l vs hs h1 (fun i x j cc h3 h4 => (h i x j cc h3 h4).plain_any hC (hC.enc t x cc (List.mem_of_getElem? h4)))
  | tuple cs vs hs h ih =>
    intro d
    cases d with
    | zero => exact .top _
    | succ d =>
      refine .tuple _ vs (by rw [List.length_map]; exact hs) (fun i c hi => ?_)
      rw [List.getElem?_map] at hi
      obtain ⟨c', hc', rfl⟩ := Option.map_eq_some_iff.mp hi
      exact ih i c' hc' d

/-- all blocks' rows and cells, under other numbers -/
theorem RB.ren (hC : Ok C P) {m : Nat → Option Nat} (hm : Ren e e' m) {i j : Nat} (hρ : e'.ρ j = e.ρ i) (hl : e'.len j = e.len i) (hc : e'.cap j = e.cap i) {ob : Option Obj} {b : Blk C.E} (hb : RB e F i ob b) : RB e' F j ob (renB m b) := by
  cases b with
  | dead => trivial
  | cells l =>
    simp only [renB]
    split
    · rename_i hall
      rw [List.all_eq_true] at hall
      obtain ⟨a, el, h1, h2, h3, h4⟩ := hb
      refine ⟨a, el, h1, by rw [hρ]; exact h2, by rw [List.length_map]; exact h3, fun k c hk => ?_⟩
      rw [List.getElem?_map] at hk
      obtain ⟨c', hc', rfl⟩ := Option.map_eq_some_iff.mp hk
      obtain ⟨h5, h6⟩ := h4 k c' hc'
      exact ⟨one_ren h5 (hall c' (List.mem_of_getElem? hc')), h6.ren hC hm 4⟩
    · trivial
  | arr t l fro =>
    obtain ⟨h0, h⟩ := hb
    refine ⟨by rw [hl]; exact h0, ?_⟩
    rcases h with h | ⟨a, el, h1, h2, h3, h4, h5, h6, h7⟩
    · exact .inl ⟨by rw [hc]; exact h.1, h.2⟩
    · exact .inr ⟨a, el, h1, fun hf => by rw [hρ]; exact h2 hf, fun hf => by rw [hρ]; exact h3 hf, by rw [hc]; exact h4, by rw [hc]; exact h5, h6, fun i x j c hi hj => (h7 i x j c hi hj).plain_any hC (hC.enc t x c (List.mem_of_getElem? hj))⟩
  | map a b m => exact hb.elim

theorem live_ren {m : Nat → Option Nat} {h h' : List (Blk C.E)} {i j : Nat} (hget : ∀ b', h'[j]? = some b' → ∃ b, (h[i]? = some b ∨ b = .dead) ∧ b' = renB m b) (hc : e'.cap j = e.cap i) (hl : Live e' h' j) : Live e h i ∧ (Fro h i → Fro h' j) := by
  unfold Live at hl
  cases hb : h'[j]? with
  | none => rw [hb] at hl; exact hl.elim
  | some b' =>
    rw [hb] at hl
    obtain ⟨b, h1, rfl⟩ := hget b' hb
    rcases h1 with h1 | rfl
    · unfold Live
      rw [h1]
      cases b with
      | dead => exact hl.elim
      | cells l => exact ⟨trivial, fun ⟨t, l', hf⟩ => by rw [h1] at hf; cases hf⟩
      | arr t l fro => exact ⟨by rw [← hc]; exact hl, fun ⟨t', l', hf⟩ => by rw [h1] at hf; cases hf; exact ⟨_, _, hb⟩⟩
      | map a b m => exact ⟨trivial, fun ⟨t, l', hf⟩ => by rw [h1] at hf; cases hf⟩
    · exact hl.elim

/-- A heap under other numbers: what stands behind number j stood behind number 'g j'. -/
theorem RH.ren (hC : Ok C P) (H : RH e F X h w) {m : Nat → Option Nat} (hm : Ren e e' m) {h' : List (Blk C.E)} (g : Nat → Nat) (hsz : e'.sz = h'.length)
    (hget : ∀ j, j < h'.length → ∀ b', h'[j]? = some b' → ∃ b, (h[g j]? = some b ∨ b = .dead) ∧ b' = renB m b) (hg : ∀ i j, i < h'.length → j < h'.length → i ≠ j → g i ≠ g j)
    (hρ : ∀ j, j < h'.length → e'.ρ j = e.ρ (g j)) (hl : ∀ j, j < h'.length → e'.len j = e.len (g j)) (hc : ∀ j, j < h'.length → e'.cap j = e.cap (g j)) : RH e' F X h' w := by
  have hlt : ∀ j, Live e' h' j → j < h'.length := fun j hj => lt_of_live hj
  refine ⟨hsz, H.fro, H.out, H.apart, fun j b' hb' => ?_, fun i j hij hi hj hnn => ?_, fun i hi hnf => ?_⟩
  · have hj := (List.getElem?_eq_some_iff.mp hb').1
    obtain ⟨b, h1, rfl⟩ := hget j hj b' hb'
    rcases h1 with h1 | rfl
    · rw [hρ j hj]
      exact RB.ren hC hm (hρ j hj) (hl j hj) (hc j hj) (H.blk _ b h1)
    · trivial
  · have hi' := hlt i hi
    have hj' := hlt j hj
    rw [hρ i hi', hρ j hj']
    exact H.inj _ _ (hg i j hi' hj' hij) (live_ren (hget i hi') (hc i hi') hi).1 (live_ren (hget j hj') (hc j hj') hj).1 fun hh => hnn ⟨(live_ren (hget i hi') (hc i hi') hi).2 hh.1, (live_ren (hget j hj') (hc j hj') hj).2 hh.2⟩
  · have hi' := hlt i hi
    rw [hρ i hi']
    obtain ⟨h1, h2⟩ := live_ren (hget i hi') (hc i hi') hi
    exact H.mine _ h1 fun hf => hnf (h2 hf)

theorem findAt_ok {base : Nat} : ∀ {l : List Nat} {n i j : Nat}, findAt base l n i = some j → ∃ k, l[k]? = some i ∧ j = base + n + k
  | [], n, i, j, h => by cases h
  | x :: r, n, i, j, h => by
    unfold findAt at h
    split at h
    · rename_i hx
      obtain rfl := Nat.eq_of_beq_eq_true hx
      cases h
      exact ⟨0, rfl, rfl⟩
    · obtain ⟨k, h1, h2⟩ := findAt_ok h
      exact ⟨k + 1, h1, by omega⟩

theorem okKept_ok {base : Nat} : ∀ {l : List Nat}, okKept base l = true → (∀ (k i : Nat), l[k]? = some i → base ≤ i) ∧ ∀ (k k' i : Nat), l[k]? = some i → l[k']? = some i → k = k'
  | [], _ => ⟨fun k i h => by simp at h, fun k k' i h => by simp at h⟩
  | x :: r, h => by
    simp only [okKept, Bool.and_eq_true, Bool.not_eq_true', Nat.ble_eq] at h
    obtain ⟨⟨h1, h2⟩, h3⟩ := h
    obtain ⟨g1, g2⟩ := okKept_ok h3
    have hn : ∀ k : Nat, r[k]? ≠ some x := fun k hk => by
      have := List.mem_of_getElem? hk
      simp at h2
      exact h2 this
    refine ⟨fun k i hk => ?_, fun k k' i hk hk' => ?_⟩
    · cases k with
      | zero => cases hk; exact h1
      | succ k => exact g1 k i hk
    · cases k with
      | zero => cases k' with
        | zero => rfl
        | succ k' => cases hk; exact absurd hk' (hn k')
      | succ k => cases k' with
        | zero => cases hk'; exact absurd hk (hn k)
        | succ k' => rw [g2 k k' i hk hk']

theorem pickB_get (h : List (Blk C.E)) : ∀ (l : List Nat) (k : Nat) (b : Blk C.E), (pickB h l)[k]? = some b → ∃ i, l[k]? = some i ∧ (h[i]? = some b ∨ b = .dead)
  | [], k, b, hb => by simp [pickB] at hb
  | i :: r, k, b, hb => by
    cases k with
    | zero =>
      simp only [pickB, List.getElem?_cons_zero, Option.some.injEq] at hb
      refine ⟨i, rfl, ?_⟩
      cases hh : h[i]? with
      | none => rw [hh] at hb; exact .inr hb.symm
      | some x => rw [hh] at hb; simp at hb; subst hb; exact .inl rfl
    | succ k => exact pickB_get h r k b hb

theorem pickB_length (h : List (Blk C.E)) : ∀ (l : List Nat), (pickB h l).length = l.length
  | [] => rfl
  | i :: r => by simp [pickB, pickB_length h r]

/-- what is said of a call, at some point of its body -/
def St (e0 : Env) (F0 X : FH) (w0 : World) (nt : Nat) (sl : Tr C.E) (h : List (Blk C.E)) (a : Act) (w : World) : Prop :=
  ∃ e F, ELe e0 e ∧ FLe F0 F ∧ RS e F sl a ∧ RH e F X h w ∧ Ext w0 w ∧ nt ≤ a.tmps.size

theorem St.weak {e0 : Env} {F0 : FH} {w0 : World} {nt : Nat} {sl' : Tr C.E} (hs : St e0 F0 X w0 nt sl h a w) (hw : ∀ n, sl'.get n = .top ∨ sl'.get n = sl.get n) : St e0 F0 X w0 nt sl' h a w := by
  obtain ⟨e, F, h1, h2, h3, h4, h5, h6⟩ := hs
  refine ⟨e, F, h1, h2, ⟨fun t => ?_, h3.def_⟩, h4, h5, h6⟩
  rcases hw t with hh | hh
  · rw [hh]; exact .top _
  · rw [hh]; exact h3.reg t

theorem tidy_ok (hC : Ok C P) {e0 : Env} {F0 : FH} {w0 : World} {nt : Nat} {K : Tr C.E → List (Blk C.E) → Prop} (hs : St e0 F0 X w0 nt sl h a w) (hk : tidyK C e0.sz sl h K) : ∃ sl' h', St e0 F0 X w0 nt sl' h' a w ∧ K sl' h' := by
  unfold tidyK at hk
  split at hk
  · rename_i hok
    rw [forceT_eq, forceH_eq] at hk
    refine ⟨_, _, ?_, hk⟩
    obtain ⟨g1, g2⟩ := okKept_ok hok
    generalize kept C e0.sz sl h = kp at g1 g2
    obtain ⟨e, F, h1, h2, h3, h4, h5, h6⟩ := hs
    have hbase : e0.sz ≤ h.length := by rw [← h4.sz]; exact h1.sz
    have htake : ((h.take e0.sz).map (renB (place e0.sz kp))).length = e0.sz := by simp; omega
    have hlen : ((h.take e0.sz).map (renB (place e0.sz kp)) ++ (pickB h kp).map (renB (place e0.sz kp))).length = e0.sz + kp.length := by rw [List.length_append, htake, List.length_map, pickB_length]
    let g : Nat → Nat := fun j => if j < e0.sz then j else kp.getD (j - e0.sz) 0
    let e' : Env := ⟨e0.sz + kp.length, fun j => e.ρ (g j), fun j => e.len (g j), fun j => e.cap (g j)⟩
    have hge : ∀ (k i : Nat), kp[k]? = some i → g (e0.sz + k) = i := fun k i hk => by
      show (if e0.sz + k < e0.sz then _ else _) = _
      rw [if_neg (by omega), Nat.add_sub_cancel_left, List.getD_eq_getElem?_getD, hk]; rfl
    have hm : Ren e e' (place e0.sz kp) := by
      intro i j hi hj
      unfold place at hj
      split at hj
      · rename_i hlt
        cases hj
        have hlt' : i < e0.sz := by simpa [Nat.blt_eq] using hlt
        have hgi : g i = i := if_pos hlt'
        exact ⟨by show i < e0.sz + kp.length; omega, by show e.ρ (g i) = _; rw [hgi], by show e.len (g i) = _; rw [hgi], by show e.cap (g i) = _; rw [hgi]⟩
      · obtain ⟨k, hk1, rfl⟩ := findAt_ok hj
        have hgi := hge k i hk1
        have hkl := (List.getElem?_eq_some_iff.mp hk1).1
        rw [Nat.add_zero]
        exact ⟨by show _ < e0.sz + kp.length; omega, by show e.ρ (g _) = _; rw [hgi], by show e.len (g _) = _; rw [hgi], by show e.cap (g _) = _; rw [hgi]⟩
    refine ⟨e', F, ⟨by show e0.sz ≤ e0.sz + kp.length; omega, fun i hi => ?_, fun i hi => ?_, fun i hi => ?_⟩, h2, ⟨fun t => ?_, h3.def_⟩, ?_, h5, h6⟩
    · show e.ρ (g i) = _
      rw [show g i = i from if_pos hi]; exact h1.ρ i hi
    · show e.len (g i) = _
      rw [show g i = i from if_pos hi]; exact h1.len i hi
    · show e.cap (g i) = _
      rw [show g i = i from if_pos hi]; exact h1.cap i hi
    · rw [trMap_get _ (by rfl)]
      exact (h3.reg t).ren hC hm 4
    · refine h4.ren hC hm g (by rw [hlen]) (fun j hj b' hb' => ?_) (fun i j hi hj hij => ?_) (fun j _ => rfl) (fun j _ => rfl) (fun j _ => rfl)
      · by_cases hjb : j < e0.sz
        · rw [List.getElem?_append_left (by omega), List.getElem?_map] at hb'
          obtain ⟨b, hb, rfl⟩ := Option.map_eq_some_iff.mp hb'
          rw [List.getElem?_take_of_lt hjb] at hb
          exact ⟨b, .inl (by rw [show g j = j from if_pos hjb]; exact hb), rfl⟩
        · rw [List.getElem?_append_right (by omega), List.getElem?_map, htake] at hb'
          obtain ⟨b, hb, rfl⟩ := Option.map_eq_some_iff.mp hb'
          obtain ⟨i, hi1, hi2⟩ := pickB_get h kp _ b hb
          have := hge _ i hi1
          rw [show e0.sz + (j - e0.sz) = j by omega] at this
          exact ⟨b, by rw [this]; exact hi2, rfl⟩
      · rw [hlen] at hi hj
        show (if i < e0.sz then i else _) ≠ (if j < e0.sz then j else _)
        have hkp : ∀ n, e0.sz ≤ n → n < e0.sz + kp.length → kp[n - e0.sz]? = some (kp.getD (n - e0.sz) 0) := by
          intro n hn1 hn2
          rw [List.getD_eq_getElem?_getD, List.getElem?_eq_getElem (by omega)]; rfl
        by_cases h1 : i < e0.sz <;> by_cases h2 : j < e0.sz
        · rw [if_pos h1, if_pos h2]; exact hij
        · rw [if_pos h1, if_neg h2]
          have := g1 _ _ (hkp j (by omega) hj)
          omega
        · rw [if_neg h1, if_pos h2]
          have := g1 _ _ (hkp i (by omega) hi)
          omega
        · rw [if_neg h1, if_neg h2]
          intro hh
          have h3 := hkp i (by omega) hi
          rw [hh] at h3
          have := g2 _ _ _ h3 (hkp j (by omega) hj)
          omega
  · exact hk.elim

/-- a nil slice has a row of its own, of no elements -/
theorem push_nil (H : RH e F X h w) (t : Nat) : RH (e.add w.heap.size 0 0) F X (h ++ [.arr t [] false]) w := by
  have hno : w.heap[w.heap.size]? = none := by simp
  refine H.push _ _ _ _ (fun _ _ _ => rfl) (fun i hi hh => ?_) ?_ ?_ ⟨?_, .inl ⟨?_, rfl⟩⟩
  · have := ρ_lt H hi; omega
  · cases hF : F w.heap.size with
    | none => rfl
    | some o => have := H.fro _ _ hF; rw [hno] at this; cases this
  · cases hX : X w.heap.size with
    | none => rfl
    | some o => have := H.out _ _ hX; rw [hno] at this; cases this
  · rw [← H.sz]; simp
  · rw [← H.sz]; simp

theorem nilV_ok (H : RH e F X h w) {v : AV C.E} {rv : Value} (hv : RV C e F v rv) : ∃ e', ELe e e' ∧ RV C e' F (nilV h.length v).1 rv ∧ RH e' F X (h ++ (nilV h.length v).2) w ∧ (AV.one v = true → AV.one (nilV h.length v).1 = true) := by
  unfold nilV
  split
  · rename_i t
    cases hv
    refine ⟨_, Env.le_add e _ _ _, ?_, push_nil H t, fun _ => rfl⟩
    have := RV.own (C := C) (e := e.add w.heap.size 0 0) (F := F) t h.length none 0 (by rw [← H.sz]; simp) (by rw [← H.sz]; simp) (by omega) (by simp)
    rw [← H.sz, Env.add_len, H.sz] at this
    exact this
  · exact ⟨e, ELe.refl e, hv, by simpa using H, id⟩

/-- .. a value with or without anything that it tells of -/
theorem nilV_any (H : RH e F X h w) (v : AV C.E) : ∃ e', ELe e e' ∧ RH e' F X (h ++ (nilV h.length v).2) w ∧ (∀ rv, RV C e F v rv → RV C e' F (nilV h.length v).1 rv) ∧ (AV.one v = true → AV.one (nilV h.length v).1 = true) := by
  unfold nilV
  split
  · rename_i t
    refine ⟨_, Env.le_add e w.heap.size 0 0, push_nil H t, fun rv hv => ?_, fun _ => rfl⟩
    cases hv
    have := RV.own (C := C) (e := e.add w.heap.size 0 0) (F := F) t h.length none 0 (by rw [← H.sz]; simp) (by rw [← H.sz]; simp) (by omega) (by simp)
    rw [← H.sz, Env.add_len, H.sz] at this
    exact this
  · exact ⟨e, ELe.refl e, by simpa using H, fun _ h => h, id⟩

/-- values, told anew where some of them have new rows -/
def Told2 (F : FH) (e e' : Env) (l l' : List (AV C.E)) : Prop := l'.length = l.length ∧ ∀ (i : Nat) (c : AV C.E), l'[i]? = some c → ∃ c0, l[i]? = some c0 ∧ (∀ rv, RV C e F c0 rv → RV C e' F c rv) ∧ (AV.one c0 = true → AV.one c = true)

theorem nilL_ok : ∀ {l : List (AV C.E)} {e : Env} {h : List (Blk C.E)}, RH e F X h w → ∃ e', ELe e e' ∧ RH e' F X (h ++ (nilL h.length l).2) w ∧ Told2 F e e' l (nilL h.length l).1
  | [], e, h, H => ⟨e, ELe.refl e, by simpa [nilL] using H, rfl, fun i c hi => by simp [nilL] at hi⟩
  | v :: r, e, h, H => by
    obtain ⟨e1, g1, g2, g3, g4⟩ := nilV_any H v
    obtain ⟨e2, k1, k2, k3, k4⟩ := nilL_ok (l := r) g2
    simp only [nilL]
    rw [show (h ++ (nilV h.length v).2).length = h.length + (nilV h.length v).2.length by simp] at k2 k3 k4
    refine ⟨e2, g1.trans k1, by simpa using k2, by simp [k3], fun i c hi => ?_⟩
    cases i with
    | zero =>
      simp at hi; subst hi
      exact ⟨v, rfl, fun rv hv => (g3 rv hv).mono k1 (FLe.refl F), g4⟩
    | succ i =>
      obtain ⟨c0, m1, m2, m3⟩ := k4 i c (by simpa using hi)
      exact ⟨c0, by simpa using m1, fun rv' hrv' => m2 rv' (hrv'.mono g1 (FLe.refl F)), m3⟩

theorem nilT_ok : ∀ {sl : Tr C.E} {e : Env} {h : List (Blk C.E)}, RH e F X h w → ∃ e', ELe e e' ∧ RH e' F X (h ++ (nilT h.length sl).2) w ∧ ∀ t rv, RV C e F (sl.get t) rv → RV C e' F ((nilT h.length sl).1.get t) rv
  | .lf, e, h, H => ⟨e, ELe.refl e, by simpa [nilT] using H, fun t rv _ => .top rv⟩
  | .nd v l r, e, h, H => by
    obtain ⟨e1, g1, g2, g3, _⟩ := nilV_any H v
    obtain ⟨e2, k1, k2, k3⟩ := nilT_ok (sl := l) g2
    obtain ⟨e3, m1, m2, m3⟩ := nilT_ok (sl := r) k2
    simp only [nilT]
    have hl1 : (h ++ (nilV h.length v).2).length = h.length + (nilV h.length v).2.length := by simp
    rw [hl1] at k2 k3 m2 m3
    have hl2 : ((h ++ (nilV h.length v).2) ++ (nilT (h.length + (nilV h.length v).2.length) l).2).length = h.length + (nilV h.length v).2.length + (nilT (h.length + (nilV h.length v).2.length) l).2.length := by simp [Nat.add_assoc]
    rw [hl2] at m2 m3
    refine ⟨e3, (g1.trans k1).trans m1, by simpa using m2, fun t rv hv => ?_⟩
    cases t with
    | zero => exact ((g3 rv hv).mono k1 (FLe.refl F)).mono m1 (FLe.refl F)
    | succ t =>
      simp only [Tr.get] at hv ⊢
      split
      · rename_i h0
        rw [h0] at hv
        exact (k3 _ rv (hv.mono g1 (FLe.refl F))).mono m1 (FLe.refl F)
      · rename_i h0
        have hv' : RV C e F (r.get (t / 2)) rv := by
          split at hv
          · rename_i h1; exact absurd h1 h0
          · exact hv
        exact m3 _ rv ((hv'.mono g1 (FLe.refl F)).mono k1 (FLe.refl F))

theorem nilToK_ok {K : List (Blk C.E) → Prop} : ∀ (n k : Nat) {h : List (Blk C.E)} {e : Env}, RH e F X h w → nilToK n k h K → ∃ e' h', ELe e e' ∧ RH e' F X h' w ∧ K h'
  | 0, k, h, e, H, hk => ⟨e, h, ELe.refl e, H, hk⟩
  | n + 1, k, h, e, H, hk => by
    unfold nilToK at hk
    split at hk
    · rename_i l hb
      split at hk
      · change forceH (h.set k (.cells (nilL h.length l).1) ++ (nilL h.length l).2) (fun h => nilToK n (k + 1) h K) at hk
        rw [forceH_eq] at hk
        obtain ⟨e1, g1, g2, g3, g4⟩ := nilL_ok (l := l) H
        have hkl : k < h.length := (List.getElem?_eq_some_iff.mp hb).1
        have hke : k < e.sz := by rw [H.sz]; exact hkl
        have hset : h.set k (.cells (nilL h.length l).1) ++ (nilL h.length l).2 = (h ++ (nilL h.length l).2).set k (.cells (nilL h.length l).1) := by rw [List.set_append_left _ _ hkl]
        have hold : (h ++ (nilL h.length l).2)[k]? = some (.cells l) := by rw [List.getElem?_append_left hkl]; exact hb
        have hlive : Live e1 (h ++ (nilL h.length l).2) k := by unfold Live; rw [hold]; trivial
        have hnf : ¬ Fro (h ++ (nilL h.length l).2) k := fun ⟨t, l', hf⟩ => by rw [hold] at hf; cases hf
        obtain ⟨a, el, m1, m2, m3, m4⟩ := H.blk k _ hb
        have H2 : RH e1 F X (h.set k (.cells (nilL h.length l).1) ++ (nilL h.length l).2) w := by
          rw [hset]
          refine g2.set k _ hlive hnf (by rw [g1.ρ k hke]; exact m2) (fun _ _ => rfl) ⟨a, el, by rw [g1.ρ k hke]; exact m1, by rw [g1.ρ k hke]; exact m2, by rw [g3]; exact m3, fun j c hj => ?_⟩
          obtain ⟨c0, k1, k2, k3⟩ := g4 j c hj
          exact ⟨k3 (m4 j c0 k1).1, k2 _ (m4 j c0 k1).2⟩
        obtain ⟨e2, h2, q1, q2, q3⟩ := nilToK_ok n (k + 1) H2 hk
        exact ⟨e2, h2, g1.trans q1, q2, q3⟩
      · exact nilToK_ok n (k + 1) H hk
    · exact nilToK_ok n (k + 1) H hk

theorem nilK_ok {e0 : Env} {F0 : FH} {w0 : World} {nt : Nat} {K : Tr C.E → List (Blk C.E) → Prop} (hs : St e0 F0 X w0 nt sl h a w) (hk : nilK C sl h K) : ∃ sl' h', St e0 F0 X w0 nt sl' h' a w ∧ K sl' h' := by
  unfold nilK at hk
  obtain ⟨e, F, h1, h2, h3, h4, h5, h6⟩ := hs
  split at hk
  · change forceT (nilT h.length sl).1 (fun sl' => forceH (h ++ (nilT h.length sl).2) fun h => nilToK h.length 0 h fun h => K sl' h) at hk
    rw [forceT_eq, forceH_eq] at hk
    obtain ⟨e1, g1, g2, g3⟩ := nilT_ok (sl := sl) h4
    obtain ⟨e2, h', k1, k2, k3⟩ := nilToK_ok _ _ g2 hk
    exact ⟨_, _, ⟨e2, F, (h1.trans g1).trans k1, h2, ⟨fun t => (g3 t _ (h3.reg t)).mono k1 (FLe.refl F), h3.def_⟩, k2, h5, h6⟩, k3⟩
  · obtain ⟨e2, h', k1, k2, k3⟩ := nilToK_ok _ _ h4 hk
    exact ⟨_, _, ⟨e2, F, h1.trans k1, h2, ⟨fun t => (h3.reg t).mono k1 (FLe.refl F), h3.def_⟩, k2, h5, h6⟩, k3⟩

theorem canon_ok (hC : Ok C P) {e0 : Env} {F0 : FH} {w0 : World} {nt : Nat} {kill : List Nat} {K : Tr C.E → List (Blk C.E) → Prop} (hs : St e0 F0 X w0 nt sl h a w) (hk : canonK C e0.sz kill sl h K) : ∃ sl' h', St e0 F0 X w0 nt sl' h' a w ∧ K sl' h' := by
  unfold canonK at hk
  obtain ⟨s1, h1, h2⟩ := killK_ok kill hk
  obtain ⟨s2, h3, h4⟩ := prune_ok s1 h1
  have hs2 : St e0 F0 X w0 nt s2 h a w := hs.weak fun n => by rw [h4]; exact h2 n
  obtain ⟨s3, h', hs3, h5⟩ := nilK_ok hs2 h3
  split at h5
  · exact ⟨_, _, hs3, h5⟩
  · exact tidy_ok hC hs3 h5

/-- numbers that are in both, and mean the same -/
def Agree (e e' : Env) (p : Nat → Bool) : Prop := ∀ i, p i = true → i < e.sz → i < e'.sz ∧ e'.ρ i = e.ρ i ∧ e'.len i = e.len i ∧ e'.cap i = e.cap i

theorem RV.same (hC : Ok C P) {p : Nat → Bool} (hm : Agree e e' p) {v : AV C.E} {rv : Value} (hv : RV C e F v rv) : ∀ d, allIds p d v = true → RV C e' F v rv := by
  induction hv with
  | top v => exact fun _ _ => .top v
  | bool b => exact fun _ _ => .bool b
  | int k n => exact fun _ _ => .int k n
  | str s => exact fun _ _ => .str s
  | nilp => exact fun _ _ => .nilp
  | ptr id off h =>
    intro d hd
    obtain ⟨h1, h2, _⟩ := hm id (by cases d <;> exact hd) h
    rw [← h2]; exact .ptr _ _ h1
  | eptr t id i off h h1 =>
    intro d hd
    obtain ⟨g1, g2, g3, _⟩ := hm id (by cases d <;> exact hd) h
    rw [← g2]; exact .eptr _ _ _ _ g1 (by rw [g3]; exact h1)
  | rptr t x off b o vs h h2 ih => exact fun _ _ => .rptr t x off b o vs h (fun j c hj => (h2 j c hj).plain_any hC (hC.enc t x c (List.mem_of_getElem? hj)))
  | nils t => exact fun _ _ => .nils t
  | sl t l a c b o vs hc ha h h2 ih => exact fun _ _ => .sl t l a c b o vs hc ha h (fun i x j cc h3 h4 => (h2 i x j cc h3 h4).plain_any hC (hC.enc t x cc (List.mem_of_getElem? h4)))
  | own t id a c h h1 h2 h3 =>
    intro d hd
    obtain ⟨g1, g2, g3, g4⟩ := hm id (by cases d <;> exact hd) h
    rw [← g3]
    exact .own _ _ _ _ g1 (by rw [g3]; exact h1) (by rw [g4]; exact h2) (fun hc => by rw [g2]; exact h3 hc)
  | view t id lo n a c h h1 h2 h3 h4 =>
    intro d hd
    obtain ⟨g1, g2, g3, g4⟩ := hm id (by cases d <;> exact hd) h
    exact .view _ _ _ _ _ _ g1 h1 (by rw [g4]; exact h2) (fun hc => by rw [g2]; exact h3 hc) (by rw [g3]; exact h4)
  | viewc t id lo n c a h h1 h2 h3 =>
    intro d hd
    obtain ⟨g1, g2, g3, g4⟩ := hm id (by cases d <;> exact hd) h
    exact .viewc _ _ _ _ _ _ g1 h1 (by rw [g3]; exact h2) (fun hc => by rw [g2]; exact h3 hc)
  | tsl t l a b o vs ha h h2 ih => exact fun _ _ => .tsl t l a b o vs ha h (fun i x j cc h3 h4 => (h2 i x j cc h3 h4).plain_any hC (hC.enc t x cc (List.mem_of_getElem? h4)))
  | nilmap => exact fun _ _ => .nilmap
  | map id h =>
    intro d hd
    obtain ⟨h1, h2, _⟩ := hm id (by cases d <;> exact hd) h
    rw [← h2]; exact .map _ h1
  | nilf => exact fun _ _ => .nilf
  | fn f a b va vb ha hb h1 h2 ih1 ih2 =>
    intro d hd
    cases d with
    | zero => cases hd
    | succ d =>
      simp only [allIds, Bool.and_eq_true, List.all_eq_true] at hd
      exact .fn f a b va vb ha hb (fun i c hi => ih1 i c hi d (hd.1 c (List.mem_of_getElem? hi))) (fun i c hi => ih2 i c hi d (hd.2 c (List.mem_of_getElem? hi)))
  | agg cs vs hs h1 h ih =>
    intro d hd
    cases d with
    | zero => cases hd
    | succ d =>
      simp only [allIds, List.all_eq_true] at hd
      exact .agg cs vs hs h1 (fun i c hi => ih i c hi d (hd c (List.mem_of_getElem? hi)))
  | aarr t l vs hs h1 h ih => exact fun _ _ => .aarr t l vs hs h1 (fun i x j cc h3 h4 => (h i x j cc h3 h4).plain_any hC (hC.enc t x cc (List.mem_of_getElem? h4)))
  | tuple cs vs hs h ih =>
    intro d hd
    cases d with
    | zero => cases hd
    | succ d =>
      simp only [allIds, List.all_eq_true] at hd
      exact .tuple cs vs hs (fun i c hi => ih i c hi d (hd c (List.mem_of_getElem? hi)))

theorem RB.same (hC : Ok C P) {p : Nat → Bool} (hm : Agree e e' p) {i : Nat} (hρ : e'.ρ i = e.ρ i) (hl : e'.len i = e.len i) (hc : e'.cap i = e.cap i) {ob : Option Obj} {b : Blk C.E} (hp : blkAll p b = true) (hb : RB e F i ob b) : RB e' F i ob b := by
  cases b with
  | dead => trivial
  | cells l =>
    simp only [blkAll, List.all_eq_true] at hp
    obtain ⟨a, el, h1, h2, h3, h4⟩ := hb
    exact ⟨a, el, h1, by rw [hρ]; exact h2, h3, fun k c hk => ⟨(h4 k c hk).1, (h4 k c hk).2.same hC hm 4 (hp c (List.mem_of_getElem? hk))⟩⟩
  | arr t l fro =>
    obtain ⟨h0, h⟩ := hb
    refine ⟨by rw [hl]; exact h0, ?_⟩
    rcases h with h | ⟨a, el, h1, h2, h3, h4, h5, h6, h7⟩
    · exact .inl ⟨by rw [hc]; exact h.1, h.2⟩
    · exact .inr ⟨a, el, h1, fun hf => by rw [hρ]; exact h2 hf, fun hf => by rw [hρ]; exact h3 hf, by rw [hc]; exact h4, by rw [hc]; exact h5, h6, fun i x j c hi hj => (h7 i x j c hi hj).plain_any hC (hC.enc t x c (List.mem_of_getElem? hj))⟩
  | map a b m => exact hb.elim

theorem gc_ok (hC : Ok C P) {e0 : Env} {v : AV C.E} {rv : Value} (he : ELe e0 e) (hv : RV C e F v rv) (H : RH e F X h w) : ∃ e', ELe e0 e' ∧ RV C e' F v rv ∧ RH e' F X (gc C e0.sz v h) w := by
  unfold gc
  split
  · rename_i hall
    simp only [Bool.and_eq_true, List.all_eq_true] at hall
    have hbase : e0.sz ≤ h.length := by rw [← H.sz]; exact he.sz
    have hlen : (h.take e0.sz).length = e0.sz := by simp; omega
    have hag : Agree e { e with sz := e0.sz } (fun i => Nat.blt i e0.sz) := fun i hi _ => ⟨by simpa [Nat.blt_eq] using hi, rfl, rfl, rfl⟩
    have hget : ∀ (j : Nat) (b : Blk C.E), (h.take e0.sz)[j]? = some b → h[j]? = some b := by
      intro j b hj
      have := (List.getElem?_eq_some_iff.mp hj).1
      rwa [List.getElem?_take_of_lt (by omega)] at hj
    have hlive : ∀ j, Live { e with sz := e0.sz } (h.take e0.sz) j → Live e h j ∧ (Fro h j → Fro (h.take e0.sz) j) := by
      intro j hj
      have hjl := lt_of_live hj
      rw [hlen] at hjl
      refine ⟨?_, fun ⟨t, l, hf⟩ => ⟨t, l, by rw [List.getElem?_take_of_lt hjl]; exact hf⟩⟩
      unfold Live at *
      rwa [List.getElem?_take_of_lt hjl] at hj
    refine ⟨{ e with sz := e0.sz }, ⟨Nat.le_refl _, he.ρ, he.len, he.cap⟩, hv.same hC hag 4 hall.1, ⟨hlen.symm, H.fro, H.out, H.apart, fun j b hb => ?_, fun i j hij hi hj hnn => H.inj i j hij (hlive i hi).1 (hlive j hj).1 fun hh => hnn ⟨(hlive i hi).2 hh.1, (hlive j hj).2 hh.2⟩, fun i hi hnf => H.mine i (hlive i hi).1 fun hf => hnf ((hlive i hi).2 hf)⟩⟩
    exact RB.same hC hag rfl rfl rfl (hall.2 b (List.mem_of_getElem? hb)) (H.blk j b (hget j b hb))
  · exact ⟨e, he, hv, H⟩

end
end Go.Proofs.Ytgplkdcibahofaa.Ev
