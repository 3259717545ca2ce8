/-
  Each operation of the evaluator does what the machine's does: stores, literals, rows. No program is named here.
-/
import Derived.Test.YtgplkdcibahofaaEvOps5
namespace Go.Proofs.Ytgplkdcibahofaa.Ev
open Go

section
variable {C : Ctx} {P : Program} {e : Env} {F X : FH} {h : List (Blk C.E)} {w : World} {sl : Tr C.E} {a : Act} {o : Oper}

theorem splice_ok {α : Type} : ∀ {cs : List α} {n : Nat} {vs cs' : List α}, splice cs n vs = some cs' →
    cs'.length = cs.length ∧ n + vs.length ≤ cs.length ∧ ∀ j, cs'[j]? = if n ≤ j ∧ j < n + vs.length then vs[j - n]? else cs[j]?
  | cs, 0, [], cs', hs => by
    simp [splice] at hs; subst hs
    refine ⟨rfl, by simp, fun j => by rw [if_neg (by simp)]⟩
  | c :: cs, 0, v :: vs, cs', hs => by
    simp only [splice, Option.map_eq_some_iff] at hs
    obtain ⟨r, hr, rfl⟩ := hs
    obtain ⟨h1, h2, h3⟩ := splice_ok hr
    refine ⟨by simp [h1], by simp; omega, fun j => ?_⟩
    cases j with
    | zero => simp
    | succ j =>
      simp only [List.getElem?_cons_succ, h3 j, List.length_cons]
      by_cases hj : j < vs.length
      · rw [if_pos ⟨by omega, by omega⟩, if_pos ⟨by omega, by omega⟩]; simp
      · rw [if_neg (by omega), if_neg (by omega)]
  | c :: cs, n + 1, vs, cs', hs => by
    have hs' : (splice cs n vs).map (c :: ·) = some cs' := by
      cases vs <;> simpa [splice] using hs
    simp only [Option.map_eq_some_iff] at hs'
    obtain ⟨r, hr, rfl⟩ := hs'
    obtain ⟨h1, h2, h3⟩ := splice_ok hr
    refine ⟨by simp [h1], by simp; omega, fun j => ?_⟩
    cases j with
    | zero => rw [if_neg (by omega)]; simp
    | succ j =>
      simp only [List.getElem?_cons_succ, h3 j]
      by_cases hj : n ≤ j ∧ j < n + vs.length
      · rw [if_pos hj, if_pos ⟨by omega, by omega⟩, show j + 1 - (n + 1) = j - n by omega]
      · rw [if_neg hj, if_neg (by omega)]
  | [], 0, v :: vs, cs', hs => by simp [splice] at hs
  | [], n + 1, [], cs', hs => by simp [splice] at hs
  | [], n + 1, v :: vs, cs', hs => by simp [splice] at hs

/-- an array in which some cells have been written -/
def wrote (cur : Array Value) (o : Nat) (vs : List Value) : Array Value := (cur.toList.take o ++ vs ++ cur.toList.drop (o + vs.length)).toArray
theorem wrote_size {cur : Array Value} {o : Nat} {vs : List Value} (h : o + vs.length ≤ cur.size) : (wrote cur o vs).size = cur.size := by
  simp [wrote]; omega
theorem wrote_getD {cur : Array Value} {o : Nat} {vs : List Value} (h : o + vs.length ≤ cur.size) (j : Nat) :
    (wrote cur o vs).getD j undef = if o ≤ j ∧ j < o + vs.length then vs.getD (j - o) undef else cur.getD j undef := by
  unfold wrote
  simp only [Array.getD_eq_getD_getElem?, List.getElem?_toArray, List.append_assoc]
  by_cases h1 : j < o
  · rw [if_neg (by omega), List.getElem?_append_left (by simp; omega), List.getElem?_take_of_lt h1]; simp
  · rw [List.getElem?_append_right (by simp; omega)]
    have hmin : min o cur.size = o := by omega
    by_cases h2 : j < o + vs.length
    · rw [if_pos ⟨by omega, h2⟩, List.getElem?_append_left (by simp; omega)]
      simp [List.getD, hmin]
    · rw [if_neg (by omega), List.getElem?_append_right (by simp; omega)]
      simp only [List.length_take, Array.length_toList, hmin, List.getElem?_drop]
      rw [show o + vs.length + (j - o - vs.length) = j by omega]; simp

theorem frzL_ok (hC : Ok C P) : ∀ {vs vs' : List (AV C.E)} {F : FH} {h h' : List (Blk C.E)}, RH e F X h w → frzL C h vs = some (vs', h') →
    ∃ F', FLe F F' ∧ RH e F' X h' w ∧ vs'.length = vs.length ∧ ∀ (j : Nat) (c : AV C.E), vs[j]? = some c → ∃ c', vs'[j]? = some c' ∧ (∀ rv, RV C e F c rv → RV C e F' c' rv) ∧ (AV.one c = true → AV.one c' = true)
  | [], vs', F, h, h', H, hf => by
    simp [frzL] at hf; obtain ⟨rfl, rfl⟩ := hf
    exact ⟨F, FLe.refl F, H, rfl, fun j c hj => by simp at hj⟩
  | v :: r, vs', F, h, h', H, hf => by
    simp only [frzL] at hf
    split at hf
    · rename_i v1 h1 hf1
      split at hf
      · rename_i r1 h2 hf2
        simp at hf; obtain ⟨rfl, rfl⟩ := hf
        obtain ⟨F1, hF1, H1, hv1, ho1⟩ := frz1_ok hC H hf1
        obtain ⟨F2, hF2, H2, hl2, hr2⟩ := frzL_ok hC H1 hf2
        refine ⟨F2, hF1.trans hF2, H2, by simp [hl2], fun j c hj => ?_⟩
        cases j with
        | zero => simp at hj; subst hj; exact ⟨v1, rfl, fun rv hrv => (hv1 rv hrv).mono (ELe.refl e) hF2, ho1⟩
        | succ j =>
          obtain ⟨c', h3, h4, h5⟩ := hr2 j c (by simpa using hj)
          exact ⟨c', by simpa using h3, fun rv hrv => h4 rv (hrv.mono (ELe.refl e) hF1), h5⟩
      · cases hf
    · cases hf

theorem frz_ok (hC : Ok C P) {F : FH} {h : List (Blk C.E)} (H : RH e F X h w) {v v' : AV C.E} {h' : List (Blk C.E)} (hf : frz C h v = some (v', h')) :
    ∃ F', FLe F F' ∧ RH e F' X h' w ∧ ∀ rv, RV C e F v rv → RV C e F' v' rv := by
  unfold frz at hf
  split at hf
  · rename_i cs
    split at hf
    · rename_i cs' h1 hf1
      simp at hf; obtain ⟨rfl, rfl⟩ := hf
      obtain ⟨F', hF, H', hl, hr⟩ := frzL_ok hC H hf1
      refine ⟨F', hF, H', fun rv hv => ?_⟩
      cases hv with
      | agg _ vs hs h2 h3 =>
        have inv : ∀ (i : Nat) (c' : AV C.E), cs'[i]? = some c' → ∃ c, cs[i]? = some c ∧ (∀ rv, RV C e F c rv → RV C e F' c' rv) ∧ (AV.one c = true → AV.one c' = true) := by
          intro i c' hi
          have hlt : i < cs.length := by rw [← hl]; exact (List.getElem?_eq_some_iff.mp hi).1
          obtain ⟨c2, h4, h5, h6⟩ := hr i cs[i] (List.getElem?_eq_getElem hlt)
          rw [hi] at h4; cases h4
          exact ⟨cs[i], List.getElem?_eq_getElem hlt, h5, h6⟩
        refine .agg _ vs (by rw [hs, hl]) (fun i c' hi => ?_) (fun i c' hi => ?_)
        · obtain ⟨c, h4, _, h6⟩ := inv i c' hi; exact h6 (h2 i c h4)
        · obtain ⟨c, h4, h5, _⟩ := inv i c' hi; exact h5 _ (h3 i c h4)
    · cases hf
  · obtain ⟨F', h1, h2, h3, _⟩ := frz1_ok hC H hf
    exact ⟨F', h1, h2, h3⟩

/-- what values of a list say, one by one -/
def RVs (e : Env) (F : FH) (l : List (AV C.E)) (vs : List Value) : Prop := vs.length = l.length ∧ ∀ (i : Nat) (c : AV C.E), l[i]? = some c → RV C e F c (vs.getD i undef)

theorem RVs.mono {e' : Env} {F F' : FH} (he : ELe e e') (hF : FLe F F') {l : List (AV C.E)} {vs : List Value} (h : RVs e F l vs) : RVs e' F' l vs := ⟨h.1, fun i c hi => (h.2 i c hi).mono he hF⟩
theorem RVs.cons {F : FH} {v : AV C.E} {l : List (AV C.E)} {u : Value} {vs : List Value} : RVs e F (v :: l) (u :: vs) ↔ RV C e F v u ∧ RVs e F l vs := by
  constructor
  · intro ⟨h1, h2⟩
    exact ⟨by simpa using h2 0 v rfl, by simpa using h1, fun i c hi => by simpa using h2 (i + 1) c (by simpa using hi)⟩
  · intro ⟨h1, h2, h3⟩
    refine ⟨by simp [h2], fun i c hi => ?_⟩
    cases i with
    | zero => simp at hi; subst hi; simpa using h1
    | succ i => simpa using h3 i c (by simpa using hi)

theorem frzArgs_ok (hC : Ok C P) : ∀ {vs vs' : List (AV C.E)} {F : FH} {h h' : List (Blk C.E)}, RH e F X h w → frzArgs C h vs = some (vs', h') →
    ∃ F', FLe F F' ∧ RH e F' X h' w ∧ ∀ us, RVs e F vs us → RVs e F' vs' us
  | [], vs', F, h, h', H, hf => by
    simp [frzArgs] at hf; obtain ⟨rfl, rfl⟩ := hf
    exact ⟨F, FLe.refl F, H, fun us hu => hu⟩
  | v :: r, vs', F, h, h', H, hf => by
    simp only [frzArgs] at hf
    split at hf
    · rename_i v1 h1 hf1
      split at hf
      · rename_i r1 h2 hf2
        simp at hf; obtain ⟨rfl, rfl⟩ := hf
        obtain ⟨F1, hF1, H1, hv1⟩ := frz_ok hC H hf1
        obtain ⟨F2, hF2, H2, hr2⟩ := frzArgs_ok hC H1 hf2
        refine ⟨F2, hF1.trans hF2, H2, fun us hu => ?_⟩
        cases us with
        | nil => simp [RVs] at hu
        | cons u us =>
          rw [RVs.cons] at hu ⊢
          exact ⟨(hv1 u hu.1).mono (ELe.refl e) hF2, hr2 us (hu.2.mono (ELe.refl e) hF1)⟩
      · cases hf
    · cases hf

theorem Ext.setRow {w : World} (g : Nat) (cs : Array Value) : Ext w (w.setRow g cs) := ⟨rfl, rfl, rfl, by simp⟩

theorem getD_mem {vs : List Value} {j : Nat} (hj : j < vs.length) : vs.getD j undef ∈ vs := by
  simp [List.getD, hj]

/-- cells of a variable of the call's own are written -/
theorem store_var (H : RH e F X h w) {id off : Nat} {l l' : List (AV C.E)} (hb : h[id]? = some (.cells l)) {vs : List (AV C.E)} (hs : splice l off vs = some l') {us : List Value} (hu : RVs e F vs us)
    (hone : ∀ (j : Nat) (c : AV C.E), vs[j]? = some c → AV.one c = true) :
    ∃ w', (storeCells ⟨e.ρ id, off, none⟩ us).run P w = .ok () w' ∧ RH e F X (h.set id (.cells l')) w' ∧ Ext w w' := by
  obtain ⟨arr, el, h1, h2, h3, h4⟩ := H.blk id _ hb
  obtain ⟨s1, s2, s3⟩ := splice_ok hs
  have hfit : off + us.length ≤ arr.size := by rw [hu.1, h3]; exact s2
  have h1' : ∀ v ∈ us, v.oneCell' = true := by
    intro v hv
    obtain ⟨j, hj, rfl⟩ := List.mem_iff_getElem.mp hv
    have hjl : j < vs.length := by rw [← hu.1]; exact hj
    have := (hu.2 j vs[j] (List.getElem?_eq_getElem hjl)).one_val (hone j _ (List.getElem?_eq_getElem hjl))
    simpa [List.getD, hj] using this
  have hrun := run_storeCells_at P (e.ρ id) off el us 0 arr w h1 (by simpa using hfit) h1'
  simp only [Nat.add_zero] at hrun
  refine ⟨_, hrun, H.set id _ (by unfold Live; rw [hb]; trivial) (fun ⟨t, l, hf⟩ => by rw [hb] at hf; cases hf) h2 (fun k hk => setRow_other w _ k _ hk) ?_, Ext.setRow _ _⟩
  rw [setRow_heap w _ arr _ el _ h1]
  refine ⟨wrote arr off us, el, rfl, h2, by rw [wrote_size hfit, h3, s1], fun j c hj => ?_⟩
  rw [wrote_getD hfit, hu.1]
  rw [s3 j] at hj
  by_cases hjj : off ≤ j ∧ j < off + vs.length
  · rw [if_pos hjj] at hj ⊢
    exact ⟨hone _ c hj, hu.2 _ c hj⟩
  · rw [if_neg hjj] at hj ⊢
    exact h4 j c hj


theorem fin_arr (H : RH e F X h w) {t id : Nat} {l : List (C.E t)} {fro : Bool} (hb : h[id]? = some (.arr t l fro)) (hne : l ≠ []) :
    e.len id = l.length ∧ ∃ arr el, w.heap[e.ρ id]? = some (.cells arr el (0, 0)) ∧ (fro = false → F (e.ρ id) = none) ∧ arr.size = e.cap id * C.size t ∧ l.length ≤ e.cap id ∧
      (∀ j, j < arr.size → (arr.getD j undef).oneCell' = true) ∧ Rows e F t l arr ∧ Live e h id := by
  obtain ⟨h0, ⟨_, h1⟩ | ⟨arr, el, h1, h2, h3, h4, h5, h6, h7⟩⟩ := H.blk id _ hb
  · exact absurd h1 hne
  · have hpos : 0 < l.length := List.length_pos_iff.mpr hne
    exact ⟨h0, arr, el, h1, h2, h4, h5, h6, h7, by unfold Live; rw [hb]; show e.cap id ≠ 0; omega⟩

/-- cells of an element of a row of the call's own are written -/
theorem store_elem (hC : Ok C P) (H : RH e F X h w) {t id i off : Nat} {l : List (C.E t)} (hb : h[id]? = some (.arr t l false)) (hi : i < l.length) {vs cs' : List (AV C.E)}
    (hs : splice (C.enc t (l.getD i (C.z t))) off vs = some cs') {x : C.E t} (hd : C.dec t cs' = some x) {us : List Value} (hu : RVs e F vs us) (hone : ∀ (j : Nat) (c : AV C.E), vs[j]? = some c → AV.one c = true) :
    ∃ w', (storeCells ⟨e.ρ id, i * C.size t + off, none⟩ us).run P w = .ok () w' ∧ RH e F X (h.set id (.arr t (l.set i x) false)) w' ∧ Ext w w' := by
  have hne : l ≠ [] := by intro h0; subst h0; simp at hi
  obtain ⟨h0, arr, el, h1, h2, h3, h4, h5, h6, hlive⟩ := fin_arr H hb hne
  obtain ⟨s1, s2, s3⟩ := splice_ok hs
  have hx := hC.dec t cs' x hd
  have hxi : l[i]? = some (l.getD i (C.z t)) := by simp [hi]
  have hlen := hC.len t (l.getD i (C.z t))
  have hmul : (i + 1) * C.size t ≤ e.cap id * C.size t := Nat.mul_le_mul_right _ (by omega)
  rw [Nat.add_mul] at hmul
  have hfit : i * C.size t + off + us.length ≤ arr.size := by rw [hu.1, h3]; omega
  have h1' : ∀ v ∈ us, v.oneCell' = true := by
    intro v hv
    obtain ⟨j, hj, rfl⟩ := List.mem_iff_getElem.mp hv
    have hjl : j < vs.length := by rw [← hu.1]; exact hj
    have := (hu.2 j vs[j] (List.getElem?_eq_getElem hjl)).one_val (hone j _ (List.getElem?_eq_getElem hjl))
    simpa [List.getD, hj] using this
  have hrun := run_storeCells_at P (e.ρ id) (i * C.size t + off) el us 0 arr w h1 (by simpa using hfit) h1'
  simp only [Nat.add_zero] at hrun
  refine ⟨_, hrun, H.set id _ hlive (fun ⟨t, l, hf⟩ => by rw [hb] at hf; cases hf) (h2 rfl) (fun k hk => setRow_other w _ k _ hk) ?_, Ext.setRow _ _⟩
  rw [setRow_heap w _ arr _ el _ h1]
  refine ⟨by rw [h0, List.length_set], .inr ⟨wrote arr (i * C.size t + off) us, el, rfl, fun _ => h2 rfl, by simp, by rw [wrote_size hfit, h3], by rw [List.length_set]; exact h4, fun j hj => ?_, fun k y j c hk hj => ?_⟩⟩
  · rw [wrote_size hfit] at hj
    rw [wrote_getD hfit]
    by_cases hjj : i * C.size t + off ≤ j ∧ j < i * C.size t + off + us.length
    · rw [if_pos hjj]; exact h1' _ (getD_mem (by omega))
    · rw [if_neg hjj]; exact h5 j hj
  · rw [wrote_getD hfit, hu.1]
    have hjlen : j < C.size t := by
      have := (List.getElem?_eq_some_iff.mp hj).1
      have := hC.len t y
      omega
    by_cases hki : k = i
    · subst hki
      rw [List.getElem?_set_self hi] at hk
      cases hk
      rw [hx, s3 j] at hj
      by_cases hjj : off ≤ j ∧ j < off + vs.length
      · rw [if_pos hjj] at hj
        rw [if_pos (by omega), show k * C.size t + j - (k * C.size t + off) = j - off by omega]
        exact hu.2 _ c hj
      · rw [if_neg hjj] at hj
        rw [if_neg (by omega)]
        exact h6 k _ j c hxi hj
    · rw [List.getElem?_set_ne (Ne.symm hki)] at hk
      rw [if_neg ?_]
      · exact h6 k y j c hk hj
      · intro ⟨ha, hb⟩
        have hvs : off + vs.length ≤ C.size t := by omega
        rcases Nat.lt_or_gt_of_ne hki with hlt | hlt
        · have : (k + 1) * C.size t ≤ i * C.size t := Nat.mul_le_mul_right _ hlt
          rw [Nat.add_mul] at this; omega
        · have : (i + 1) * C.size t ≤ k * C.size t := Nat.mul_le_mul_right _ hlt
          rw [Nat.add_mul] at this; omega

end
end Go.Proofs.Ytgplkdcibahofaa.Ev
