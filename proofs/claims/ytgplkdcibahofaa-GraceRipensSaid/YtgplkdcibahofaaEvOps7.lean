/-
  Each operation of the evaluator does what the machine's does: literals, rows made, appended to, copied. No program is named here.
-/
import Derived.Test.YtgplkdcibahofaaEvOps6
import Derived.Great.BuildSlice
import Derived.Laws.MakeOwn
namespace Go.Proofs.Ytgplkdcibahofaa.Ev
open Go

section
variable {C : Ctx} {P : Program} {e : Env} {F X : FH} {h : List (Blk C.E)} {w : World} {sl : Tr C.E} {a : Act} {o : Oper}

theorem storeAt_ok (hC : Ok C P) (H : RH e F X h w) {p : AV C.E} {rp : Value} (hp : RV C e F p rp) {vs : List (AV C.E)} {us : List Value} (hu : RVs e F vs us)
    (hone : ∀ (j : Nat) (c : AV C.E), vs[j]? = some c → AV.one c = true) {h' : List (Blk C.E)} (hs : storeAt C h p vs = some h') :
    ∃ ad w' F', rp = .pointer (some ad) ∧ (storeCells ad us).run P w = .ok () w' ∧ FLe F F' ∧ RH e F' X h' w' ∧ Ext w w' := by
  unfold storeAt at hs
  split at hs
  · rename_i id off
    split at hs
    · rename_i l hb
      split at hs
      · rename_i l' hsp
        simp at hs; subst hs
        obtain ⟨w', h1, h2, h3⟩ := store_var (P := P) H hb hsp hu hone
        cases hp with
        | ptr _ _ hid => exact ⟨_, w', F, rfl, h1, FLe.refl F, h2, h3⟩
      · cases hs
    · cases hs
  · rename_i t id i off
    split at hs
    · rename_i vs' h1 hf
      obtain ⟨F1, hF1, H1, hl1, hr1⟩ := frzL_ok hC H hf
      split at hs
      · rename_i t' l hb
        split at hs
        · rename_i ht
          subst ht
          split at hs
          · rename_i cs hsp
            split at hs
            · rename_i x hd
              simp at hs; subst hs
              cases hp with
              | eptr _ _ _ _ hid hlen =>
                obtain ⟨h0, _⟩ := H1.blk id _ hb
                have hu' : RVs e F1 vs' us := by
                  refine ⟨by rw [hu.1, hl1], fun k c hk => ?_⟩
                  have hlt : k < vs.length := by rw [← hl1]; exact (List.getElem?_eq_some_iff.mp hk).1
                  obtain ⟨c', h2, h3, _⟩ := hr1 k vs[k] (List.getElem?_eq_getElem hlt)
                  rw [hk] at h2; cases h2
                  exact h3 _ (hu.2 k _ (List.getElem?_eq_getElem hlt))
                have hone' : ∀ (k : Nat) (c : AV C.E), vs'[k]? = some c → AV.one c = true := by
                  intro k c hk
                  have hlt : k < vs.length := by rw [← hl1]; exact (List.getElem?_eq_some_iff.mp hk).1
                  obtain ⟨c', h2, _, h4⟩ := hr1 k vs[k] (List.getElem?_eq_getElem hlt)
                  rw [hk] at h2; cases h2
                  exact h4 (hone k _ (List.getElem?_eq_getElem hlt))
                obtain ⟨w', h2, h3, h4⟩ := store_elem hC H1 hb (by rw [← h0]; exact hlen) hsp hd hu' hone'
                exact ⟨_, w', F1, rfl, h2, hF1, h3, h4⟩
            · cases hs
          · cases hs
        · cases hs
      · cases hs
    · cases hs
  · cases hs

theorem zSame_ok {x y : AV C.E} {v : Value} (h1 : zSame x y = true) (h2 : zeroIs y v = true) : RV C e F x v := by
  unfold zSame at h1
  split at h1
  · rename_i t l t'
    have : l = [] := by simpa using h1
    subst this
    have hv : v = .slice none 0 0 := by
      unfold zeroIs at h2
      split at h2 <;> simp_all
    subst hv
    exact .sl t [] none 0 0 0 (fun _ _ => undef) (by simp) (fun h => absurd rfl h) (fun i x j cc hi => by simp at hi) (fun i x j cc hi => by simp at hi)
  · simp at h1; subst h1; exact (zeroIs_ok h2).2.2
  · simp at h1; obtain ⟨rfl, rfl⟩ := h1; exact (zeroIs_ok h2).2.2
  · rename_i s s'
    simp at h1
    have : s = s' := by cases s; cases s'; simp at h1; simp [h1.1, h1.2]
    subst this; exact (zeroIs_ok h2).2.2
  · cases h1

theorem zsSame_ok : ∀ {l l2 : List (AV C.E)} {vs : List Value}, zsSame l l2 = true → zerosAre l2 vs = true → ∀ (j : Nat) (c : AV C.E), l[j]? = some c → RV C e F c (vs.getD j undef)
  | [], _, _, _, _, j, c, hj => by simp at hj
  | x :: l, [], vs, h1, _, _, _, _ => by simp [zsSame] at h1
  | x :: l, y :: l2, [], _, h2, _, _, _ => by simp [zerosAre] at h2
  | x :: l, y :: l2, v :: vs, h1, h2, j, c, hj => by
    simp only [zsSame, Bool.and_eq_true] at h1
    simp only [zerosAre, Bool.and_eq_true] at h2
    cases j with
    | zero => simp at hj; subst hj; simpa using zSame_ok h1.1 h2.1
    | succ j => simpa using zsSame_ok h1.2 h2.2 j c (by simpa using hj)

theorem zeroIs_one {y : AV C.E} {v : Value} (h2 : zeroIs y v = true) : v.oneCell' = true := (zeroIs_ok (e := ⟨0, fun _ => 0, fun _ => 0, fun _ => 0⟩) (F := fun _ => none) h2).2.1

/-- the cells of a row of zeros -/
theorem made_ok (hC : Ok C P) {el : Nat} {ty : Ty C.E} (hty : C.ty el = some ty) {i : TypeInfo} {z : Value} (hi : P.info? el = some i) (hz : i.zero = some z) (n : Nat) (ha : isArr ty.k = false) :
    (madeCells z.cells (n * C.size el)).size = n * C.size el ∧ (∀ j, j < (madeCells z.cells (n * C.size el)).size → ((madeCells z.cells (n * C.size el)).getD j undef).oneCell' = true) ∧
      Rows e F el (List.replicate n (C.z el)) (madeCells z.cells (n * C.size el)) := by
  obtain ⟨i', z', hi', h1, _, hz', hzz, _⟩ := ty_info hC hty
  rw [hi] at hi'; cases hi'
  rw [hz] at hz'; cases hz'
  obtain ⟨hz1, hz2⟩ := hzz ha
  have hs : C.size el = ty.size := by simp [Ctx.size, hty]
  obtain ⟨hl, hc⟩ := zerosAre_ok (e := e) (F := F) hz1
  have hzs : z.cells.size = C.size el := by simp at hl; omega
  have hget : ∀ k, k < n * C.size el → (madeCells z.cells (n * C.size el)).getD k undef = z.cells.getD (k % C.size el) undef := by
    intro k hk
    have hpos : 0 < C.size el := by
      rcases Nat.eq_zero_or_pos (C.size el) with h | h
      · rw [h] at hk; simp at hk
      · exact h
    simp [madeCells, hk, hzs, Nat.mod_lt _ hpos]
  have hsz : (madeCells z.cells (n * C.size el)).size = n * C.size el := by simp [madeCells]
  refine ⟨hsz, fun j hj => ?_, fun k x j c hk hj => ?_⟩
  · rw [hsz] at hj
    rw [hget j hj]
    have hpos : 0 < C.size el := by
      rcases Nat.eq_zero_or_pos (C.size el) with h | h
      · rw [h] at hj; simp at hj
      · exact h
    have hlt : j % C.size el < ty.zero.length := by rw [hz2, ← hs]; exact Nat.mod_lt _ hpos
    have := (hc (j % C.size el) ty.zero[j % C.size el] (List.getElem?_eq_getElem hlt)).2.1
    rwa [getD_toList] at this
  · have hkn : k < n := by have := (List.getElem?_eq_some_iff.mp hk).1; simpa using this
    have hx : x = C.z el := by
      have := List.getElem?_replicate (n := n) (a := C.z el) (i := k)
      rw [this, if_pos hkn] at hk; cases hk; rfl
    subst hx
    have hjs : j < C.size el := by
      have := (List.getElem?_eq_some_iff.mp hj).1
      have := hC.len el (C.z el)
      omega
    have hmul : (k + 1) * C.size el ≤ n * C.size el := Nat.mul_le_mul_right _ hkn
    rw [Nat.add_mul] at hmul
    rw [hget _ (by omega), Nat.mul_comm k, Nat.mul_add_mod, Nat.mod_eq_of_lt hjs]
    rcases hC.z el ty hty with h0 | ⟨_, h0⟩
    · rw [h0] at hj; simp at hj
    · have := zsSame_ok (e := e) (F := F) h0 hz1 j c hj
      rwa [getD_toList] at this


theorem makeSlice_ok (hC : Ok C P) (H : RH e F X h w) {t el : Nat} (he : elemOf C t = some el) {ty : Ty C.E} (hty : C.ty el = some ty) (ha : isArr ty.k = false) {kl kc : IntKind} {n : Int} {xl xc : Operand}
    (hl : a.eval xl = .int kl n) (hc : a.eval xc = .int kc n) (h0 : 0 ≤ n) (h1 : n < 4294967296) (h2 : roomOk n.toNat ty.bytes) (hop : o.op = .makeSlice t xl xc) :
    Gives P o a w (Post e F X w (.own el h.length) (h ++ [.arr el (List.replicate n.toNat (C.z el)) false])) := by
  obtain ⟨hu, _, ty', i, z, hty', hi, hsz, hby, hz, _, _⟩ := elemOf_ok (w := w) hC he
  rw [hty] at hty'; cases hty'
  have hroom : (i.bytes : Int) * n ≤ 281474976710656 := by
    unfold roomOk at h2
    rw [← hby, Nat.mul_comm] at h2
    have h3 : ((i.bytes * n.toNat : Nat) : Int) ≤ ((17592186044416 : Nat) : Int) := Int.ofNat_le.mpr h2
    rw [Int.natCast_mul, Int.toNat_of_nonneg h0] at h3
    omega
  have hr := run_make (P := P) w t el i z hu hi hz kl kc n n h0 (Int.le_refl _) hroom (by omega)
  rw [hsz] at hr
  obtain ⟨m1, m2, m3⟩ := made_ok (e := e) (F := F) hC hty hi hz n.toNat ha
  refine gives_value (rv := .slice (some ⟨w.heap.size, 0, none⟩) n.toNat n.toNat) (w' := w.alloc (.cells (madeCells z.cells (n.toNat * C.size el)) el)) (by simp only [execOp, hop, hl, hc, Sem.run_bind, hr, Result.andThen_ok, Sem.run_pure]) ?_
  have := post_row H (Ext.refl w) rfl el (List.replicate n.toNat (C.z el)) _ el n.toNat m1 (by rw [List.length_replicate]; exact Nat.le_refl _) m2 m3
  rwa [List.length_replicate] at this

/-! a slice literal -/
/-- the machine's cells of some elements, side by side -/
def Flat (e : Env) (F : FH) (t : Nat) (xs : List (C.E t)) (vs : List Value) : Prop :=
  vs.length = xs.length ∧ ∀ (i : Nat) (x : C.E t), xs[i]? = some x → (vs.getD i undef).cells.size = (C.enc t x).length ∧
    ∀ (j : Nat) (c : AV C.E), (C.enc t x)[j]? = some c → RV C e F c ((vs.getD i undef).cells.getD j undef)

theorem elemsOf_ok (hC : Ok C P) {el : Nat} : ∀ {l : List (AV C.E)} {F : FH} {h h' : List (Blk C.E)} {xs : List (C.E el)}, RH e F X h w → elemsOf C el l h = some (xs, h') →
    ∃ F', FLe F F' ∧ RH e F' X h' w ∧ xs.length = l.length ∧ (∀ v ∈ l, ∃ cs, cellsOf v = some cs ∧ cs.length = C.size el) ∧ ∀ vs, RVs e F l vs → Flat e F' el xs vs
  | [], F, h, h', xs, H, hs => by
    simp [elemsOf] at hs; obtain ⟨rfl, rfl⟩ := hs
    exact ⟨F, FLe.refl F, H, rfl, by simp, fun vs hv => ⟨by simpa using hv.1, fun i x hi => by simp at hi⟩⟩
  | v :: r, F, h, h', xs, H, hs => by
    simp only [elemsOf] at hs
    split at hs
    · rename_i cs hcs
      split at hs
      · rename_i cs' h1 hlen hf
        split at hs
        · rename_i x hd
          split at hs
          · rename_i xs' h2 hr
            simp at hs; obtain ⟨rfl, rfl⟩ := hs
            obtain ⟨F1, hF1, H1, hl1, hr1⟩ := frzL_ok hC H hf
            obtain ⟨F2, hF2, H2, hl2, hcs2, hr2⟩ := elemsOf_ok hC H1 hr
            have hx := hC.dec el cs' x hd
            refine ⟨F2, hF1.trans hF2, H2, by simp [hl2], fun u hu => ?_, fun vs hv => ?_⟩
            · rcases List.mem_cons.mp hu with rfl | hu
              · exact ⟨cs, hcs, Nat.eq_of_beq_eq_true hlen⟩
              · exact hcs2 u hu
            cases vs with
            | nil => simp [RVs] at hv
            | cons u us =>
              rw [RVs.cons] at hv
              obtain ⟨q1, q2⟩ := cellsOf_ok hv.1 hcs
              obtain ⟨p1, p2⟩ := hr2 us (hv.2.mono (ELe.refl e) hF1)
              refine ⟨by simp [p1], fun i y hi => ?_⟩
              cases i with
              | zero =>
                simp at hi; subst hi
                refine ⟨by rw [hx]; simp [q1, hl1], fun j c hj => ?_⟩
                rw [hx] at hj
                have hlt : j < cs.length := by rw [← hl1]; exact (List.getElem?_eq_some_iff.mp hj).1
                obtain ⟨c', h3, h4, _⟩ := hr1 j cs[j] (List.getElem?_eq_getElem hlt)
                rw [hj] at h3; cases h3
                simpa using (h4 _ (q2 j _ (List.getElem?_eq_getElem hlt)).2).mono (ELe.refl e) hF2
              | succ i => simpa using p2 i y (by simpa using hi)
          · cases hs
        · cases hs
      · cases hs
    · cases hs

theorem flat_rows (hC : Ok C P) {t : Nat} {xs : List (C.E t)} {vs : List Value} (hf : Flat e F t xs vs) (hs : ∀ v ∈ vs, v.cells.size = C.size t) (hpos : 0 < C.size t) :
    Rows e F t xs (vs.flatMap fun v => v.cells.toList).toArray := by
  intro i x j c hi hj
  have hjs : j < C.size t := by
    have := (List.getElem?_eq_some_iff.mp hj).1
    have := hC.len t x
    omega
  have hlt : i < vs.length := by rw [hf.1]; exact (List.getElem?_eq_some_iff.mp hi).1
  have hd : (i * C.size t + j) / C.size t = i := by rw [Nat.mul_comm, Nat.mul_add_div hpos, Nat.div_eq_of_lt hjs]; rfl
  have hm : (i * C.size t + j) % C.size t = j := by rw [Nat.mul_comm, Nat.mul_add_mod, Nat.mod_eq_of_lt hjs]
  have := (hf.2 i x hi).2 j c hj
  have hg := Go.Great.flat_get hpos vs hs (i * C.size t + j)
  rw [hd, hm, List.getElem?_eq_getElem hlt] at hg
  simp only [Option.bind_some] at hg
  rw [Array.getD_eq_getD_getElem?, List.getElem?_toArray, hg]
  simpa [List.getD, hlt, Array.getD_eq_getD_getElem?] using this


theorem inOrder_ok (f : Operand → Value) : ∀ (l : List (Nat × Operand)) (n : Nat), inOrder l n = true → l.map (fun (p : Nat × Operand) => (p.1, f p.2)) = ((l.map fun p => f p.2).zipIdx n).map fun x => (x.2, x.1)
  | [], _, _ => rfl
  | (i, x) :: r, n, hi => by
    simp only [inOrder, Bool.and_eq_true] at hi
    have := Nat.eq_of_beq_eq_true hi.1
    subst this
    simp [inOrder_ok f r (i + 1) hi.2]

theorem buildSlice_ok (hC : Ok C P) (hs : RS e F sl a) (H : RH e F X h w) {t el n : Nat} (he : elemOf C t = some el) {parts : Array (Nat × Operand)} (h1 : inOrder parts.toList 0 = true) (h2 : parts.toList.length = n)
    (hpos : 0 < C.size el) (hsm : n * C.size el ≤ 16777216) {xs : List (C.E el)} {h' : List (Blk C.E)} (hx : elemsOf C el (parts.toList.map fun p => evT C sl el p.2) h = some (xs, h'))
    (hop : o.op = .buildSlice t n parts) :
    Gives P o a w (Post e F X w (.own el h'.length) (h' ++ [.arr el xs false])) := by
  obtain ⟨hu, _, ty, i, z, hty, hi, hsz, hby, hz, _, _⟩ := elemOf_ok (w := w) hC he
  obtain ⟨F', hF, H', hl, hcs, hfl⟩ := elemsOf_ok hC H hx
  have hvals : RVs e F (parts.toList.map fun p => evT C sl el p.2) (parts.toList.map fun p => a.eval p.2) := by
    refine ⟨by simp, fun k c hk => ?_⟩
    rw [List.getElem?_map] at hk
    cases hp : parts.toList[k]? with
    | none => simp [hp] at hk
    | some p =>
      simp [hp] at hk; subst hk
      have : (parts.toList.map fun p => a.eval p.2).getD k undef = a.eval p.2 := by simp [List.getD, hp]
      rw [this]; exact evT_ok hs _ _
  have hflat := hfl _ hvals
  have hsize : ∀ v ∈ (parts.toList.map fun p => a.eval p.2), v.cells.size = C.size el := by
    intro v hv
    obtain ⟨p, hp, rfl⟩ := List.mem_map.mp hv
    obtain ⟨cs, hc1, hc2⟩ := hcs (evT C sl el p.2) (List.mem_map.mpr ⟨p, hp, rfl⟩)
    rw [(cellsOf_ok (evT_ok hs el p.2) hc1).1, hc2]
  have hones : ∀ v ∈ (parts.toList.map fun p => a.eval p.2), ∀ j, j < v.cells.size → (v.cells.getD j undef).oneCell' = true := by
    intro v hv j hj
    obtain ⟨p, hp, rfl⟩ := List.mem_map.mp hv
    obtain ⟨cs, hc1, hc2⟩ := hcs (evT C sl el p.2) (List.mem_map.mpr ⟨p, hp, rfl⟩)
    obtain ⟨q1, q2⟩ := cellsOf_ok (evT_ok hs el p.2) hc1
    obtain ⟨q3, q4⟩ := q2 j cs[j] (List.getElem?_eq_getElem (by rw [← q1]; exact hj))
    exact q4.one_val q3
  generalize hvs : (parts.toList.map fun p => a.eval p.2) = vs at *
  have hvl : vs.length = n := by rw [← hvs]; simpa using h2
  have hfill : Instr.fill (fun i => some (i * C.size el, C.size el)) ((Array.range (n * C.size el)).map (z.cells[· % z.cells.size]!)) ((parts.map fun (p : Nat × Operand) => (p.1, a.eval p.2)).toList) = some (vs.flatMap fun v => v.cells.toList).toArray := by
    rw [Array.toList_map, inOrder_ok a.eval _ 0 h1, hvs]
    exact Go.Great.fill_whole hpos vs _ hsize (by simp [hvl])
  have hflen : (vs.flatMap fun v => v.cells.toList).length = n * C.size el := by
    rw [← hvl]
    clear hfill hflat hvals hvs hvl hones
    induction vs with
    | nil => simp
    | cons v vs ih =>
      rw [List.flatMap_cons, List.length_append, ih (fun u hu => hsize u (List.mem_cons_of_mem _ hu))]
      have := hsize v List.mem_cons_self
      simp [this, Nat.add_mul]; omega
  have honeAll : ∀ j, j < (vs.flatMap fun v => v.cells.toList).toArray.size → ((vs.flatMap fun v => v.cells.toList).toArray.getD j undef).oneCell' = true := by
    intro j hj
    have hj' : j < (vs.flatMap fun v => v.cells.toList).length := by simpa using hj
    have hmem := List.getElem_mem hj'
    obtain ⟨v, hv, hvm⟩ := List.mem_flatMap.mp hmem
    obtain ⟨k, hk, hke⟩ := List.mem_iff_getElem.mp hvm
    have := hones v hv k (by simpa using hk)
    have he1 : (vs.flatMap fun v => v.cells.toList).toArray.getD j undef = (vs.flatMap fun v => v.cells.toList)[j] := by simp [Array.getD_eq_getD_getElem?, List.getElem?_eq_getElem hj']
    rw [he1, ← hke]
    have he2 : v.cells.getD k undef = v.cells.toList[k] := by
      have hk' : k < v.cells.size := by simpa using hk
      simp [Array.getD_eq_getD_getElem?, hk']
    rwa [← he2]
  have hrun : (Instr.buildSlice t n (parts.map fun (p : Nat × Operand) => (p.1, a.eval p.2))).run P w = .ok (.slice (some ⟨w.heap.size, 0, none⟩) n n) (w.alloc (.cells (vs.flatMap fun v => v.cells.toList).toArray el)) := by
    by_cases hz0 : n = 0
    · subst hz0
      have hv0 : vs = [] := List.length_eq_zero_iff.mp hvl
      have hp0 : parts = #[] := by
        have : parts.toList = [] := List.length_eq_zero_iff.mp h2
        exact Array.toList_eq_nil_iff.mp this
      subst hv0
      subst hp0
      simp [Instr.buildSlice, run_underlying hu, sizeOf, run_typeInfo w hi, newRow, Instr.fill, Array.range_zero']
    · have hn0 : ¬ n * i.size = 0 := by
        rw [hsz]
        have : 0 < n * C.size el := Nat.mul_pos (by omega) hpos
        omega
      exact run_buildSlice w t el n _ _ i z hu hi hz (by rw [hsz]; omega) hn0 (by rw [hsz]; exact hfill)
  refine gives_value (rv := .slice (some ⟨w.heap.size, 0, none⟩) n n) (w' := w.alloc (.cells (vs.flatMap fun v => v.cells.toList).toArray el)) (by
    simp only [execOp, hop, Sem.run_bind]
    show ((Instr.buildSlice t n (parts.map fun (p : Nat × Operand) => (p.1, a.eval p.2))).run P w).andThen _ = _
    rw [hrun]; rfl) ?_
  have hxl : xs.length = n := by rw [hl, ← h2]; simp
  have := post_row H' (Ext.refl w) rfl el xs (vs.flatMap fun v => v.cells.toList).toArray el n (by simpa using hflen) (by omega) honeAll (flat_rows hC hflat hsize hpos)
  rw [hxl] at this
  obtain ⟨e', F'', g1, g2, g3, g4, g5⟩ := this
  exact ⟨e', F'', g1, hF.trans g2, g3, g4, g5⟩

end
end Go.Proofs.Ytgplkdcibahofaa.Ev
