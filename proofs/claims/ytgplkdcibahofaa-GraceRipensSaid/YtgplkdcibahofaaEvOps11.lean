/-
  Each operation of the evaluator does what the machine's does: arrays, texts, conversions, and all of them in one. No program is named here.
-/
import Derived.Test.YtgplkdcibahofaaEvOps10
import Derived.Laws.BytesString
import Derived.Laws.IdiomStrings
namespace Go.Proofs.Ytgplkdcibahofaa.Ev
open Go

section
variable {C : Ctx} {P : Program} {e : Env} {F X : FH} {h : List (Blk C.E)} {w : World} {sl : Tr C.E} {a : Act} {o : Oper}

/-! arrays -/
theorem zerosAre_append {E : Nat → Type} : ∀ {a b : List (AV E)} {vs : List Value}, zerosAre (a ++ b) vs = true → zerosAre a (vs.take a.length) = true ∧ zerosAre b (vs.drop a.length) = true
  | [], b, vs, h => by simp only [List.length_nil, List.take_zero, List.drop_zero]; exact ⟨rfl, h⟩
  | x :: a, b, [], h => by simp [zerosAre] at h
  | x :: a, b, v :: vs, h => by
    simp only [List.cons_append, zerosAre, Bool.and_eq_true] at h
    obtain ⟨h1, h2⟩ := zerosAre_append h.2
    simp only [List.length_cons, List.take_succ_cons, List.drop_succ_cons, zerosAre, Bool.and_eq_true]
    exact ⟨⟨h.1, h1⟩, h2⟩

theorem zeros_seg {E : Nat → Type} {z : List (AV E)} : ∀ {n : Nat} {vs : List Value}, zerosAre ((List.replicate n z).flatten) vs = true → ∀ i, i < n → zerosAre z ((vs.drop (i * z.length)).take z.length) = true
  | 0, _, _, i, hi => by omega
  | n + 1, vs, h, i, hi => by
    rw [List.replicate_succ, List.flatten_cons] at h
    obtain ⟨h1, h2⟩ := zerosAre_append h
    cases i with
    | zero => simpa using h1
    | succ i =>
      have := zeros_seg h2 i (by omega)
      rw [List.drop_drop] at this
      rwa [Nat.add_mul, Nat.one_mul, Nat.add_comm]

theorem arr_size (hC : Ok C P) {t n el : Nat} (h : arrOf C t = some (n, el)) : ∃ ty ety, C.ty t = some ty ∧ C.ty el = some ety ∧ isArr ety.k = false ∧ ty.zero = (List.replicate n ety.zero).flatten ∧ C.size t = n * C.size el ∧ ety.zero.length = C.size el := by
  unfold arrOf at h
  split at h
  · rename_i ty hty
    split at h
    · rename_i n' e' hk
      split at h
      · rename_i ety hety
        simp at h
        obtain ⟨rfl, rfl⟩ := h
        obtain ⟨h1, h2⟩ := hC.arr _ _ _ _ _ hty hk hety
        obtain ⟨_, _, _, _, _, h3⟩ := ty_zero hC hty
        obtain ⟨_, _, _, _, _, h4⟩ := ty_zero hC hety
        have h5 : C.size e' = ety.size := by simp [Ctx.size, hety]
        have h6 : C.size t = ty.size := by simp [Ctx.size, hty]
        refine ⟨ty, ety, hty, hety, h1, h2, ?_, by rw [h5, h4]⟩
        rw [h6, ← h3, h2, h5, ← h4]
        simp [List.length_flatten]
      · cases h
    · cases h
  · cases h

/-- a new row, and the address of it as of an array -/
theorem post_parr (H : RH e F X h w) (el : Nat) (l : List (C.E el)) (arr : Array Value) (t : TypeId) (hs : arr.size = l.length * C.size el)
    (hone : ∀ j, j < arr.size → (arr.getD j undef).oneCell' = true) (hr : Rows e F el l arr) :
    Post e F X w (.ptr h.length 0) (h ++ [.arr el l false]) (.pointer (some ⟨w.heap.size, 0, none⟩)) (w.alloc (.cells arr t)) := by
  refine ⟨e.add w.heap.size l.length l.length, F, Env.le_add _ _ _ _, FLe.refl F, ?_, H.alloc rfl _ arr t _ _ ?_, (Ext.refl w).alloc _⟩
  · have := RV.ptr (C := C) (e := e.add w.heap.size l.length l.length) (F := F) h.length 0 (by simp [H.sz])
    rwa [← H.sz, Env.add_ρ, H.sz] at this
  · refine ⟨by rw [← H.sz, Env.add_len], .inr ⟨arr, t, rfl, fun _ => by rw [← H.sz, Env.add_ρ]; exact (F_new H).1, by simp, by rw [← H.sz, Env.add_cap]; exact hs, by rw [← H.sz, Env.add_cap]; exact Nat.le_refl _, hone, hr.mono (Env.le_add _ _ _ _) (FLe.refl F)⟩⟩

theorem allocArr_ok (hC : Ok C P) (H : RH e F X h w) {t n el : Nat} (ha : arrOf C t = some (n, el)) (hop : o.op = .alloc t) :
    Gives P o a w (Post e F X w (.ptr h.length 0) (h ++ [.arr el (List.replicate n (C.z el)) false])) := by
  obtain ⟨ty, ety, hty, hety, h1, h2, h3, h4⟩ := arr_size hC ha
  obtain ⟨i, z, hi, hz, hz1, hz2⟩ := ty_zero hC hty
  have hsz : z.cells.size = n * C.size el := by
    obtain ⟨hl, _⟩ := zerosAre_ok (e := e) (F := F) hz1
    have h6 : C.size t = ty.size := by simp [Ctx.size, hty]
    rw [← h3, h6, ← hz2]; simpa using hl
  refine gives_value (rv := .pointer (some ⟨w.heap.size, 0, none⟩)) (w' := w.alloc (.cells z.cells t)) (by simp [execOp, hop, Instr.alloc, run_zeroValue hi hz, newVar, newRow]) ?_
  have hone : ∀ j, j < z.cells.size → (z.cells.getD j undef).oneCell' = true := by
    intro j hj
    obtain ⟨hl, hc⟩ := zerosAre_ok (e := e) (F := F) hz1
    have hjl : j < ty.zero.length := by simp at hl; omega
    have := (hc j ty.zero[j] (List.getElem?_eq_getElem hjl)).2.1
    rwa [getD_toList] at this
  have hrows : Rows e F el (List.replicate n (C.z el)) z.cells := by
    intro i x j c hi hj
    have hin : i < n := by have := (List.getElem?_eq_some_iff.mp hi).1; simpa using this
    rw [List.getElem?_replicate, if_pos hin] at hi
    cases hi
    rcases hC.z el ety hety with h0 | ⟨_, h0⟩
    · rw [h0] at hj; simp at hj
    · rw [h2] at hz1
      have hseg := zeros_seg hz1 i hin
      have := zsSame_ok (e := e) (F := F) h0 hseg j c hj
      have hjs : j < C.size el := by
        have h5 := (List.getElem?_eq_some_iff.mp hj).1
        have h6 := hC.len el (C.z el)
        omega
      rw [h4, List.getD_eq_getElem?_getD, List.getElem?_take_of_lt hjs, List.getElem?_drop, ← List.getD_eq_getElem?_getD, getD_toList] at this
      exact this
  have := post_parr H el (List.replicate n (C.z el)) z.cells t (by rw [List.length_replicate]; exact hsz) hone hrows
  exact this

theorem loadArr_ok (hC : Ok C P) (H : RH e F X h w) {t n el : Nat} (ha : arrOf C t = some (n, el)) {p : AV C.E} {rp : Value} (hp : RV C e F p rp) : VOk P w e F (Instr.loadAt t rp) (loadArr C h n el p) := by
  obtain ⟨ty, ety, hty, hety, h1, h2, h3, h4⟩ := arr_size hC ha
  obtain ⟨hu, hse⟩ := arrOf_ok (w := w) hC ha
  unfold loadArr
  split
  · rename_i id off
    split
    · rename_i t' l fro hb
      split
      · rename_i heq
        obtain rfl := Nat.eq_of_beq_eq_true heq
        intro hl
        cases hp with
        | ptr _ _ hid =>
          have hagg : (Go.isAgg t).run P w = .ok true w := by simp [Go.isAgg, run_underlying hu]
          have hst : (sizeOf t).run P w = .ok (C.size t) w := by
            obtain ⟨i, z, hi, hsz, _⟩ := ty_info hC hty
            have h6 : C.size t = ty.size := by simp [Ctx.size, hty]
            simp [sizeOf, run_typeInfo w hi, hsz, h6]
          obtain ⟨h0, ⟨h5, h6⟩ | ⟨arr, elr, h5, h6, h7, h8, h9, h10, h11⟩⟩ := H.blk id _ hb
          · subst h6
            have hn : n = 0 := by simpa using hl.symm
            rw [hn, Nat.zero_mul] at h3
            refine ⟨.agg #[], ?_, .aarr t' [] #[] (by simp) (by simp) (by simp)⟩
            simp [Instr.loadAt, Instr.sureAddr, loadVar, hagg, hst, h3, loadCells, loadCellsFrom]
          · have hfit : C.size t ≤ arr.size := by rw [h3, h8]; exact Nat.mul_le_mul_right _ (by omega)
            have hex : ∀ j, j < C.size t → w.cell? ((⟨e.ρ id, 0, none⟩ : Addr).add j) = some (arr.getD j undef) := by
              intro j hj
              rw [add_off, Nat.zero_add, cell_of_heap h5 (by omega)]
            have hld := run_loadCells (P := P) w ⟨e.ρ id, 0, none⟩ (C.size t) _ hex
            refine ⟨.agg ((List.range (C.size t)).map fun j => arr.getD j undef).toArray, ?_, .aarr t' l _ (by simp [h3, hl]) (fun j hj => ?_) (fun i x j cc hi hj => ?_)⟩
            · simp only [Instr.loadAt, Instr.sureAddr, loadVar, Sem.run_bind, Sem.run_pure, Result.andThen_ok, hagg, hst, if_true, hld]
            · have hj' : j < C.size t := by simpa using hj
              have := h10 j (by omega)
              simpa [hj'] using this
            · have hin : i < n := by have := (List.getElem?_eq_some_iff.mp hi).1; omega
              have hjs : j < C.size t' := by
                have h5 := (List.getElem?_eq_some_iff.mp hj).1
                have h6 := hC.len t' x
                omega
              have hmul : (i + 1) * C.size t' ≤ n * C.size t' := Nat.mul_le_mul_right _ hin
              rw [Nat.add_mul] at hmul
              have hlt : i * C.size t' + j < C.size t := by omega
              have := h11 i x j cc hi hj
              simpa [hlt] using this
      · trivial
    · trivial
  · trivial

theorem boxArr_ok (H : RH e F X h w) {t el : Nat} {x : Operand} {l : List (C.E el)} (hv : RV C e F (.aarr el l) (a.eval x)) (hop : o.op = .box t x) :
    Gives P o a w (Post e F X w (.ptr h.length 0) (h ++ [.arr el l false])) := by
  refine gives_value (rv := .pointer (some ⟨w.heap.size, 0, none⟩)) (w' := w.alloc (.cells (a.eval x).cells t)) (by simp [execOp, hop, Instr.box, newVar, newRow]) ?_
  revert hv
  generalize a.eval x = v
  intro hv
  cases hv with
  | aarr _ _ vs hs h1 h2 => exact post_parr H el l vs t hs h1 h2

theorem indexArr_ok (hC : Ok C P) {t n el : Nat} (ha : arrOf C t = some (n, el)) (hag : isAgg C el = some (false, 1)) {l : List (C.E el)} {v : Value} (hv : RV C e F (.aarr el l) v) {k : IntKind} {i : Int} {c : AV C.E}
    (hc : C.enc el (l.getD i.toNat (C.z el)) = [c]) (hi : 0 ≤ i ∧ i < (n : Int) ∧ l.length = n) : ∃ rv, (Instr.index t v (.int k i)).run P w = .ok rv w ∧ RV C e F c rv := by
  obtain ⟨hu, hse⟩ := arrOf_ok (w := w) hC ha
  obtain ⟨h1, h2, h3⟩ := isAgg_ok hC hag w
  cases hv with
  | aarr _ _ vs hs g1 g2 =>
    have hlt : i.toNat < l.length := by omega
    have hg : l[i.toNat]? = some (l.getD i.toNat (C.z el)) := by rw [List.getD_eq_getElem?_getD, List.getElem?_eq_getElem hlt]; rfl
    have hrv := g2 i.toNat _ 0 c hg (by rw [hc]; rfl)
    rw [h3, Nat.mul_one, Nat.add_zero] at hrv
    rw [h3, Nat.mul_one] at hs
    have hlt2 : i.toNat < vs.size := by omega
    refine ⟨vs[i.toNat], ?_, by simpa [hlt2] using hrv⟩
    rw [h3] at hse
    simp [Instr.index, asIntOf_int, run_underlying hu, hi.1, hi.2.1, hse, part, h1, hlt2]

/-! texts -/
theorem index_str_ok {t : Nat} (hu : P.underlying t = some .string) {s : ByteArray} {k : IntKind} {i : Int} (hi : 0 ≤ i ∧ i < (s.size : Int)) : (Instr.index t (.string s) (.int k i)).run P w = .ok (.int .u8 (byteAt s i)) w := by
  rw [run_index_string w t s k i hu, dif_pos hi]
  have hlt : i.toNat < s.data.toList.length := by rw [Array.length_toList]; show i.toNat < s.size; omega
  unfold byteAt
  rw [List.getD_eq_getElem?_getD, List.getElem?_eq_getElem hlt]
  rfl

theorem strSlice_ok {t : Nat} (hu : P.underlying t = some .string) {s : ByteArray} {lo hi : Option (AV C.E)} {vlo vhi : Option Value} (hl : OV e F lo vlo) (hh : OV e F hi vhi) :
    VOk P w e F (Instr.sliceAt t (.string s) vlo vhi none) (strSlice s lo hi) := by
  unfold strSlice
  split
  · cases vlo <;> cases vhi <;> simp [OV] at hl hh
    exact ⟨_, by simp [Instr.sliceAt, Instr.slice, run_underlying hu, Instr.sliceBounds], .str _⟩
  · rename_i k i
    cases vlo <;> cases vhi <;> simp [OV] at hl hh
    intro hp
    obtain rfl := hl.int_inv
    exact ⟨_, by simp [Instr.sliceAt, Instr.slice, run_underlying hu, Instr.sliceBounds, Instr.sliceBound, asIntOf_int, hp], .str _⟩
  · rename_i k i
    cases vlo <;> cases vhi <;> simp [OV] at hl hh
    intro hp
    obtain rfl := hh.int_inv
    exact ⟨_, by simp [Instr.sliceAt, Instr.slice, run_underlying hu, Instr.sliceBounds, Instr.sliceBound, asIntOf_int, hp.1, hp.2], .str _⟩
  · rename_i k i k' j
    cases vlo <;> cases vhi <;> simp [OV] at hl hh
    intro hp
    obtain rfl := hl.int_inv
    obtain rfl := hh.int_inv
    have h2' : i ≤ max j 0 := by omega
    exact ⟨_, by simp [Instr.sliceAt, Instr.slice, run_underlying hu, Instr.sliceBounds, Instr.sliceBound, asIntOf_int, hp.1.1, hp.1.2, hp.2.1, h2'], .str _⟩
  · trivial

theorem und_str (hC : Ok C P) {t : Nat} {ty : Ty C.E} (hty : C.ty t = some ty) (hk : ty.k = .str) : P.underlying t = some .string := by
  obtain ⟨_, _, _, _, _, _, _, hu⟩ := ty_info hC hty
  rw [hk] at hu
  simp only [undOk] at hu
  split at hu
  · assumption
  · cases hu

theorem und_int (hC : Ok C P) {t : Nat} {ty : Ty C.E} (hty : C.ty t = some ty) {k : IntKind} (hk : ty.k = .int k) : P.underlying t = some (.int k) := by
  obtain ⟨_, _, _, _, _, _, _, hu⟩ := ty_info hC hty
  rw [hk] at hu
  simp only [undOk] at hu
  split at hu
  · rename_i h1; simp at hu; rw [h1, hu]
  · cases hu

theorem und_slice (hC : Ok C P) {t : Nat} {ty : Ty C.E} (hty : C.ty t = some ty) {el : Nat} (hk : ty.k = .slice el) : P.underlying t = some (.slice el) := by
  obtain ⟨_, _, _, _, _, _, _, hu⟩ := ty_info hC hty
  rw [hk] at hu
  simp only [undOk] at hu
  split at hu
  · rename_i h1; simp at hu; rw [h1, hu]
  · cases hu

theorem und_some (hC : Ok C P) {t : Nat} {ty : Ty C.E} (hty : C.ty t = some ty) (ho : ty.k ≠ .other) : ∃ d, P.underlying t = some d := by
  obtain ⟨_, _, _, _, _, _, _, hu⟩ := ty_info hC hty
  cases hk : ty.k <;> rw [hk] at hu <;> simp only [undOk] at hu <;> first
    | (split at hu <;> first | exact ⟨_, by assumption⟩ | cases hu)
    | exact absurd hk ho

theorem bytes_fold : ∀ (l : List Int) (r : ByteArray), l.foldl (fun r n => r.push (UInt8.ofNat n.toNat)) r = ⟨r.data ++ (l.map fun i => UInt8.ofNat i.toNat).toArray⟩
  | [], r => by simp
  | b :: l, r => by
    simp only [List.foldl_cons]
    rw [bytes_fold l]
    simp [ByteArray.push]

theorem toStr_ok (hC : Ok C P) (H : RH e F X h w) {s d el : Nat} (hs : P.underlying s = some (.slice el)) (he : P.underlying el = some (.int .u8)) (hd : P.underlying d = some .string) (hf : full C el = true) {x : AV C.E} {v : Value}
    (hx : RV C e F x v) {l : List (C.E el)} (hc : content C h el x = some l) {is : List Int} (ht : C.toInts el l = some is) (h1 : C.size el = 1) : (convert s d v).run P w = .ok (.string (strOfInts is)) w := by
  obtain ⟨ad, c, news, hn⟩ := content_cells hC H hf hx hc
  obtain ⟨hl, hi⟩ := hC.tos _ _ _ ht
  have hlen := hn.len
  rw [h1, Nat.mul_one] at hlen
  have hnews : news = is.map (Value.int .u8) := by
    refine List.ext_getElem? fun i => ?_
    by_cases hil : i < l.length
    · obtain ⟨n, hn1, hn2⟩ := hi i l[i] (List.getElem?_eq_getElem hil)
      have := hn.rows i l[i] 0 _ (List.getElem?_eq_getElem hil) (by rw [hn2]; rfl)
      rw [h1, Nat.mul_one, Nat.add_zero] at this
      cases hh : news[i]? with
      | none => have := List.getElem?_eq_none_iff.mp hh; omega
      | some u =>
        rw [List.getD_eq_getElem?_getD, hh] at this
        cases this
        rw [List.getElem?_map, hn1]; rfl
    · rw [List.getElem?_eq_none (by omega), List.getElem?_eq_none (by simp; omega)]
  rw [hn.val]
  rw [run_convert_bytes_string w s d el ad l.length c hs he hd]
  cases ad with
  | none =>
    have hl0 : l = [] := by
      rcases Nat.eq_zero_or_pos l.length with h0 | h0
      · exact List.length_eq_zero_iff.mp h0
      · obtain ⟨b, o, hb, _⟩ := hn.at_ (by rw [h1]; omega); cases hb
    have : is = [] := List.length_eq_zero_iff.mp (by rw [hl, hl0]; rfl)
    subst this
    rfl
  | some ad =>
    have hld : (loadCells ad l.length).run P w = .ok (is.map (Value.int .u8)).toArray w := by
      rw [← hnews]
      have := first_slice (P := P) (t := el) (n := l.length) (m := l.length) (c := c) (ad := some ad) hn.len hn.at_ w (fun _ => rfl)
      rw [h1] at this
      simpa [Builtin.firstCells] using this
    rw [run_bytesToString w ad l.length c is hld, bytes_fold]
    unfold strOfInts
    simp

end
end Go.Proofs.Ytgplkdcibahofaa.Ev
