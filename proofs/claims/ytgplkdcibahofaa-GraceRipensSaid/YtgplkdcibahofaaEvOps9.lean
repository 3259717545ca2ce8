/-
  Each operation of the evaluator does what the machine's does: append, copy, clear. No program is named here.
-/
import Derived.Test.YtgplkdcibahofaaEvOps8
namespace Go.Proofs.Ytgplkdcibahofaa.Ev
open Go

section
variable {C : Ctx} {P : Program} {e : Env} {F X : FH} {h : List (Blk C.E)} {w : World} {sl : Tr C.E} {a : Act} {o : Oper}

theorem full_ok (hC : Ok C P) {t : Nat} (hf : full C t = true) (x : C.E t) : (C.enc t x).length = C.size t ∧ 0 < C.size t := by
  unfold full at hf
  simp only [Bool.and_eq_true] at hf
  exact ⟨(hC.len2 t x).trans (Nat.eq_of_beq_eq_true hf.1), by have := hf.2; simp [Nat.blt_eq] at this; exact this⟩

/-- the machine's cells of what is appended, or copied -/
structure Srcs (P : Program) (e : Env) (F : FH) (t yt : Nat) (ys : List (C.E t)) (v : Value) (w : World) (news : List Value) : Prop where
  src : Src P (C.size t) yt v ys.length news w
  rows : ∀ (i : Nat) (x : C.E t) (j : Nat) (c : AV C.E), ys[i]? = some x → (C.enc t x)[j]? = some c → RV C e F c (news.getD (i * C.size t + j) undef)

theorem first_slice {t : Nat} {ad : Option Addr} {n m c : Nat} {news : List Value} (hl : news.length = n * C.size t) (h0 : n * C.size t ≠ 0 → ∃ b o, ad = some ⟨b, o, none⟩ ∧ ∀ j u, news[j]? = some u → w.cell? ⟨b, o + j, none⟩ = some u)
    (w' : World) (hw : ∀ a, w'.cell? a = w.cell? a) : (Builtin.firstCells (C.size t) n (.slice ad m c)).run P w' = .ok news.toArray w' := by
  cases ad with
  | none =>
    have : news = [] := by
      by_cases hz : n * C.size t = 0
      · exact List.length_eq_zero_iff.mp (by omega)
      · obtain ⟨b, o, hb, _⟩ := h0 hz; cases hb
    subst this; rfl
  | some ad =>
    by_cases hz : n * C.size t = 0
    · have : news = [] := List.length_eq_zero_iff.mp (by omega)
      subst this
      simp [Builtin.firstCells, hz, loadCells, loadCellsFrom]
    · obtain ⟨b, o, hb, hc⟩ := h0 hz
      cases hb
      have := run_loadCells_list (P := P) w' ⟨b, o, none⟩ news (fun j v hj => by rw [add_off, hw]; exact hc j v hj)
      rw [hl] at this
      simpa [Builtin.firstCells] using this

theorem src_slice {t yt el : Nat} (hu : P.underlying yt = some (.slice el)) {ad : Option Addr} {n c : Nat} {news : List Value} (hl : news.length = n * C.size t) (h0 : n * C.size t ≠ 0 → ∃ b o, ad = some ⟨b, o, none⟩ ∧ ∀ j u, news[j]? = some u → w.cell? ⟨b, o + j, none⟩ = some u)
    (h1 : ∀ u ∈ news, u.oneCell' = true) : Src P (C.size t) yt (.slice ad n c) n news w :=
  ⟨.inl ⟨el, hu⟩, fun _ => rfl, first_slice hl h0 w (fun _ => rfl), first_slice hl h0 w.drew (fun _ => rfl), hl, h1⟩

/-- the cells of a row that lies in a block of the machine's -/
theorem arr_src {t : Nat} {l : List (C.E t)} {fro : Bool} (H : RH e F X h w) {id : Nat} (hb : h[id]? = some (.arr t l fro)) {lo n : Nat} (hn : lo + n ≤ l.length) :
    ∃ news : List Value, news.length = n * C.size t ∧ (∀ j u, news[j]? = some u → w.cell? ⟨e.ρ id, lo * C.size t + j, none⟩ = some u) ∧ (∀ u ∈ news, u.oneCell' = true) ∧
      ∀ (i : Nat) (x : C.E t) (j : Nat) (c : AV C.E), ((l.drop lo).take n)[i]? = some x → (C.enc t x)[j]? = some c → j < C.size t → RV C e F c (news.getD (i * C.size t + j) undef) := by
  obtain ⟨h0, ⟨_, h1⟩ | ⟨arr, el, h1, h2, h3, h4, h5, h6, h7⟩⟩ := H.blk id _ hb
  · subst h1
    simp at hn
    obtain ⟨rfl, rfl⟩ := hn
    exact ⟨[], by simp, fun j u hj => by simp at hj, fun u hu => by simp at hu, fun i x j c hi => by simp at hi⟩
  · have hfit : lo * C.size t + n * C.size t ≤ arr.size := by
      rw [h4, ← Nat.add_mul]; exact Nat.mul_le_mul_right _ (by omega)
    refine ⟨(arr.toList.drop (lo * C.size t)).take (n * C.size t), by simp; omega, fun j u hj => ?_, fun u hu => ?_, fun i x j c hi hj hjs => ?_⟩
    · have hjn : j < n * C.size t := by have := (List.getElem?_eq_some_iff.mp hj).1; simp at this; omega
      rw [List.getElem?_take_of_lt hjn, List.getElem?_drop] at hj
      rw [cell_of_heap h1 (by omega)]
      simp at hj
      simp [hj]
    · obtain ⟨j, hj, rfl⟩ := List.mem_iff_getElem.mp hu
      have hjn : j < n * C.size t := by simp at hj; omega
      have := h6 (lo * C.size t + j) (by omega)
      have hlt : lo * C.size t + j < arr.size := by omega
      simpa [hlt] using this
    · have hin : i < n := by have := (List.getElem?_eq_some_iff.mp hi).1; simp at this; omega
      rw [List.getElem?_take_of_lt hin, List.getElem?_drop] at hi
      have h8 := h7 (lo + i) x j c hi hj
      have hmul : (i + 1) * C.size t ≤ n * C.size t := Nat.mul_le_mul_right _ hin
      rw [Nat.add_mul] at hmul
      have hlt : i * C.size t + j < n * C.size t := by omega
      have hlt2 : lo * C.size t + (i * C.size t + j) < arr.size := by omega
      rw [Nat.add_mul, Nat.add_assoc] at h8
      simpa [List.getD, hlt, hlt2] using h8

/-- the machine's cells of what a slice holds -/
structure CellsOf (e : Env) (F : FH) (w : World) (t : Nat) (ys : List (C.E t)) (v : Value) (ad : Option Addr) (c : Nat) (news : List Value) : Prop where
  val : v = .slice ad ys.length c
  len : news.length = ys.length * C.size t
  at_ : ys.length * C.size t ≠ 0 → ∃ b o, ad = some ⟨b, o, none⟩ ∧ ∀ j u, news[j]? = some u → w.cell? ⟨b, o + j, none⟩ = some u
  one : ∀ u ∈ news, u.oneCell' = true
  rows : ∀ (i : Nat) (x : C.E t) (j : Nat) (c : AV C.E), ys[i]? = some x → (C.enc t x)[j]? = some c → RV C e F c (news.getD (i * C.size t + j) undef)

theorem content_cells0 (hC : Ok C P) (H : RH e F X h w) {t : Nat} (hf : full C t = true) {y : AV C.E} {v : Value} (hy : RV C e F y v) {ys : List (C.E t)} (hc : content C h t y = some ys) (hn1 : ∀ t id lo n c, y ≠ .viewc t id lo n c) (hn2 : ∀ t l, y ≠ .tsl t l) :
    ∃ ad c news, CellsOf e F w t ys v ad c news := by
  have hpos := (full_ok hC hf (C.z t)).2
  unfold content at hc
  split at hc
  · split at hc
    · simp at hc; subst hc
      cases hy
      exact ⟨none, 0, [], rfl, by simp, by simp, by simp, fun i x j c hi => by simp at hi⟩
    · cases hc
  · rename_i t' l
    split at hc
    · rename_i ht
      subst ht
      simp at hc; subst hc
      cases hy with
      | sl _ _ ad c b o vs hcap ha h1 h2 =>
        refine ⟨ad, c, (List.range (l.length * C.size t')).map (fun k => vs (k / C.size t') (k % C.size t')), ?_⟩
        · have hk : ∀ k, k < l.length * C.size t' → ∃ x cc, l[k / C.size t']? = some x ∧ (C.enc t' x)[k % C.size t']? = some cc := by
            intro k hk
            have h3 : k / C.size t' < l.length := Nat.div_lt_of_lt_mul (by rw [Nat.mul_comm]; exact hk)
            have h4 : k % C.size t' < (C.enc t' l[k / C.size t']).length := by rw [(full_ok hC hf _).1]; exact Nat.mod_lt _ hpos
            exact ⟨l[k / C.size t'], _, List.getElem?_eq_getElem h3, List.getElem?_eq_getElem h4⟩
          refine ⟨rfl, by simp, fun hz => ⟨b, o, ha (by intro h0; subst h0; simp at hz), fun j u hj => ?_⟩, fun u hu => ?_, ?_⟩
          · have hjl : j < l.length * C.size t' := by have := (List.getElem?_eq_some_iff.mp hj).1; simpa using this
            obtain ⟨x, cc, h5, h6⟩ := hk j hjl
            simp [hjl] at hj
            subst hj
            have := FH.cell_world H (h1 _ x _ cc h5 h6)
            rwa [Nat.add_assoc, Nat.mul_comm, Nat.div_add_mod] at this
          · obtain ⟨k, hkl, rfl⟩ := List.mem_map.mp hu
            obtain ⟨x, cc, h5, h6⟩ := hk k (by simpa using hkl)
            exact (h2 _ x _ cc h5 h6).one_val (plain_one (hC.enc t' x cc (List.mem_of_getElem? h6)))
          · intro i x j cc hi hj
            have hjs : j < C.size t' := by rw [← (full_ok hC hf x).1]; exact (List.getElem?_eq_some_iff.mp hj).1
            have hin : i < l.length := (List.getElem?_eq_some_iff.mp hi).1
            have hmul : (i + 1) * C.size t' ≤ l.length * C.size t' := Nat.mul_le_mul_right _ hin
            rw [Nat.add_mul] at hmul
            have hlt : i * C.size t' + j < l.length * C.size t' := by omega
            have hd : (i * C.size t' + j) / C.size t' = i := by rw [Nat.mul_comm, Nat.mul_add_div hpos, Nat.div_eq_of_lt hjs]; rfl
            have hm : (i * C.size t' + j) % C.size t' = j := by rw [Nat.mul_comm, Nat.mul_add_mod, Nat.mod_eq_of_lt hjs]
            have := h2 i x j cc hi hj
            simpa [List.getD, hlt, hd, hm] using this
    · cases hc
  · rename_i t' id
    split at hc
    · rename_i ht
      obtain rfl := Nat.eq_of_beq_eq_true ht
      split at hc
      · rename_i t'' l fro hb
        split at hc
        · rename_i ht'
          subst ht'
          simp at hc; subst hc
          obtain ⟨news, n1, n2, n3, n4⟩ := arr_src H hb (lo := 0) (n := l.length) (by omega)
          obtain ⟨h0, _⟩ := H.blk id _ hb
          cases hy with
          | own _ _ ad c hid g1 g2 g3 =>
            rw [h0]
            refine ⟨ad, c, news, rfl, n1, (fun hz => ⟨e.ρ id, 0, g3 (by intro hc0; rw [hc0] at g1; rw [h0] at g1; have : l.length = 0 := (by omega); rw [this] at hz; simp at hz), by simpa using n2⟩), n3, fun i x j c hi hj => n4 i x j c (by simpa using hi) hj ?_⟩
            rw [← (full_ok hC hf x).1]; exact (List.getElem?_eq_some_iff.mp hj).1
        · cases hc
      · cases hc
    · cases hc
  · rename_i t' id lo n
    split at hc
    · rename_i ht
      obtain rfl := Nat.eq_of_beq_eq_true ht
      split at hc
      · rename_i t'' l fro hb
        split at hc
        · rename_i ht'
          subst ht'
          simp at hc; subst hc
          obtain ⟨h0, _⟩ := H.blk id _ hb
          cases hy with
          | view _ _ _ _ ad c hid g1 g2 g3 g4 =>
            obtain ⟨news, n1, n2, n3, n4⟩ := arr_src H hb (lo := lo) (n := n) (by omega)
            have hlen : ((l.drop lo).take n).length = n := by simp; omega
            refine ⟨ad, c, news, by rw [hlen], by rw [hlen]; exact n1, ?_, n3, fun i x j c hi hj => n4 i x j c hi hj ?_⟩
            · rw [hlen]
              exact (fun hz => ⟨e.ρ id, _, g3 (by intro hc0; rw [hc0] at g1; have : n = 0 := (by omega); rw [this] at hz; simp at hz), n2⟩)
            · rw [← (full_ok hC hf x).1]; exact (List.getElem?_eq_some_iff.mp hj).1
        · cases hc
      · cases hc
    · cases hc
  · exact absurd rfl (hn1 _ _ _ _ _)
  · exact absurd rfl (hn2 _ _)
  · cases hc


theorem content_cells (hC : Ok C P) (H : RH e F X h w) {t : Nat} (hf : full C t = true) {y : AV C.E} {v : Value} (hy : RV C e F y v) {ys : List (C.E t)} (hc : content C h t y = some ys) :
    ∃ ad c news, CellsOf e F w t ys v ad c news := by
  by_cases h1 : (∃ t id lo n c, y = .viewc t id lo n c)
  · obtain ⟨t', id, lo, n, c, rfl⟩ := h1
    have hc' : content C h t (.view t' id lo n) = some ys := hc
    cases hb : h[id]? with
    | none => simp only [content, hb] at hc'; split at hc' <;> cases hc'
    | some b => cases b with
      | arr t'' l fro => exact content_cells0 hC H hf (hy.viewc_view H hb) hc' (fun _ _ _ _ _ hh => by cases hh) (fun _ _ hh => by cases hh)
      | _ => simp only [content, hb] at hc'; split at hc' <;> cases hc'
  · by_cases h2 : (∃ t l, y = .tsl t l)
    · obtain ⟨t', l, rfl⟩ := h2
      exact content_cells0 (y := .sl t' l) hC H hf hy.tsl_sl hc (fun _ _ _ _ _ hh => by cases hh) (fun _ _ hh => by cases hh)
    · exact content_cells0 hC H hf hy hc (fun t id lo n c hh => h1 ⟨t, id, lo, n, c, hh⟩) (fun t l hh => h2 ⟨t, l, hh⟩)

theorem content_src (hC : Ok C P) (H : RH e F X h w) {t yt el : Nat} (hu : P.underlying yt = some (.slice el)) (hf : full C t = true) {y : AV C.E} {v : Value} (hy : RV C e F y v) {ys : List (C.E t)} (hc : content C h t y = some ys) :
    ∃ news, Srcs P e F t yt ys v w news := by
  obtain ⟨ad, c, news, h1⟩ := content_cells hC H hf hy hc
  exact ⟨news, by rw [h1.val]; exact src_slice hu h1.len h1.at_ h1.one, h1.rows⟩

theorem zeroCells_ok (hC : Ok C P) {el : Nat} {ty : Ty C.E} (hty : C.ty el = some ty) {i : TypeInfo} {z : Value} (hi : P.info? el = some i) (hz : i.zero = some z) (ha : isArr ty.k = false) (k : Nat) :
    z.cells.size = C.size el ∧ (Builtin.zeroCells z.cells k).size = k * C.size el ∧ ∀ j, j < k * C.size el → ((Builtin.zeroCells z.cells k).getD j undef).oneCell' = true := by
  obtain ⟨i', z', hi', h1, _, hz', hzz, _⟩ := ty_info hC hty
  rw [hi] at hi'; cases hi'
  rw [hz] at hz'; cases hz'
  obtain ⟨hz1, hz2⟩ := hzz ha
  have hs : C.size el = ty.size := by simp [Ctx.size, hty]
  obtain ⟨hl, hc⟩ := zerosAre_ok (e := ⟨0, fun _ => 0, fun _ => 0, fun _ => 0⟩) (F := fun _ => none) hz1
  have hzs : z.cells.size = C.size el := by simp at hl; omega
  refine ⟨hzs, by rw [size_zeroCells, hzs], fun j hj => ?_⟩
  have hpos : 0 < C.size el := by
    rcases Nat.eq_zero_or_pos (C.size el) with h | h
    · rw [h] at hj; simp at hj
    · exact h
  have hlt : j % C.size el < ty.zero.length := by rw [hz2, ← hs]; exact Nat.mod_lt _ hpos
  have := (hc (j % C.size el) ty.zero[j % C.size el] (List.getElem?_eq_getElem hlt)).2.1
  rw [getD_toList] at this
  have e1 : (Builtin.zeroCells z.cells k).getD j undef = z.cells.getD (j % C.size el) undef := by
    simp [Builtin.zeroCells, hzs, hj, Nat.mod_lt _ hpos]
  rwa [e1]

theorem Rows.append (hC : Ok C P) {t : Nat} (hf : full C t = true) {l ys : List (C.E t)} {olds news : List Value} (ho : olds.length = l.length * C.size t) (rest : List Value)
    (h1 : ∀ (i : Nat) (x : C.E t) (j : Nat) (c : AV C.E), l[i]? = some x → (C.enc t x)[j]? = some c → RV C e F c (olds.getD (i * C.size t + j) undef)) (hn : news.length = ys.length * C.size t)
    (h2 : ∀ (i : Nat) (x : C.E t) (j : Nat) (c : AV C.E), ys[i]? = some x → (C.enc t x)[j]? = some c → RV C e F c (news.getD (i * C.size t + j) undef)) :
    Rows e F t (l ++ ys) (olds ++ news ++ rest).toArray := by
  intro i x j c hi hj
  have hjs : j < C.size t := by rw [← (full_ok hC hf x).1]; exact (List.getElem?_eq_some_iff.mp hj).1
  rw [Array.getD_eq_getD_getElem?, List.getElem?_toArray]
  by_cases hil : i < l.length
  · rw [List.getElem?_append_left hil] at hi
    have hmul : (i + 1) * C.size t ≤ l.length * C.size t := Nat.mul_le_mul_right _ hil
    rw [Nat.add_mul] at hmul
    rw [List.append_assoc, List.getElem?_append_left (by omega)]
    exact h1 i x j c hi hj
  · rw [List.getElem?_append_right (by omega)] at hi
    have hiy : i - l.length < ys.length := (List.getElem?_eq_some_iff.mp hi).1
    have hmul : (i - l.length + 1) * C.size t ≤ ys.length * C.size t := Nat.mul_le_mul_right _ hiy
    rw [Nat.add_mul] at hmul
    have hge : l.length * C.size t ≤ i * C.size t := Nat.mul_le_mul_right _ (by omega)
    have hsub : (i - l.length) * C.size t = i * C.size t - l.length * C.size t := Nat.sub_mul _ _ _
    rw [List.append_assoc, List.getElem?_append_right (by omega), List.getElem?_append_left (by omega)]
    have := h2 (i - l.length) x j c hi hj
    rw [show i * C.size t + j - olds.length = (i - l.length) * C.size t + j by omega]
    exact this

/-- what append makes where there is no room: a new row -/
theorem append_grow (hC : Ok C P) (H : RH e F X h w) {xt yt el : Nat} (he : elemOf C xt = some el) {ty : Ty C.E} (hty : C.ty el = some ty) (ha : isArr ty.k = false) (hf : full C el = true) {ys : List (C.E el)} {y : Value} {news : List Value}
    (hsrc : Srcs P e F el yt ys y w news) {l : List (C.E el)} {ad : Option Addr} {cap : Nat} {olds : List Value} (hol : olds.length = l.length * C.size el)
    (hold : ∀ w' : World, (∀ a, w'.cell? a = w.cell? a) → (Builtin.firstCells (C.size el) l.length (.slice ad l.length cap)).run P w' = .ok olds.toArray w') (ho1 : ∀ u ∈ olds, u.oneCell' = true)
    (hrows : ∀ (i : Nat) (x : C.E el) (j : Nat) (c : AV C.E), l[i]? = some x → (C.enc el x)[j]? = some c → RV C e F c (olds.getD (i * C.size el + j) undef))
    (hg : cap < l.length + ys.length) (hroom : roomOk (l.length + ys.length) ty.bytes) (hb0 : ty.bytes ≠ 0) (ot : Nat) :
    ∃ rv w', (Builtin.append_ #[xt, yt] ot #[.slice ad l.length cap, y]).run P w = .ok rv w' ∧ Post e F X w (.own el h.length) (h ++ [.arr el (l ++ ys) false]) rv w' := by
  obtain ⟨hu, _, ty', i, z, hty', hi, hsz, hby, hz, _, _⟩ := elemOf_ok (w := w) hC he
  rw [hty] at hty'; cases hty'
  have hb : (l.length + ys.length) * i.bytes ≤ 140737488355328 := by unfold roomOk at hroom; rw [hby]; omega
  have hN : l.length + ys.length ≤ 17592186044416 := by
    unfold roomOk at hroom
    have : (l.length + ys.length) * 1 ≤ (l.length + ys.length) * ty.bytes := Nat.mul_le_mul_left _ (by omega)
    omega
  have hr := run_append_grow_src (P := P) w xt yt ot el i z hu hi hz ad l.length cap olds (by rw [hsz]; exact hold w.drew fun _ => rfl) y ys.length news (by rw [hsz]; exact hsrc.src) hg (by omega) (growslice_fits hg hb)
  have hcapge : l.length + ys.length ≤ grownCap w (l.length + ys.length) cap el := by simp [grownCap, Question.cut]
  obtain ⟨hzs, hzc, hzo⟩ := zeroCells_ok hC hty hi hz ha (grownCap w (l.length + ys.length) cap el - (l.length + ys.length))
  have hnl : news.length = ys.length * C.size el := hsrc.src.newsLen
  refine ⟨_, _, hr, ?_⟩
  have harr : ((olds ++ news).toArray ++ Builtin.zeroCells z.cells (grownCap w (l.length + ys.length) cap el - (l.length + ys.length))) = (olds ++ news ++ (Builtin.zeroCells z.cells (grownCap w (l.length + ys.length) cap el - (l.length + ys.length))).toList).toArray := by
    apply Array.ext'; simp
  rw [harr]
  have hsize : (olds ++ news ++ (Builtin.zeroCells z.cells (grownCap w (l.length + ys.length) cap el - (l.length + ys.length))).toList).toArray.size = grownCap w (l.length + ys.length) cap el * C.size el := by
    simp only [List.size_toArray, List.length_append, hol, hnl, Array.length_toList, hzc]
    rw [← Nat.add_mul, ← Nat.add_mul]
    congr 1
    omega
  have := post_row H (w1 := w.drew) ⟨rfl, rfl, rfl, Nat.le_refl _⟩ rfl el (l ++ ys) _ el (grownCap w (l.length + ys.length) cap el) hsize (by simp; omega) (fun j hj => ?_) (Rows.append hC hf hol _ hrows hnl hsrc.rows)
  · rw [List.length_append] at this; exact this
  · rw [← getD_toList]
    have hjl : j < (olds ++ news ++ (Builtin.zeroCells z.cells (grownCap w (l.length + ys.length) cap el - (l.length + ys.length))).toList).length := by simpa using hj
    have hmem := getD_mem hjl
    simp only [List.mem_append] at hmem
    rcases hmem with (hm | hm) | hm
    · exact ho1 _ hm
    · exact hsrc.src.one _ hm
    · obtain ⟨k, hk, hke⟩ := List.mem_iff_getElem.mp hm
      simp only at hke ⊢
      rw [← hke]
      have hk' : k < (Builtin.zeroCells z.cells (grownCap w (l.length + ys.length) cap el - (l.length + ys.length))).size := by simpa using hk
      have := hzo k (by rw [← hzc]; exact hk')
      simpa [Array.getD_eq_getD_getElem?, hk'] using this


/-- append where there is room: the old row, written on -/
theorem append_room (hC : Ok C P) (H : RH e F X h w) {xt yt el : Nat} (he : elemOf C xt = some el) (hf : full C el = true) {ys : List (C.E el)} {y : Value} {news : List Value}
    (hsrc : Srcs P e F el yt ys y w news) {id : Nat} {l : List (C.E el)} (hb : h[id]? = some (.arr el l false)) {n c : Nat} {ad : Option Addr} (hn : n ≤ l.length) (hc : c ≤ e.cap id) (had : c ≠ 0 → ad = some ⟨e.ρ id, 0, none⟩)
    (hroom : n + ys.length ≤ c) (hpos : 0 < c) (ot : Nat) :
    ∃ rv w', (Builtin.append_ #[xt, yt] ot #[.slice ad n c, y]).run P w = .ok rv w' ∧ Post e F X w (.own el h.length) (h.set id .dead ++ [.arr el (l.take n ++ ys) false]) rv w' := by
  obtain ⟨hu, _, ty', i, z, hty', hi, hsz, hby, hz, _, _⟩ := elemOf_ok (w := w) hC he
  have hcap : e.cap id ≠ 0 := by omega
  obtain ⟨h0, ⟨h1, _⟩ | ⟨arr, elr, h1, h2, h3, h4, h5, h6, h7⟩⟩ := H.blk id _ hb
  · exact absurd h1 hcap
  · have hlive : Live e h id := by unfold Live; rw [hb]; exact hcap
    have hnl : news.length = ys.length * C.size el := hsrc.src.newsLen
    have hfit : n * C.size el + news.length ≤ arr.size := by
      rw [hnl, h4, ← Nat.add_mul]; exact Nat.mul_le_mul_right _ (by omega)
    rw [had (by omega)]
    have hcell : ∀ j, j < news.length → w.cell? ⟨e.ρ id, 0 + n * i.size + j, none⟩ = some (arr.getD (n * C.size el + j) undef) := by
      intro j hj
      rw [hsz, Nat.zero_add]
      exact cell_of_heap h1 (by omega)
    have hst := run_storeCells_at P (e.ρ id) (n * C.size el) elr news 0 arr w h1 (by simpa using hfit) hsrc.src.one
    simp only [Nat.add_zero] at hst
    have hrun : (Builtin.append_ #[xt, yt] ot #[.slice (some ⟨e.ρ id, 0, none⟩) n c, y]).run P w = .ok (.slice (some ⟨e.ρ id, 0, none⟩) (n + ys.length) c) (w.setRow (e.ρ id) (wrote arr (n * C.size el) news)) := by
      rcases hsrc.src.kind with ⟨e', hk⟩ | hk <;>
        simp [Builtin.append_, run_underlying hu, run_underlying hk, sizeOf, typeInfo, hi, hsrc.src.len, hroom, hsz, hsrc.src.cells, Addr.add_lit, hst, wrote]
    refine ⟨_, _, hrun, ?_⟩
    have hK := H.kill id
    have hnotlive : ¬ Live e (h.set id .dead) id := by
      unfold Live
      have := lt_of_live hlive
      rw [List.getElem?_set_self this]
      exact fun hf => hf
    have hX : X (e.ρ id) = none := H.mine id hlive (fun ⟨t, l, hf⟩ => by rw [hb] at hf; cases hf)
    have hlen : (h.set id .dead).length = h.length := List.length_set
    have hnew : RB (e.add (e.ρ id) (n + ys.length) (e.cap id)) F (h.set id .dead).length (w.setRow (e.ρ id) (wrote arr (n * C.size el) news)).heap[e.ρ id]? (.arr el (l.take n ++ ys) false) := by
      rw [setRow_heap w _ arr _ elr _ h1, hlen, ← H.sz]
      have htk : (l.take n).length = n := by simp; omega
      refine ⟨by rw [Env.add_len]; simp; omega, .inr ⟨wrote arr (n * C.size el) news, elr, rfl, fun _ => by rw [Env.add_ρ]; exact h2 rfl, by simp, by rw [Env.add_cap, wrote_size hfit, h4], by rw [Env.add_cap]; simp; omega, fun j hj => ?_, ?_⟩⟩
      · rw [wrote_size hfit] at hj
        rw [wrote_getD hfit]
        by_cases hjj : n * C.size el ≤ j ∧ j < n * C.size el + news.length
        · rw [if_pos hjj]; exact hsrc.src.one _ (getD_mem (by omega))
        · rw [if_neg hjj]; exact h6 j hj
      · have hold : ((arr.toList.take (n * C.size el))).length = (l.take n).length * C.size el := by rw [htk]; simp; omega
        refine (Rows.append hC hf hold (arr.toList.drop (n * C.size el + news.length)) (fun i x j c hi hj => ?_) hnl hsrc.rows).mono (Env.le_add _ _ _ _) (FLe.refl F)
        have hin : i < n := by have := (List.getElem?_eq_some_iff.mp hi).1; omega
        rw [List.getElem?_take_of_lt hin] at hi
        have hjs : j < C.size el := by rw [← (full_ok hC hf x).1]; exact (List.getElem?_eq_some_iff.mp hj).1
        have hmul : (i + 1) * C.size el ≤ n * C.size el := Nat.mul_le_mul_right _ hin
        rw [Nat.add_mul] at hmul
        have := h7 i x j c hi hj
        have hlt : i * C.size el + j < n * C.size el := by omega
        simpa [List.getD, hlt, Array.getD_eq_getD_getElem?] using this
    have hpush := hK.push (w' := w.setRow (e.ρ id) (wrote arr (n * C.size el) news)) (.arr el (l.take n ++ ys) false) (e.ρ id) (n + ys.length) (e.cap id) (fun k _ hk => setRow_other w _ k _ hk)
      (fun j hj => by
        by_cases hji : j = id
        · subst hji; exact absurd hj hnotlive
        · have hj' : Live e h j := by unfold Live at hj ⊢; rwa [List.getElem?_set_ne (Ne.symm hji)] at hj
          exact H.inj j id hji hj' hlive fun ⟨_, t', l', g⟩ => by rw [hb] at g; cases g) (h2 rfl) hX hnew
    refine ⟨_, F, Env.le_add _ _ _ _, FLe.refl F, ?_, hpush, Ext.setRow _ _⟩
    have := RV.own (C := C) (e := e.add (e.ρ id) (n + ys.length) (e.cap id)) (F := F) el h.length (some ⟨e.ρ id, 0, none⟩) c (by simp [H.sz]) (by rw [← H.sz, Env.add_len]; exact hroom) (by rw [← H.sz, Env.add_cap]; exact hc) (fun _ => by rw [← H.sz, Env.add_ρ])
    rwa [← H.sz, Env.add_len, H.sz] at this

/-- append of nothing to nothing -/
theorem append_none (hC : Ok C P) (H : RH e F X h w) {xt yt el : Nat} (he : elemOf C xt = some el) {y : Value} (hsrc : Srcs (C := C) P e F el yt ([] : List (C.E el)) y w []) {ad : Option Addr} {c : Nat} (hc : c = 0) (id : Option Nat) (ot : Nat) :
    ∃ rv w', (Builtin.append_ #[xt, yt] ot #[.slice ad 0 c, y]).run P w = .ok rv w' ∧ Post e F X w (.own el h.length) ((match id with | some i => h.set i .dead | none => h) ++ [.arr el [] false]) rv w' := by
  obtain ⟨hu, _, ty', i, z, hty', hi, hsz, hby, hz, _, _⟩ := elemOf_ok (w := w) hC he
  have hrun : (Builtin.append_ #[xt, yt] ot #[.slice ad 0 c, y]).run P w = .ok (.slice ad 0 c) w := by
    have hcells := hsrc.src.cells
    have hlen := hsrc.src.len
    simp only [List.length_nil] at hcells hlen
    rcases hsrc.src.kind with ⟨e', hk⟩ | hk <;> cases ad <;>
      simp [Builtin.append_, run_underlying hu, run_underlying hk, sizeOf, typeInfo, hi, hlen, hsz, hcells, storeCells]
  refine ⟨_, _, hrun, ?_⟩
  have hK : RH e F X (match id with | some i => h.set i .dead | none => h) w := by cases id with
    | none => exact H
    | some i => exact H.kill i
  have hlen : (match id with | some i => h.set i .dead | none => h).length = h.length := by cases id <;> simp
  generalize (match id with | some i => h.set i (.dead : Blk C.E) | none => h) = h1 at hK hlen
  have hpush := hK.push (w' := w) (.arr el [] false) w.heap.size 0 0 (fun k _ _ => rfl) (fun j hj => by have := ρ_lt hK hj; omega) (F_new H).1 (F_new H).2
    ⟨by rw [← hK.sz, Env.add_len]; rfl, .inl ⟨by rw [← hK.sz, Env.add_cap], rfl⟩⟩
  refine ⟨_, F, Env.le_add _ _ _ _, FLe.refl F, ?_, hpush, Ext.refl w⟩
  have := RV.own (C := C) (e := e.add w.heap.size 0 0) (F := F) el h.length ad c (by simp [H.sz]) (by rw [← H.sz, Env.add_len]; omega) (by rw [← H.sz, Env.add_cap]; omega) (fun h => absurd hc h)
  rwa [← H.sz, Env.add_len, H.sz] at this

end
end Go.Proofs.Ytgplkdcibahofaa.Ev
