/-
  Each operation of the evaluator does what the machine's does: indexes, cuts, lengths. No program is named here.
-/
import Derived.Test.YtgplkdcibahofaaEvOps3
namespace Go.Proofs.Ytgplkdcibahofaa.Ev
open Go

section
variable {C : Ctx} {P : Program} {e : Env} {F X : FH} {h : List (Blk C.E)} {w : World} {sl : Tr C.E} {a : Act} {o : Oper}

theorem elemOf_ok (hC : Ok C P) {t el : Nat} (h : elemOf C t = some el) : P.underlying t = some (.slice el) ∧ (sizeOf el).run P w = .ok (C.size el) w ∧ ∃ ty i z, C.ty el = some ty ∧ P.info? el = some i ∧ i.size = C.size el ∧ i.bytes = ty.bytes ∧ i.zero = some z ∧
    (isArr ty.k = false → zerosAre ty.zero z.cells.toList = true ∧ ty.zero.length = ty.size) ∧ C.size el = ty.size := by
  unfold elemOf at h
  split at h
  · rename_i ty hty
    obtain ⟨_, _, _, _, _, _, _, hu⟩ := ty_info hC hty
    split at h
    · rename_i el' hk
      rw [hk] at hu
      simp only [undOk] at hu
      split at h
      · rename_i ety hety
        simp at h; subst h
        obtain ⟨i, z, hi, h1, h2, h3, h4, _⟩ := ty_info hC hety
        have hs : C.size el' = ety.size := by simp [Ctx.size, hety]
        split at hu
        · rename_i el'' hg
          simp at hu; subst hu
          exact ⟨hg, by simp [sizeOf, run_typeInfo w hi, h1, hs], ety, i, z, hety, hi, by rw [h1, hs], h2, h3, h4, hs⟩
        · cases hu
      · cases h
    · cases h
  · cases h

theorem arrOf_ok (hC : Ok C P) {t n el : Nat} (h : arrOf C t = some (n, el)) : P.underlying t = some (.array n el) ∧ (sizeOf el).run P w = .ok (C.size el) w := by
  unfold arrOf at h
  split at h
  · rename_i ty hty
    obtain ⟨_, _, _, _, _, _, _, hu⟩ := ty_info hC hty
    split at h
    · rename_i n' el' hk
      rw [hk] at hu
      simp only [undOk] at hu
      split at h
      · rename_i ety hety
        simp at h; obtain ⟨rfl, rfl⟩ := h
        obtain ⟨i, z, hi, h1, h2, h3, h4, _⟩ := ty_info hC hety
        have hs : C.size el' = ety.size := by simp [Ctx.size, hety]
        split at hu
        · rename_i n'' el'' hg
          simp at hu; obtain ⟨rfl, rfl⟩ := hu
          exact ⟨hg, by simp [sizeOf, run_typeInfo w hi, h1, hs]⟩
        · cases hu
      · cases h
    · cases h
  · cases h

/-- the machine's cells of an element of a row that is only read -/
theorem sl_elem {t : Nat} {l : List (C.E t)} {v : Value} (hv : RV C e F (.sl t l) v) {i : Nat} (hi : i < l.length) :
    ∃ b o c, v = .slice (some ⟨b, o, none⟩) l.length c ∧ RV C e F (.rptr t (l.getD i (C.z t)) 0) (.pointer (some ⟨b, o + i * C.size t, none⟩)) := by
  cases hv with
  | sl _ _ ad c b o vs hc ha h1 h2 =>
    have hne : l ≠ [] := by intro h0; subst h0; simp at hi
    refine ⟨b, o, c, by rw [ha hne], ?_⟩
    have hx : l[i]? = some (l.getD i (C.z t)) := by simp [hi]
    have := RV.rptr (C := C) (e := e) (F := F) t (l.getD i (C.z t)) 0 b (o + i * C.size t) (vs i) (fun j cc hj => h1 i _ j cc hx hj) (fun j cc hj => h2 i _ j cc hx hj)
    simpa using this

theorem asIntOf_int {k : IntKind} {i : Int} : (asIntOf (.int k i)).run P w = .ok (k, i) w := rfl

theorem own_addr {t id : Nat} {l : List (C.E t)} {fro : Bool} (H : RH e F X h w) {v : Value} (hv : RV C e F (.own t id) v) (hb : h[id]? = some (.arr t l fro)) (hne : l ≠ []) :
    ∃ c, v = .slice (some ⟨e.ρ id, 0, none⟩) l.length c ∧ l.length ≤ c ∧ c ≤ e.cap id := by
  cases hv with
  | own _ _ ad c h0 h1 h2 h3 =>
    obtain ⟨h4, _⟩ := H.blk id _ hb
    have hpos : 0 < l.length := List.length_pos_iff.mpr hne
    exact ⟨c, by rw [h3 (by omega), h4], by omega, h2⟩

/-- what is only read, of exact capacity, is what is only read -/
theorem RV.tsl_sl {t : Nat} {l : List (C.E t)} {v : Value} (hv : RV C e F (.tsl t l) v) : RV C e F (.sl t l) v := by
  cases hv with
  | tsl _ _ a b o vs ha h h2 => exact .sl t l a l.length b o vs (Nat.le_refl _) ha h h2

theorem len_le_cap (H : RH e F X h w) {t id : Nat} {l : List (C.E t)} {fro : Bool} (hb : h[id]? = some (.arr t l fro)) : e.len id = l.length ∧ e.len id ≤ e.cap id := by
  obtain ⟨h0, ⟨h1, h2⟩ | ⟨_, _, _, _, _, _, h5, _⟩⟩ := H.blk id _ hb
  · exact ⟨h0, by rw [h0, h2]; simp⟩
  · exact ⟨h0, by rw [h0]; exact h5⟩

theorem RV.viewc_view (H : RH e F X h w) {t t' id lo n c : Nat} {l : List (C.E t')} {fro : Bool} (hb : h[id]? = some (.arr t' l fro)) {v : Value} (hv : RV C e F (.viewc t id lo n c) v) : RV C e F (.view t id lo n) v := by
  obtain ⟨g1, g2⟩ := len_le_cap H hb
  cases hv with
  | viewc _ _ _ _ _ a h0 h1 h2 h3 => exact .view t id lo n a c h0 h1 (by omega) h3 (by omega)

theorem indexAddr_ok0 (hC : Ok C P) (H : RH e F X h w) {t el : Nat} (he : elemOf C t = some el) {x : AV C.E} {v : Value} (hx : RV C e F x v) {k : IntKind} {i : Int} (hn1 : ∀ t id lo n c, x ≠ .viewc t id lo n c) (hn2 : ∀ t l, x ≠ .tsl t l) :
    VOk P w e F (Instr.indexAt t v (.int k i)) (indexAddrOp C h el x i) := by
  obtain ⟨hu, hs, _⟩ := elemOf_ok (w := w) hC he
  have key : ∀ (ad : Addr) (n c : Nat), (0 ≤ i ∧ i < (n : Int)) → (Instr.indexAt t (.slice (some ad) n c) (.int k i)).run P w = .ok (.pointer (some (ad.add (i.toNat * C.size el)))) w := by
    intro ad n c hi
    simp [Instr.indexAt, asIntOf_int, run_underlying hu, hi, hs]
  unfold indexAddrOp
  split
  · rename_i t' l
    split
    · rename_i ht
      obtain rfl := Nat.eq_of_beq_eq_true ht
      intro hp
      have hi : i.toNat < l.length := by omega
      obtain ⟨b, o, c, rfl, hr⟩ := sl_elem hx hi
      exact ⟨_, by rw [key _ _ _ hp, add_off], hr⟩
    · trivial
  · rename_i t' id
    split
    · rename_i t'' l fro ht hb
      obtain rfl := Nat.eq_of_beq_eq_true ht
      split
      · rename_i ht'
        obtain rfl := Nat.eq_of_beq_eq_true ht'
        intro hp
        have hne : l ≠ [] := by intro h0; subst h0; simp at hp; omega
        have h0 : id < e.sz := by cases hx; assumption
        obtain ⟨c, rfl, _, _⟩ := own_addr H hx hb hne
        obtain ⟨h4, _⟩ := H.blk id _ hb
        exact ⟨_, by rw [key _ _ _ hp, add_off, Nat.zero_add]; rfl, .eptr t'' id i.toNat 0 h0 (by omega)⟩
      · trivial
    · trivial
  · rename_i t' id lo n
    split
    · rename_i t'' l fro ht hb
      obtain rfl := Nat.eq_of_beq_eq_true ht
      split
      · rename_i ht'
        obtain rfl := Nat.eq_of_beq_eq_true ht'
        intro hp
        obtain ⟨h4, _⟩ := H.blk id _ hb
        cases hx with
        | view _ _ _ _ ad c h0 h1 h2 h3 h5 =>
          have := h3 (by omega)
          subst this
          exact ⟨_, by rw [key _ _ _ hp, add_off, ← Nat.add_mul]; rfl, RV.eptr (C := C) (e := e) (F := F) t'' id (lo + i.toNat) 0 h0 (by omega)⟩
      · trivial
    · trivial
  · exact absurd rfl (hn1 _ _ _ _ _)
  · exact absurd rfl (hn2 _ _)
  · trivial

theorem indexAddr_ok (hC : Ok C P) (H : RH e F X h w) {t el : Nat} (he : elemOf C t = some el) {x : AV C.E} {v : Value} (hx : RV C e F x v) {k : IntKind} {i : Int} :
    VOk P w e F (Instr.indexAt t v (.int k i)) (indexAddrOp C h el x i) := by
  by_cases h1 : (∃ t id lo n c, x = .viewc t id lo n c)
  · obtain ⟨t', id, lo, n, c, rfl⟩ := h1
    show VOk P w e F _ (indexAddrOp C h el (.view t' id lo n) i)
    cases hb : h[id]? with
    | none => simp only [indexAddrOp, hb]; split <;> trivial
    | some b => cases b with
      | arr t'' l fro => exact indexAddr_ok0 hC H he (hx.viewc_view H hb) (fun _ _ _ _ _ hh => by cases hh) (fun _ _ hh => by cases hh)
      | _ => simp only [indexAddrOp, hb]; split <;> first | trivial | (rename_i hh; cases hh)
  · by_cases h2 : (∃ t l, x = .tsl t l)
    · obtain ⟨t', l, rfl⟩ := h2
      exact indexAddr_ok0 (x := .sl t' l) hC H he hx.tsl_sl (fun _ _ _ _ _ hh => by cases hh) (fun _ _ hh => by cases hh)
    · exact indexAddr_ok0 hC H he hx (fun t id lo n c hh => h1 ⟨t, id, lo, n, c, hh⟩) (fun t l hh => h2 ⟨t, l, hh⟩)

theorem arrAddr_ok (hC : Ok C P) (H : RH e F X h w) {t n el : Nat} (he : arrOf C t = some (n, el)) {x : AV C.E} {v : Value} (hx : RV C e F x v) {k : IntKind} {i : Int} :
    VOk P w e F (Instr.indexAt t v (.int k i)) (arrAddrOp C h n el x i) := by
  obtain ⟨hu, hs⟩ := arrOf_ok (w := w) hC he
  unfold arrAddrOp
  split
  · rename_i id off
    split
    · rename_i t' l fro hb
      split
      · rename_i ht
        obtain rfl := Nat.eq_of_beq_eq_true ht
        intro hp
        obtain ⟨h4, _⟩ := H.blk id _ hb
        cases hx with
        | ptr _ _ h0 =>
          refine ⟨_, ?_, .eptr t' id i.toNat 0 h0 (by omega)⟩
          simp [Instr.indexAt, asIntOf_int, run_underlying hu, hs, Instr.sureAddr, hp.1, hp.2.1, add_off]
      · trivial
    · trivial
  · trivial


/-! cuts -/
def OV (e : Env) (F : FH) : Option (AV C.E) → Option Value → Prop
  | none, none => True
  | some x, some v => RV C e F x v
  | _, _ => False

def CutOk (P : Program) (w : World) (s : Bool) (n c : Nat) (vlo vhi : Option Value) (lo hi : Option (AV C.E)) (whole : AV C.E) (part : Nat → Nat → AV C.E) : OpR C.E → Prop
  | .val v => v = whole ∧ lo = none ∧ hi = none ∧ (Instr.sliceBounds s n c vlo vhi none).run P w = .ok (0, n, c) w
  | .chk p v => p → ∃ a b, v = part a b ∧ a ≤ b ∧ b ≤ n ∧ (lo = none → a = 0) ∧ (hi = none → b = n) ∧ (lo = none → hi ≠ none) ∧ (Instr.sliceBounds s n c vlo vhi none).run P w = .ok (a, b, c) w
  | .no => True
  | _ => False

theorem bounds_ok {n c : Nat} (hc : n ≤ c) {s : Bool} {lo hi : Option (AV C.E)} {vlo vhi : Option Value} (hl : OV e F lo vlo) (hh : OV e F hi vhi) (whole : AV C.E) (part : Nat → Nat → AV C.E) :
    CutOk P w s n c vlo vhi lo hi whole part (cutOf n whole part lo hi) := by
  unfold cutOf
  split
  · cases vlo <;> cases vhi <;> simp [OV] at hl hh
    exact ⟨rfl, rfl, rfl, by simp [Instr.sliceBounds]⟩
  · rename_i k i
    cases vlo <;> cases vhi <;> simp [OV] at hl hh
    intro hp
    obtain rfl := hl.int_inv
    exact ⟨_, _, rfl, by omega, Nat.le_refl _, by simp, by simp, by simp, by simp [Instr.sliceBounds, Instr.sliceBound, asIntOf_int, hp]⟩
  · rename_i k i
    cases vlo <;> cases vhi <;> simp [OV] at hl hh
    intro hp
    obtain rfl := hh.int_inv
    have : i ≤ (c : Int) := by omega
    exact ⟨_, _, rfl, Nat.zero_le _, by omega, by simp, by simp, by simp, by simp [Instr.sliceBounds, Instr.sliceBound, asIntOf_int, hp.1, this]⟩
  · rename_i k i k' j
    cases vlo <;> cases vhi <;> simp [OV] at hl hh
    intro hp
    obtain rfl := hl.int_inv
    obtain rfl := hh.int_inv
    have h1 : j ≤ (c : Int) := by omega
    have h2 : i ≤ (j.toNat : Int) := by omega
    have h2' : i ≤ max j 0 := by omega
    exact ⟨_, _, rfl, by omega, by omega, by simp, by simp, by simp, by simp [Instr.sliceBounds, Instr.sliceBound, asIntOf_int, hp.1.1, hp.2.1, h1, h2']⟩
  · trivial


theorem sliceAt_slice {t el : Nat} (hu : P.underlying t = some (.slice el)) {v : Value} {lo hi : Option Value} : (Instr.sliceAt t v lo hi none).run P w = (Instr.slice t v lo hi none).run P w := by
  simp [Instr.sliceAt, run_underlying hu]

theorem slice_ok0 (hC : Ok C P) (H : RH e F X h w) {t el : Nat} (he : elemOf C t = some el) {x : AV C.E} {v : Value} (hx : RV C e F x v) {lo hi : Option (AV C.E)} {vlo vhi : Option Value}
    (hl : OV e F lo vlo) (hh : OV e F hi vhi) (hn1 : ∀ t id lo n c, x ≠ .viewc t id lo n c) (hn2 : ∀ t l, x ≠ .tsl t l) : VOk P w e F (Instr.sliceAt t v vlo vhi none) (sliceOp C h el x lo hi) := by
  obtain ⟨hu, hs, _⟩ := elemOf_ok (w := w) hC he
  have key : ∀ (ad : Option Addr) (n c a b m : Nat), (Instr.sliceBounds true n c vlo vhi none).run P w = .ok (a, b, m) w →
      (Instr.sliceAt t (.slice ad n c) vlo vhi none).run P w = .ok (.slice (if m = a then ad else ad.map (·.add (a * C.size el))) (b - a) (m - a)) w := by
    intro ad n c a b m hb
    rw [sliceAt_slice hu]
    simp [Instr.slice, run_underlying hu, hb, hs]
  unfold sliceOp
  split
  · rename_i t' l
    split
    · rename_i ht
      obtain rfl := Nat.eq_of_beq_eq_true ht
      cases hx with
      | sl _ _ ad c b o vs hc ha h1 h2 =>
        have hb := bounds_ok (P := P) (w := w) hc (s := true) hl hh (.sl t' l) (fun a b => .sl t' (cutL lo hi l a b))
        revert hb
        generalize cutOf l.length (.sl t' l) _ lo hi = R
        intro hb
        cases R with
        | no => trivial
        | val u =>
          obtain ⟨rfl, _, _, hb⟩ := hb
          refine ⟨_, key _ _ _ _ _ _ hb, ?_⟩
          have hsame : (if c = 0 then ad else ad.map (·.add (0 * C.size t'))) = ad := by
            split
            · rfl
            · cases ad with
              | none => rfl
              | some x => simp [Addr.add]
          rw [hsame]
          exact .sl t' l ad c b o vs hc ha h1 h2
        | chk p u =>
          intro hp
          obtain ⟨i, j, rfl, hij, hj, hlo, hhi, hlh, hb⟩ := hb hp
          refine ⟨_, key _ _ _ _ _ _ hb, ?_⟩
          have hl' : cutL lo hi l i j = (l.take j).drop i := by
            cases lo with
            | none => rw [hlo rfl]; simp [cutL]
            | some x => cases hi with
              | none => rw [hhi rfl]; simp [cutL]
              | some y => rfl
          show RV C e F (.sl t' (cutL lo hi l i j)) _
          rw [hl']
          have hlen : ((l.take j).drop i).length = j - i := by simp; omega
          have hget : ∀ (k : Nat) (x : C.E t'), ((l.take j).drop i)[k]? = some x → l[i + k]? = some x := by
            intro k x hk
            rw [List.getElem?_drop] at hk
            have : i + k < j := by have := (List.getElem?_eq_some_iff.mp hk).1; simp at this; omega
            rwa [List.getElem?_take_of_lt this] at hk
          rw [← hlen]
          refine .sl t' _ _ _ b (o + i * C.size t') (fun k => vs (i + k)) (by omega) (fun hne => ?_) (fun k x jj cc hk hj => ?_) (fun k x jj cc hk hj => h2 (i + k) x jj cc (hget k x hk) hj)
          · have hji : i < j := by
              have := List.length_pos_iff.mpr hne
              omega
            have hl0 : l ≠ [] := by intro h0; subst h0; simp at hj; omega
            rw [if_neg (by omega), ha hl0]
            simp [add_off]
          · have := h1 (i + k) x jj cc (hget k x hk) hj
            rw [Nat.add_mul] at this
            rwa [show o + i * C.size t' + k * C.size t' + jj = o + (i * C.size t' + k * C.size t') + jj by omega]
        | mem u h' => exact hb.elim
        | chm p u h' => exact hb.elim
        | anyB q => exact hb.elim
    · trivial
  · rename_i t' id
    split
    · rename_i t'' l fro ht hbk
      obtain rfl := Nat.eq_of_beq_eq_true ht
      split
      · rename_i ht'
        obtain rfl := Nat.eq_of_beq_eq_true ht'
        obtain ⟨h4, _⟩ := H.blk id _ hbk
        cases hx with
        | own _ _ ad c hid h1 h2 h3 =>
          have hb := bounds_ok (P := P) (w := w) (n := l.length) (c := c) (by omega) (s := true) hl hh (.own t'' id) (fun a b => .view t'' id a (b - a))
          revert hb
          generalize cutOf l.length (.own t'' id) _ lo hi = R
          intro hb
          rw [h4]
          cases R with
          | no => trivial
          | val u =>
            obtain ⟨rfl, _, _, hb⟩ := hb
            refine ⟨_, key _ _ _ _ _ _ hb, ?_⟩
            have hsame : (if c = 0 then ad else ad.map (·.add (0 * C.size t''))) = ad := by
              split
              · rfl
              · cases ad with
                | none => rfl
                | some x => simp [Addr.add]
            rw [hsame, Nat.sub_zero, Nat.sub_zero, ← h4]
            exact .own t'' id ad c hid h1 h2 h3
          | chk p u =>
            intro hp
            obtain ⟨i, j, rfl, hij, hj, hlo, hhi, hlh, hb⟩ := hb hp
            refine ⟨_, key _ _ _ _ _ _ hb, .view t'' id i (j - i) _ (c - i) hid (by omega) (by omega) (fun hne => ?_) (by omega)⟩
            rw [if_neg (by omega), h3 (by omega)]
            simp [add_off]
          | mem u h' => exact hb.elim
          | chm p u h' => exact hb.elim
          | anyB q => exact hb.elim
      · trivial
    · trivial
  · rename_i t' id lo0 n
    split
    · rename_i ht
      obtain rfl := Nat.eq_of_beq_eq_true ht
      cases hx with
      | view _ _ _ _ ad c hid h1 h2 h3 h5 =>
        have hb := bounds_ok (P := P) (w := w) (n := n) (c := c) h1 (s := true) hl hh (.view t' id lo0 n) (fun a b => .view t' id (lo0 + a) (b - a))
        revert hb
        generalize cutOf n (.view t' id lo0 n) _ lo hi = R
        intro hb
        cases R with
        | no => trivial
        | val u =>
          obtain ⟨rfl, _, _, hb⟩ := hb
          refine ⟨_, key _ _ _ _ _ _ hb, ?_⟩
          have hsame : (if c = 0 then ad else ad.map (·.add (0 * C.size t'))) = ad := by
            split
            · rfl
            · cases ad with
              | none => rfl
              | some x => simp [Addr.add]
          rw [hsame, Nat.sub_zero, Nat.sub_zero]
          exact .view t' id lo0 n ad c hid h1 h2 h3 h5
        | chk p u =>
          intro hp
          obtain ⟨i, j, rfl, hij, hj, hlo, hhi, hlh, hb⟩ := hb hp
          refine ⟨_, key _ _ _ _ _ _ hb, .view t' id (lo0 + i) (j - i) _ (c - i) hid (by omega) (by omega) (fun hne => ?_) (by omega)⟩
          rw [if_neg (by omega), h3 (by omega)]
          simp [add_off, Nat.add_mul]
        | mem u h' => exact hb.elim
        | chm p u h' => exact hb.elim
        | anyB q => exact hb.elim
    · trivial
  · exact absurd rfl (hn1 _ _ _ _ _)
  · exact absurd rfl (hn2 _ _)
  · split
    · rename_i ht
      cases hx with
      | nils t' =>
        cases vlo <;> cases vhi <;> simp [OV] at hl hh
        exact ⟨_, key none 0 0 0 0 0 (by simp [Instr.sliceBounds]), .nils _⟩
    · trivial
  · trivial

theorem cutOf_whole {n : Nat} {x y : AV C.E} {f : Nat → Nat → AV C.E} {lo hi : Option (AV C.E)} (h : ¬ (lo = none ∧ hi = none)) : cutOf n x f lo hi = cutOf n y f lo hi := by
  unfold cutOf
  split <;> simp_all

def CutCOk (P : Program) (w : World) (n c : Nat) (vlo vhi : Option Value) (whole : AV C.E) (part : Nat → Nat → AV C.E) : OpR C.E → Prop
  | .val v => v = whole ∧ (Instr.sliceBounds true n c vlo vhi none).run P w = .ok (0, n, c) w
  | .chk p v => p → ∃ a b, v = part a b ∧ a ≤ b ∧ b ≤ c ∧ (Instr.sliceBounds true n c vlo vhi none).run P w = .ok (a, b, c) w
  | .no => True
  | _ => False

theorem boundsC_ok {n c : Nat} (hc : n ≤ c) {lo hi : Option (AV C.E)} {vlo vhi : Option Value} (hl : OV e F lo vlo) (hh : OV e F hi vhi) (whole : AV C.E) (part : Nat → Nat → AV C.E) :
    CutCOk P w n c vlo vhi whole part (cutC n c whole part lo hi) := by
  unfold cutC
  split
  · cases vlo <;> cases vhi <;> simp [OV] at hl hh
    exact ⟨rfl, by simp [Instr.sliceBounds]⟩
  · rename_i k i
    cases vlo <;> cases vhi <;> simp [OV] at hl hh
    intro hp
    obtain rfl := hl.int_inv
    exact ⟨_, _, rfl, by omega, hc, by simp [Instr.sliceBounds, Instr.sliceBound, asIntOf_int, hp]⟩
  · rename_i k i
    cases vlo <;> cases vhi <;> simp [OV] at hl hh
    intro hp
    obtain rfl := hh.int_inv
    exact ⟨_, _, rfl, Nat.zero_le _, by omega, by simp [Instr.sliceBounds, Instr.sliceBound, asIntOf_int, hp.1, hp.2]⟩
  · rename_i k i k' j
    cases vlo <;> cases vhi <;> simp [OV] at hl hh
    intro hp
    obtain rfl := hl.int_inv
    obtain rfl := hh.int_inv
    have h2' : i ≤ max j 0 := by omega
    exact ⟨_, _, rfl, by omega, by omega, by simp [Instr.sliceBounds, Instr.sliceBound, asIntOf_int, hp.1.1, hp.1.2, hp.2.1, h2']⟩
  · trivial

theorem run_sliceAt {t el : Nat} (hu : P.underlying t = some (.slice el)) (hs : (sizeOf el).run P w = .ok (C.size el) w) {vlo vhi vmx : Option Value} (ad : Option Addr) (n c a b m : Nat) (hb : (Instr.sliceBounds true n c vlo vhi vmx).run P w = .ok (a, b, m) w) :
    (Instr.sliceAt t (.slice ad n c) vlo vhi vmx).run P w = .ok (.slice (if m = a then ad else ad.map (·.add (a * C.size el))) (b - a) (m - a)) w := by
  simp [Instr.sliceAt, Instr.slice, run_underlying hu, hb, hs]

theorem slice_ok (hC : Ok C P) (H : RH e F X h w) {t el : Nat} (he : elemOf C t = some el) {x : AV C.E} {v : Value} (hx : RV C e F x v) {lo hi : Option (AV C.E)} {vlo vhi : Option Value}
    (hl : OV e F lo vlo) (hh : OV e F hi vhi) : VOk P w e F (Instr.sliceAt t v vlo vhi none) (sliceOp C h el x lo hi) := by
  obtain ⟨hu, hs, _⟩ := elemOf_ok (w := w) hC he
  by_cases h1 : (∃ t id lo n c, x = .viewc t id lo n c)
  · obtain ⟨t', id, lo0, n, c, rfl⟩ := h1
    simp only [sliceOp]
    split
    · rename_i ht
      obtain rfl := Nat.eq_of_beq_eq_true ht
      cases hx with
      | viewc _ _ _ _ _ ad h0 h1 h2 h3 =>
        have hb := boundsC_ok (P := P) (w := w) h1 hl hh (.viewc t' id lo0 n c) (fun a b => .viewc t' id (lo0 + a) (b - a) (c - a))
        revert hb
        generalize cutC n c (.viewc t' id lo0 n c) _ lo hi = R
        intro hb
        cases R with
        | no => trivial
        | val u =>
          obtain ⟨rfl, hb⟩ := hb
          refine ⟨_, run_sliceAt hu hs _ _ _ _ _ _ hb, ?_⟩
          have hsame : (if c = 0 then ad else ad.map (·.add (0 * C.size t'))) = ad := by
            split
            · rfl
            · cases ad with
              | none => rfl
              | some x => simp [Addr.add]
          rw [hsame, Nat.sub_zero, Nat.sub_zero]
          exact .viewc t' id lo0 n c ad h0 h1 h2 h3
        | chk p u =>
          intro hp
          obtain ⟨i, j, rfl, hij, hj, hb⟩ := hb hp
          refine ⟨_, run_sliceAt hu hs _ _ _ _ _ _ hb, .viewc t' id (lo0 + i) (j - i) (c - i) _ h0 (by omega) (by omega) (fun hne => ?_)⟩
          rw [if_neg (by omega), h3 (by omega)]
          simp [add_off, Nat.add_mul]
        | mem u h' => exact hb.elim
        | chm p u h' => exact hb.elim
        | anyB q => exact hb.elim
    · trivial
  · by_cases h2 : (∃ t l, x = .tsl t l)
    · obtain ⟨t', l, rfl⟩ := h2
      by_cases hn : lo = none ∧ hi = none
      · obtain ⟨rfl, rfl⟩ := hn
        cases vlo <;> cases vhi <;> simp [OV] at hl hh
        simp only [sliceOp]
        split
        · rename_i ht
          obtain rfl := Nat.eq_of_beq_eq_true ht
          have hx' := hx
          cases hx' with
          | tsl _ _ ad b o vs ha g1 g2 =>
            refine ⟨_, run_sliceAt hu hs ad l.length l.length 0 l.length l.length (by simp [Instr.sliceBounds]), ?_⟩
            have hsame : (if l.length = 0 then ad else ad.map (·.add (0 * C.size t'))) = ad := by
              split
              · rfl
              · cases ad with
                | none => rfl
                | some x => simp [Addr.add]
            rw [hsame, Nat.sub_zero]
            exact hx
        · trivial
      · have : sliceOp C h el (.tsl t' l) lo hi = sliceOp C h el (.sl t' l) lo hi := by
          simp only [sliceOp]
          split
          · exact cutOf_whole hn
          · rfl
        rw [this]
        exact slice_ok0 hC H he hx.tsl_sl hl hh (fun _ _ _ _ _ hh => by cases hh) (fun _ _ hh => by cases hh)
    · exact slice_ok0 hC H he hx hl hh (fun t id lo n c hh => h1 ⟨t, id, lo, n, c, hh⟩) (fun t l hh => h2 ⟨t, l, hh⟩)

/-! x[a:b:m] -/
theorem run_bounds3 {n c : Nat} {vlo : Option Value} {k k' : IntKind} {a b m : Int} (hlo : (vlo = none ∧ a = 0) ∨ ∃ k, vlo = some (.int k a)) (h1 : 0 ≤ a) (h2 : a ≤ b) (h3 : b ≤ m) (h4 : m ≤ (c : Int)) :
    (Instr.sliceBounds true n c vlo (some (.int k b)) (some (.int k' m))).run P w = .ok (a.toNat, b.toNat, m.toNat) w := by
  have g1 : b ≤ max m 0 := by omega
  have g2 : a ≤ max b 0 := by omega
  rcases hlo with ⟨rfl, rfl⟩ | ⟨k, rfl⟩
  · simp [Instr.sliceBounds, Instr.sliceBound, asIntOf_int, h4, show (0 : Int) ≤ m by omega, show (0 : Int) ≤ b by omega, g1]
  · simp [Instr.sliceBounds, Instr.sliceBound, asIntOf_int, h4, show (0 : Int) ≤ m by omega, show (0 : Int) ≤ b by omega, g1, h1, g2]

theorem cut3_ok (hC : Ok C P) (H : RH e F X h w) {t el : Nat} (he : elemOf C t = some el) {x : AV C.E} {v : Value} (hx : RV C e F x v) {vlo : Option Value} {k k' : IntKind} {a b m : Int} (hlo : (vlo = none ∧ a = 0) ∨ ∃ k, vlo = some (.int k a)) :
    VOk P w e F (Instr.sliceAt t v vlo (some (.int k b)) (some (.int k' m))) (cut3 C h el x a b m) := by
  obtain ⟨hu, hs, _⟩ := elemOf_ok (w := w) hC he
  unfold cut3
  split
  · split
    · intro hp
      obtain ⟨rfl, rfl, rfl⟩ := hp
      cases hx
      exact ⟨_, run_sliceAt hu hs _ _ _ _ _ _ (run_bounds3 hlo (Int.le_refl _) (Int.le_refl _) (Int.le_refl _) (by simp)), by simpa using RV.nils _⟩
    · trivial
  · rename_i t' l
    split
    · rename_i ht
      obtain rfl := Nat.eq_of_beq_eq_true ht
      intro hp
      obtain ⟨⟨p1, p2⟩, rfl, p4⟩ := hp
      cases hx with
      | sl _ _ ad c b' o vs hc ha g1 g2 =>
        refine ⟨_, run_sliceAt hu hs _ _ _ _ _ _ (run_bounds3 hlo p1 p2 (Int.le_refl _) (by omega)), ?_⟩
        have hlen : ((l.take b.toNat).drop a.toNat).length = b.toNat - a.toNat := by simp; omega
        have hget : ∀ (k : Nat) (x : C.E t'), ((l.take b.toNat).drop a.toNat)[k]? = some x → l[a.toNat + k]? = some x := by
          intro k x hk
          rw [List.getElem?_drop] at hk
          have : a.toNat + k < b.toNat := by have := (List.getElem?_eq_some_iff.mp hk).1; simp at this; omega
          rwa [List.getElem?_take_of_lt this] at hk
        rw [← hlen]
        refine .tsl t' _ _ b' (o + a.toNat * C.size t') (fun k => vs (a.toNat + k)) (fun hne => ?_) (fun k x jj cc hk hj => ?_) (fun k x jj cc hk hj => g2 (a.toNat + k) x jj cc (hget k x hk) hj)
        · have hji : a.toNat < b.toNat := by
            have := List.length_pos_iff.mpr hne
            omega
          have hl0 : l ≠ [] := by intro h0; subst h0; simp at p4; omega
          rw [if_neg (by omega), ha hl0]
          simp [add_off]
        · have := g1 (a.toNat + k) x jj cc (hget k x hk) hj
          rw [Nat.add_mul] at this
          rwa [show o + a.toNat * C.size t' + k * C.size t' + jj = o + (a.toNat * C.size t' + k * C.size t') + jj by omega]
    · trivial
  · rename_i t' id
    split
    · rename_i t'' l fro ht hbk
      obtain rfl := Nat.eq_of_beq_eq_true ht
      split
      · rename_i ht'
        obtain rfl := Nat.eq_of_beq_eq_true ht'
        obtain ⟨h4, _⟩ := H.blk id _ hbk
        intro hp
        obtain ⟨⟨p1, p2⟩, p3, p4⟩ := hp
        cases hx with
        | own _ _ ad c hid h1 h2 h3 =>
          refine ⟨_, run_sliceAt hu hs _ _ _ _ _ _ (run_bounds3 hlo p1 p2 p3 (by omega)), .viewc t'' id a.toNat _ _ _ hid (by omega) (by omega) (fun hne => ?_)⟩
          rw [if_neg (by omega), h3 (by omega)]
          simp [add_off]
      · trivial
    · trivial
  · rename_i t' id lo0 n
    split
    · rename_i ht
      obtain rfl := Nat.eq_of_beq_eq_true ht
      intro hp
      obtain ⟨⟨p1, p2⟩, p3, p4⟩ := hp
      cases hx with
      | view _ _ _ _ ad c hid h1 h2 h3 h5 =>
        refine ⟨_, run_sliceAt hu hs _ _ _ _ _ _ (run_bounds3 hlo p1 p2 p3 (by omega)), .viewc t' id (lo0 + a.toNat) _ _ _ hid (by omega) (by omega) (fun hne => ?_)⟩
        rw [if_neg (by omega), h3 (by omega)]
        simp [add_off, Nat.add_mul]
    · trivial
  · rename_i t' id lo0 n c
    split
    · rename_i ht
      obtain rfl := Nat.eq_of_beq_eq_true ht
      intro hp
      obtain ⟨⟨p1, p2⟩, p3, p4⟩ := hp
      cases hx with
      | viewc _ _ _ _ _ ad hid h1 h2 h3 =>
        refine ⟨_, run_sliceAt hu hs _ _ _ _ _ _ (run_bounds3 hlo p1 p2 p3 (by omega)), .viewc t' id (lo0 + a.toNat) _ _ _ hid (by omega) (by omega) (fun hne => ?_)⟩
        rw [if_neg (by omega), h3 (by omega)]
        simp [add_off, Nat.add_mul]
    · trivial
  · trivial

theorem slice3_ok (hC : Ok C P) (H : RH e F X h w) {t el : Nat} (he : elemOf C t = some el) {x : AV C.E} {v : Value} (hx : RV C e F x v) {lo : Option (AV C.E)} {hi mx : AV C.E} {vlo : Option Value} {vhi vmx : Value}
    (hl : OV e F lo vlo) (hh : RV C e F hi vhi) (hm : RV C e F mx vmx) : VOk P w e F (Instr.sliceAt t v vlo (some vhi) (some vmx)) (slice3Op C h el x lo hi mx) := by
  unfold slice3Op
  split
  · cases hh; cases hm
    cases vlo with
    | none => exact cut3_ok hC H he hx (.inl ⟨rfl, rfl⟩)
    | some u => exact hl.elim
  · cases hh; cases hm
    cases vlo with
    | none => exact hl.elim
    | some u =>
      have : RV C e F (.int _ _) u := hl
      obtain rfl := this.int_inv
      exact cut3_ok hC H he hx (.inr ⟨_, rfl⟩)
  · trivial

end
end Go.Proofs.Ytgplkdcibahofaa.Ev
