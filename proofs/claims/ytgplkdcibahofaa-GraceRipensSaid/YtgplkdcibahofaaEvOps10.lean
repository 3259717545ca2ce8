/-
  Each operation of the evaluator does what the machine's does: the built-ins. No program is named here.
-/
import Derived.Test.YtgplkdcibahofaaEvOps9
namespace Go.Proofs.Ytgplkdcibahofaa.Ev
open Go

section
variable {C : Ctx} {P : Program} {e : Env} {F X : FH} {h : List (Blk C.E)} {w : World} {sl : Tr C.E} {a : Act} {o : Oper}

/-- a value that something comes to, in another world perhaps -/
def BOk (P : Program) (w : World) (e : Env) (F X : FH) (h : List (Blk C.E)) (m : Sem Value) : OpR C.E → Prop
  | .no => True
  | .val v => ∃ rv w', m.run P w = .ok rv w' ∧ Post e F X w v h rv w'
  | .chk p v => p → ∃ rv w', m.run P w = .ok rv w' ∧ Post e F X w v h rv w'
  | .mem v h' => ∃ rv w', m.run P w = .ok rv w' ∧ Post e F X w v h' rv w'
  | .chm p v h' => p → ∃ rv w', m.run P w = .ok rv w' ∧ Post e F X w v h' rv w'
  | .anyB _ => False

theorem gives_run {m : Sem Value} (hm : execOp a.eval o = (do pure (.value (← m)))) {R : Value → World → Prop} (hr : ∃ rv w', m.run P w = .ok rv w' ∧ R rv w') : Gives P o a w R := by
  obtain ⟨rv, w', h2, h3⟩ := hr
  exact gives_value (rv := rv) (w' := w') (by rw [hm]; simp [h2]) h3

theorem BOk.sound {m : Sem Value} (hm : execOp a.eval o = (do pure (.value (← m)))) {r : OpR C.E} (h1 : BOk P w e F X h m r) : Sound P o a w e F X h r := by
  cases r with
  | no => trivial
  | val v => exact gives_run hm h1
  | chk p v => exact fun hp => gives_run hm (h1 hp)
  | mem v h' => exact gives_run hm h1
  | chm p v h' => exact fun hp => gives_run hm (h1 hp)
  | anyB p => exact h1.elim

theorem Post.kill {v : AV C.E} {b : Blk C.E} {rv : Value} {w' : World} {id : Nat} (hid : id < h.length) (hp : Post e F X w v (h ++ [b]) rv w') : Post e F X w v (h.set id .dead ++ [b]) rv w' := by
  obtain ⟨e', F', h1, h2, h3, h4, h5⟩ := hp
  refine ⟨e', F', h1, h2, h3, ?_, h5⟩
  have := h4.kill id
  rwa [List.set_append_left _ _ hid] at this

theorem appendTo_ok (hC : Ok C P) (H : RH e F X h w) {xt yt el : Nat} (he : elemOf C xt = some el) {ty : Ty C.E} (hty : C.ty el = some ty) (ha : isArr ty.k = false) (hf : full C el = true) (hb0 : ty.bytes ≠ 0)
    {x : AV C.E} {vx vy : Value} (hx : RV C e F x vx) {ys : List (C.E el)} {news : List Value} (hsrc : Srcs P e F el yt ys vy w news) (ot : Nat) :
    BOk P w e F X h (Builtin.append_ #[xt, yt] ot #[vx, vy]) (appendTo C h el x ys ty.bytes) := by
  have hnil : ys.length = 0 → ys = [] ∧ news = [] := fun h0 => by
    have := hsrc.src.newsLen
    rw [h0, Nat.zero_mul] at this
    exact ⟨List.length_eq_zero_iff.mp h0, List.length_eq_zero_iff.mp this⟩
  unfold appendTo
  split
  · rename_i t
    split
    · rename_i ht
      subst ht
      intro hroom
      cases hx
      rcases Nat.eq_zero_or_pos ys.length with h0 | h0
      · obtain ⟨rfl, rfl⟩ := hnil h0
        exact append_none hC H he hsrc rfl none ot
      · have := append_grow hC H he hty ha hf hsrc (l := []) (ad := none) (cap := 0) (olds := []) (by simp) (fun w' _ => rfl) (by simp) (by simp) (by simpa using h0) (by simpa using hroom) hb0 ot
        simpa using this
    · trivial
  · rename_i t id
    split
    · rename_i ht
      subst ht
      split
      · rename_i t' l hb
        split
        · rename_i hq
          subst hq
          intro hroom
          have hid : id < h.length := (List.getElem?_eq_some_iff.mp hb).1
          obtain ⟨h0, _⟩ := H.blk id _ hb
          cases hx with
          | own _ _ ad c g0 g1 g2 g3 =>
            rw [h0] at g1 ⊢
            by_cases hg : c < l.length + ys.length
            · obtain ⟨olds, n1, n2, n3, n4⟩ := arr_src H hb (lo := 0) (n := l.length) (by omega)
              obtain ⟨rv, w', r1, r2⟩ := append_grow hC H he hty ha hf hsrc (l := l) (ad := ad) (cap := c) (olds := olds) n1
                (fun w' hw => first_slice n1 (fun hz => ⟨e.ρ id, 0, g3 (by intro hc0; rw [hc0] at g1; have : l.length = 0 := (by omega); rw [this] at hz; simp at hz), by simpa using n2⟩) w' hw)
                n3 (fun i x j cc hi hj => n4 i x j cc (by simpa using hi) hj (by rw [← (full_ok hC hf x).1]; exact (List.getElem?_eq_some_iff.mp hj).1)) hg hroom hb0 ot
              exact ⟨rv, w', r1, r2.kill hid⟩
            · rcases Nat.eq_zero_or_pos c with hc0 | hc0
              · have hl0 : l = [] := List.length_eq_zero_iff.mp (by omega)
                subst hl0
                obtain ⟨rfl, rfl⟩ := hnil (by omega)
                exact append_none hC H he hsrc hc0 (some id) ot
              · have := append_room hC H he hf hsrc hb (n := l.length) (Nat.le_refl _) g2 g3 (by omega) hc0 ot
                simpa using this
        · trivial
      · trivial
    · trivial
  · rename_i t id n
    split
    · rename_i ht
      subst ht
      split
      · rename_i t' l hb
        split
        · rename_i hq
          subst hq
          intro hroom
          have hid : id < h.length := (List.getElem?_eq_some_iff.mp hb).1
          obtain ⟨h0, _⟩ := H.blk id _ hb
          cases hx with
          | view _ _ _ _ ad c g0 g1 g2 g3 g4 =>
            have hnl : (l.take n).length = n := by simp; omega
            by_cases hg : c < n + ys.length
            · obtain ⟨olds, n1, n2, n3, n4⟩ := arr_src H hb (lo := 0) (n := n) (by omega)
              have := append_grow hC H he hty ha hf hsrc (l := l.take n) (ad := ad) (cap := c) (olds := olds) (by rw [hnl]; exact n1)
                (fun w' hw => by
                  rw [hnl]
                  exact first_slice n1 (fun hz => ⟨e.ρ id, 0, by simpa using g3 (by intro hc0; rw [hc0] at g1; have : n = 0 := (by omega); rw [this] at hz; simp at hz), by simpa using n2⟩) w' hw)
                n3 (fun i x j cc hi hj => n4 i x j cc (by simpa using hi) hj (by rw [← (full_ok hC hf x).1]; exact (List.getElem?_eq_some_iff.mp hj).1)) (by rw [hnl]; exact hg) (by rw [hnl]; exact hroom) hb0 ot
              rw [hnl] at this
              obtain ⟨rv, w', r1, r2⟩ := this
              exact ⟨rv, w', r1, r2.kill hid⟩
            · rcases Nat.eq_zero_or_pos c with hc0 | hc0
              · have hn0 : n = 0 := by omega
                subst hn0
                obtain ⟨rfl, rfl⟩ := hnil (by omega)
                simpa using append_none hC H he hsrc hc0 (some id) ot
              · exact append_room hC H he hf hsrc hb (n := n) (by omega) (by omega) (fun hc => by simpa using g3 hc) (by omega) hc0 ot
        · trivial
      · trivial
    · trivial
  · rename_i t id lo n c
    split
    · rename_i ht
      subst ht
      split
      · rename_i t' l fro hb
        split
        · rename_i hq
          subst hq
          obtain ⟨g1, g2⟩ := len_le_cap H hb
          cases hx with
          | viewc _ _ _ _ _ ad h0 h1 h2 h3 =>
            split
            · intro hroom
              rcases Nat.eq_zero_or_pos ys.length with hy0 | hy0
              · obtain ⟨rfl, rfl⟩ := hnil hy0
                exact append_none hC H he hsrc rfl none ot
              · have := append_grow hC H he hty ha hf hsrc (l := []) (ad := ad) (cap := 0) (olds := []) (by simp) (fun w' hw => first_slice (t := t') (by simp) (by simp) w' hw) (by simp) (by simp) (by simpa using hy0) (by simpa using hroom) hb0 ot
                simpa using this
            · intro hp
              obtain ⟨hroom, hg⟩ := hp
              have hnl : ((l.drop lo).take n).length = n := by simp; omega
              obtain ⟨olds, n1, n2, n3, n4⟩ := arr_src H hb (lo := lo) (n := n) (by omega)
              have := append_grow hC H he hty ha hf hsrc (l := (l.drop lo).take n) (ad := ad) (cap := c) (olds := olds) (by rw [hnl]; exact n1)
                (fun w' hw => by
                  rw [hnl]
                  exact first_slice n1 (fun hz => ⟨e.ρ id, _, h3 (by intro hc0; rw [hc0] at h1; have : n = 0 := (by omega); rw [this] at hz; simp at hz), n2⟩) w' hw)
                n3 (fun i x j cc hi hj => n4 i x j cc hi hj (by rw [← (full_ok hC hf x).1]; exact (List.getElem?_eq_some_iff.mp hj).1)) (by rw [hnl]; exact hg) (by rw [hnl]; exact hroom) hb0 ot
              rw [hnl] at this
              exact this
        · trivial
      · trivial
    · trivial
  · rename_i t l
    split
    · rename_i ht
      subst ht
      have hcs : ∃ news2, CellsOf e F w t l vx (match vx with | .slice a _ _ => a | _ => none) l.length news2 := by
        obtain ⟨ad, c, n2, h2⟩ := content_cells hC H hf hx (by show content C h t (.tsl t l) = some l; simp [content])
        cases hx with
        | tsl _ _ a b o vs _ _ _ =>
          have hv := h2.val
          cases hv
          exact ⟨n2, h2⟩
      obtain ⟨news2, h2⟩ := hcs
      revert h2
      generalize (match vx with | .slice a _ _ => a | _ => none) = ad
      intro h2
      rw [h2.val]
      split
      · rename_i hl
        have hl' : l = [] := hl
        subst hl'
        intro hroom
        rcases Nat.eq_zero_or_pos ys.length with hy0 | hy0
        · obtain ⟨rfl, rfl⟩ := hnil hy0
          exact append_none hC H he hsrc rfl none ot
        · have hn2 : news2 = [] := List.length_eq_zero_iff.mp (by rw [h2.len]; simp)
          subst hn2
          have := append_grow hC H he hty ha hf hsrc (l := []) (ad := ad) (cap := 0) (olds := []) (by simp) (fun w' hw => first_slice (t := t) (by simp) (by simp) w' hw) (by simp) (by simp) (by simpa using hy0) (by simpa using hroom) hb0 ot
          simpa using this
      · rename_i x l' hl
        have hl' : l = x :: l' := hl
        rw [← hl']
        intro hp
        exact append_grow hC H he hty ha hf hsrc (l := l) (ad := ad) (cap := l.length) (olds := news2) h2.len (fun w' hw => first_slice h2.len h2.at_ w' hw) h2.one h2.rows (by omega) hp.1 hb0 ot
    · trivial
  · trivial

theorem str_src (hC : Ok C P) {el yt : Nat} (hf : full C el = true) (hs : C.size el = 1) (hu : P.underlying yt = some .string) {s : ByteArray} {ys : List (C.E el)} (ho : C.ofInts el (intsOfStr s) = some ys) :
    Srcs P e F el yt ys (.string s) w (byteCells s) := by
  obtain ⟨h1, h2⟩ := hC.ofs _ _ _ ho
  have hlen : ys.length = s.size := by rw [h1]; unfold intsOfStr; rw [List.length_map, Array.length_toList]; rfl
  refine ⟨by rw [hs, hlen]; exact Src.ofString w hu s, fun i x j c hi hj => ?_⟩
  have hx := (full_ok hC hf x).1
  rw [hs] at hx
  have hj0 : j = 0 := by have := (List.getElem?_eq_some_iff.mp hj).1; omega
  subst hj0
  have hil : i < s.data.toList.length := by
    have h3 := (List.getElem?_eq_some_iff.mp hi).1
    rw [hlen] at h3
    simpa using h3
  obtain ⟨x', h3, h4⟩ := h2 i (s.data.toList[i].toNat : Int) (by unfold intsOfStr; rw [List.getElem?_map, List.getElem?_eq_getElem hil]; rfl)
  rw [hi] at h3; cases h3
  rw [h4] at hj; cases hj
  rw [hs, Nat.mul_one, Nat.add_zero]
  unfold byteCells
  rw [List.getD_eq_getElem?_getD, List.getElem?_map, List.getElem?_eq_getElem hil]
  exact .int _ _

theorem append_ok (hC : Ok C P) (H : RH e F X h w) {xt yt : Nat} {x y : AV C.E} {vx vy : Value} (hx : RV C e F x vx) (hy : RV C e F y vy) (ot : Nat) :
    BOk P w e F X h (Builtin.append_ #[xt, yt] ot #[vx, vy]) (appendOp C h xt yt x y) := by
  unfold appendOp
  split
  · rename_i el he
    split
    · rename_i ety hty hf hcl
      split
      · trivial
      · rename_i hb
        simp only [Bool.and_eq_true, Bool.not_eq_true', Nat.blt_eq] at hb
        obtain ⟨ha, hb0⟩ := hb
        split
        · rename_i s
          split
          · rename_i yty ys hyt ho
            split
            · rename_i hk hs
              have hu : P.underlying yt = some .string := by
                obtain ⟨_, _, _, _, _, _, _, hu⟩ := ty_info hC hyt
                unfold isStr at hk
                split at hk
                · rename_i hk'
                  rw [hk'] at hu
                  simp only [undOk] at hu
                  split at hu
                  · assumption
                  · cases hu
                · cases hk
              cases hy
              exact appendTo_ok hC H he hty ha hf (by omega) hx (str_src hC hf (Nat.eq_of_beq_eq_true hs) hu ho) ot
            · trivial
          · trivial
        · split
          · rename_i e' ys he' hc
            split
            · rename_i heq
              obtain rfl := Nat.eq_of_beq_eq_true heq
              obtain ⟨news, hn⟩ := content_src (yt := yt) hC H (elemOf_ok (w := w) hC he').1 hf hy hc
              exact appendTo_ok hC H he hty ha hf (by omega) hx hn ot
            · trivial
          · trivial
    · trivial
  · trivial

theorem len_ok (hC : Ok C P) (H : RH e F X h w) {t : Nat} {x : AV C.E} {v : Value} (hx : RV C e F x v) {n : Int} (hl : lenOp C h t x = some n) (ot : Nat) :
    (Builtin.len_ #[t] ot #[v]).run P w = .ok (.int .i64 n) w := by
  unfold lenOp at hl
  split at hl
  · rename_i ty hty
    obtain ⟨_, _, _, _, _, _, _, hu⟩ := ty_info hC hty
    split at hl
    · rename_i s hk
      cases hl
      rw [hk] at hu
      simp only [undOk] at hu
      split at hu
      · rename_i hu'
        cases hx
        simp [Builtin.len_, run_underlying hu', goInt]
      · cases hu
    · rename_i el t' hk
      cases hl
      rw [hk] at hu
      simp only [undOk] at hu
      split at hu
      · rename_i e' hu'
        cases hx
        simp [Builtin.len_, run_underlying hu', goInt]
      · cases hu
    · rename_i el t' l hk
      cases hl
      rw [hk] at hu
      simp only [undOk] at hu
      split at hu
      · rename_i e' hu'
        cases hx
        simp [Builtin.len_, run_underlying hu', goInt]
      · cases hu
    · rename_i el t' id hk
      split at hl
      · rename_i hb
        cases hl
        obtain ⟨h0, _⟩ := H.blk id _ hb
        rw [hk] at hu
        simp only [undOk] at hu
        split at hu
        · rename_i e' hu'
          cases hx
          simp [Builtin.len_, run_underlying hu', goInt, h0]
        · cases hu
      · cases hl
    · rename_i el t' id lo n hk
      cases hl
      rw [hk] at hu
      simp only [undOk] at hu
      split at hu
      · rename_i e' hu'
        cases hx
        simp [Builtin.len_, run_underlying hu', goInt]
      · cases hu
    · rename_i el t' id lo n c hk
      cases hl
      rw [hk] at hu
      simp only [undOk] at hu
      split at hu
      · rename_i e' hu'
        cases hx
        simp [Builtin.len_, run_underlying hu', goInt]
      · cases hu
    · rename_i el t' l hk
      cases hl
      rw [hk] at hu
      simp only [undOk] at hu
      split at hu
      · rename_i e' hu'
        cases hx
        simp [Builtin.len_, run_underlying hu', goInt]
      · cases hu
    · rename_i kt vt hk
      cases hl
      rw [hk] at hu
      simp only [undOk] at hu
      split at hu
      · rename_i e' hu'
        cases hx
        simp [Builtin.len_, run_underlying hu', goInt]
      · cases hu
    · rename_i kt vt id hk
      split at hl
      · rename_i hb
        exact (H.blk id _ hb).elim
      · cases hl
    · cases hl
  · cases hl

theorem copyTo_ok (hC : Ok C P) (H : RH e F X h w) {xt yt el : Nat} (he : elemOf C xt = some el) (hf : full C el = true) {id : Nat} {l : List (C.E el)} (hb : h[id]? = some (.arr el l false))
    {vx vy : Value} (hx : RV C e F (.own el id) vx) {ys : List (C.E el)} {ad : Option Addr} {c : Nat} {news : List Value} (hs : CellsOf e F w el ys vy ad c news) (ot : Nat) :
    BOk P w e F X h (Builtin.copy_ #[xt, yt] ot #[vx, vy]) (copyTo C h el id 0 l.length ys) := by
  have hpos := (full_ok hC hf (C.z el)).2
  obtain ⟨hu, hsz, _⟩ := elemOf_ok (w := w) hC he
  unfold copyTo
  rw [hb]
  simp only [dite_true]
  show ∃ rv w', _
  obtain ⟨h0, hcase⟩ := H.blk id _ hb
  have hid : id < h.length := (List.getElem?_eq_some_iff.mp hb).1
  have hfst : (Builtin.firstCells (C.size el) (Nat.min ys.length l.length) vy).run P w = .ok (news.take (min ys.length l.length * C.size el)).toArray w := by
    rw [hs.val]
    refine first_slice (t := el) ?_ (fun hz => ?_) w (fun _ => rfl)
    · rw [List.length_take, hs.len]
      exact Nat.min_eq_left (Nat.mul_le_mul_right _ (Nat.min_le_left _ _))
    · obtain ⟨b, o, h1, h2⟩ := hs.at_ (fun hy => hz (by
        have : ys.length = 0 := by rcases Nat.mul_eq_zero.mp hy with h | h <;> omega
        show min ys.length l.length * _ = 0
        rw [this]; simp))
      refine ⟨b, o, h1, fun j u hj => h2 j u ?_⟩
      rw [List.getElem?_take] at hj
      split at hj
      · exact hj
      · cases hj
  have hnl : (news.take (min ys.length l.length * C.size el)).length = min ys.length l.length * C.size el := by
    rw [List.length_take, hs.len]
    exact Nat.min_eq_left (Nat.mul_le_mul_right _ (Nat.min_le_left _ _))
  have hlen : (Builtin.lenOf vy).run P w = .ok ys.length w := by rw [hs.val]; rfl
  cases hx with
  | own _ _ adx cx g0 g1 g2 g3 =>
    rcases Nat.eq_zero_or_pos (min ys.length l.length) with hm | hm
    · have hrun : (Builtin.copy_ #[xt, yt] ot #[.slice adx (e.len id) cx, vy]).run P w = .ok (goInt ((min ys.length l.length : Nat))) w := by
        have hn0 : news.take (min ys.length l.length * C.size el) = [] := List.length_eq_zero_iff.mp (by rw [hnl, hm, Nat.zero_mul])
        rw [hn0] at hfst
        have hm' : ys.length.min (e.len id) = min ys.length l.length := by rw [h0]
        cases adx <;> simp [Builtin.copy_, run_underlying hu, hlen, hsz, hm', hfst, storeCells]
      refine ⟨_, _, hrun, e, F, ELe.refl e, FLe.refl F, .int _ _, ?_, Ext.refl w⟩
      have hset : h.set id (.arr el (List.take 0 l ++ List.take (min ys.length l.length) ys ++ List.drop (0 + min ys.length l.length) l) false) = h := by
        rw [hm]; simp
        exact List.ext_getElem? fun j => by
          by_cases hj : j = id
          · subst hj; rw [List.getElem?_set_self hid, hb]
          · rw [List.getElem?_set_ne (Ne.symm hj)]
      rw [hset]; exact H
    · rcases hcase with ⟨h1, h2⟩ | ⟨arr, elr, h1, h2, h3, h4, h5, h6, h7⟩
      · subst h2; simp at hm
      · have hlive : Live e h id := by unfold Live; rw [hb]; show e.cap id ≠ 0; omega
        have hfit : 0 + (news.take (min ys.length l.length * C.size el)).length ≤ arr.size := by
          rw [hnl, h4, Nat.zero_add]; exact Nat.mul_le_mul_right _ (by omega)
        have hone : ∀ u ∈ news.take (min ys.length l.length * C.size el), u.oneCell' = true := fun u hu => hs.one u (List.mem_of_mem_take hu)
        have hst := run_storeCells_at P (e.ρ id) 0 elr (news.take (min ys.length l.length * C.size el)) 0 arr w h1 (by simpa using hfit) hone
        simp only [Nat.add_zero] at hst
        have hrun : (Builtin.copy_ #[xt, yt] ot #[.slice adx (e.len id) cx, vy]).run P w = .ok (goInt ((min ys.length l.length : Nat))) (w.setRow (e.ρ id) (wrote arr 0 (news.take (min ys.length l.length * C.size el)))) := by
          have hm' : ys.length.min (e.len id) = min ys.length l.length := by rw [h0]
          rw [g3 (by omega)]
          simp [Builtin.copy_, run_underlying hu, hlen, hsz, hm', hfst, hst, wrote]
        refine ⟨_, _, hrun, e, F, ELe.refl e, FLe.refl F, .int _ _, ?_, Ext.setRow _ _⟩
        refine H.set id _ hlive (fun ⟨t, l, hf⟩ => by rw [hb] at hf; cases hf) (h2 rfl) (fun k hk => setRow_other w _ k _ hk) ?_
        rw [setRow_heap w _ arr _ elr _ h1]
        have hlen2 : (List.take 0 l ++ List.take (min ys.length l.length) ys ++ List.drop (0 + min ys.length l.length) l).length = l.length := by simp; omega
        refine ⟨by rw [hlen2]; exact h0, .inr ⟨_, elr, rfl, fun _ => h2 rfl, by simp, by rw [wrote_size hfit, h4], by rw [hlen2]; exact h5, fun j hj => ?_, fun i x j c hi hj => ?_⟩⟩
        · rw [wrote_size hfit] at hj
          rw [wrote_getD hfit]
          by_cases hjj : 0 ≤ j ∧ j < 0 + (news.take (min ys.length l.length * C.size el)).length
          · rw [if_pos hjj]; exact hone _ (getD_mem (by omega))
          · rw [if_neg hjj]; exact h6 j hj
        · rw [wrote_getD hfit]
          have hjs : j < C.size el := by rw [← (full_ok hC hf x).1]; exact (List.getElem?_eq_some_iff.mp hj).1
          simp only [List.take_zero, List.nil_append, Nat.zero_add] at hi
          rw [hnl, Nat.zero_add, Nat.sub_zero]
          by_cases hin : i < min ys.length l.length
          · rw [List.getElem?_append_left (by simp; omega), List.getElem?_take_of_lt hin] at hi
            have hmul : (i + 1) * C.size el ≤ min ys.length l.length * C.size el := Nat.mul_le_mul_right _ hin
            rw [Nat.add_mul] at hmul
            rw [if_pos ⟨Nat.zero_le _, by omega⟩]
            have := hs.rows i x j c hi hj
            rw [List.getD_eq_getElem?_getD] at this ⊢
            rwa [List.getElem?_take_of_lt (by omega)]
          · rw [List.getElem?_append_right (by simp; omega), List.getElem?_drop] at hi
            have hmul : min ys.length l.length * C.size el ≤ i * C.size el := Nat.mul_le_mul_right _ (by omega)
            rw [if_neg (by omega)]
            refine h7 i x j c ?_ hj
            rw [← hi]; congr 1; simp; omega

theorem copy_ok (hC : Ok C P) (H : RH e F X h w) {xt yt : Nat} {x y : AV C.E} {vx vy : Value} (hx : RV C e F x vx) (hy : RV C e F y vy) (ot : Nat) :
    BOk P w e F X h (Builtin.copy_ #[xt, yt] ot #[vx, vy]) (copyOp C h xt yt x y) := by
  unfold copyOp
  split
  · rename_i el id
    split
    · rename_i e' e2 he he2 hcl hf
      split
      · rename_i t' l ys heq hb hc
        obtain rfl := Nat.eq_of_beq_eq_true heq
        obtain ⟨ad, c, news, hs⟩ := content_cells hC H hf hy hc
        by_cases ht : t' = e'
        · subst ht
          exact copyTo_ok hC H he hf hb hx hs ot
        · unfold copyTo
          rw [hb]
          simp only [ht, dite_false]
          trivial
      · trivial
    · trivial
  · trivial

theorem min_ok (ts : Array TypeId) (ot : Nat) {k : IntKind} : ∀ {r : List (AV C.E)} {vs : List Value} {x n : Int}, RVs e F r vs → minmax C (fun x y => decide (y < x)) x r = some n → (vs.foldlM Builtin.min2 (.int k x)).run P w = .ok (.int k n) w
  | [], vs, x, n, hv, h => by
    have : vs = [] := List.length_eq_zero_iff.mp hv.1
    subst this
    cases h; rfl
  | y :: r, [], x, n, hv, h => by have := hv.1; simp at this
  | y :: r, u :: vs, x, n, hv, h => by
    rw [RVs.cons] at hv
    cases y with
    | int k' y =>
      obtain ⟨h1, h2⟩ := hv
      cases h1
      have := min_ok ts ot (k := k) h2 (n := n) (x := if y < x then y else x) (by
        rw [← h]; simp only [minmax]; congr 1; by_cases hlt : y < x <;> simp [hlt])
      simp [Builtin.min2, this]
    | _ => simp [minmax] at h

theorem max_ok (ts : Array TypeId) (ot : Nat) {k : IntKind} : ∀ {r : List (AV C.E)} {vs : List Value} {x n : Int}, RVs e F r vs → minmax C (fun x y => decide (x < y)) x r = some n → (vs.foldlM Builtin.max2 (.int k x)).run P w = .ok (.int k n) w
  | [], vs, x, n, hv, h => by
    have : vs = [] := List.length_eq_zero_iff.mp hv.1
    subst this
    cases h; rfl
  | y :: r, [], x, n, hv, h => by have := hv.1; simp at this
  | y :: r, u :: vs, x, n, hv, h => by
    rw [RVs.cons] at hv
    cases y with
    | int k' y =>
      obtain ⟨h1, h2⟩ := hv
      cases h1
      have := max_ok ts ot (k := k) h2 (n := n) (x := if y > x then y else x) (by
        rw [← h]; simp only [minmax]; congr 1; by_cases hlt : x < y <;> simp [hlt])
      simp [Builtin.max2, this]
    | _ => simp [minmax] at h

end
end Go.Proofs.Ytgplkdcibahofaa.Ev
