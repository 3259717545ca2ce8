/-
  Each operation of the evaluator does what the machine's does: new memory, stores. No program is named here.
-/
import Derived.Test.YtgplkdcibahofaaEvOps4
namespace Go.Proofs.Ytgplkdcibahofaa.Ev
open Go

section
variable {C : Ctx} {P : Program} {e : Env} {F X : FH} {h : List (Blk C.E)} {w : World} {sl : Tr C.E} {a : Act} {o : Oper}

theorem F_new (H : RH e F X h w) : F w.heap.size = none ∧ X w.heap.size = none := by
  constructor
  · cases hF : F w.heap.size with
    | none => rfl
    | some x => have := H.fro _ _ hF; simp at this
  · cases hF : X w.heap.size with
    | none => rfl
    | some x => have := H.out _ _ hF; simp at this

/-- a new block of the machine's, in the same world or in one that has drawn -/
theorem RH.alloc (H : RH e F X h w) {w1 : World} (hw1 : w1.heap = w.heap) (b : Blk C.E) (arr : Array Value) (el : TypeId) (len cap : Nat)
    (new : RB (e.add w.heap.size len cap) F h.length (some (.cells arr el (0, 0))) b) : RH (e.add w.heap.size len cap) F X (h ++ [b]) (w1.alloc (.cells arr el)) := by
  have hsz : w1.heap.size = w.heap.size := by rw [hw1]
  have hget : (w1.alloc (.cells arr el)).heap[w.heap.size]? = some (.cells arr el (0, 0)) := by
    rw [← hsz]
    show (w1.heap.push _)[w1.heap.size]? = _
    simp
  refine H.push b w.heap.size len cap (fun k hk _ => ?_) (fun i hi => by have := ρ_lt H hi; omega) (F_new H).1 (F_new H).2 (by rw [hget]; exact new)
  rw [← hw1]
  show (w1.heap.push _)[k]? = _
  rw [Array.getElem?_push, if_neg (by omega)]

theorem Ext.alloc {w w1 : World} (hx : Ext w w1) (ob : Obj) : Ext w (w1.alloc ob) := ⟨hx.os, hx.tape, hx.output, by have := hx.size; simp; omega⟩

/-- a variable of the call's own, new -/
theorem post_var (H : RH e F X h w) (cs : List (AV C.E)) (arr : Array Value) (el : TypeId) (hs : arr.size = cs.length)
    (hc : ∀ (j : Nat) (c : AV C.E), cs[j]? = some c → AV.one c = true ∧ RV C e F c (arr.getD j undef)) :
    Post e F X w (.ptr h.length 0) (h ++ [.cells cs]) (.pointer (some ⟨w.heap.size, 0, none⟩)) (w.alloc (.cells arr el)) := by
  refine ⟨e.add w.heap.size 0 0, F, Env.le_add _ _ _ _, FLe.refl F, ?_, H.alloc rfl _ arr el 0 0 ?_, (Ext.refl w).alloc _⟩
  · have := RV.ptr (C := C) (e := e.add w.heap.size 0 0) (F := F) h.length 0 (by simp [H.sz])
    rwa [← H.sz, Env.add_ρ, H.sz] at this
  · refine ⟨arr, el, rfl, by rw [← H.sz, Env.add_ρ]; exact (F_new H).1, hs, fun j c hj => ⟨(hc j c hj).1, (hc j c hj).2.mono (Env.le_add _ _ _ _) (FLe.refl F)⟩⟩

/-- a row of the call's own, new -/
theorem post_row (H : RH e F X h w) {w1 : World} (hx : Ext w w1) (hw1 : w1.heap = w.heap) (t : Nat) (l : List (C.E t)) (arr : Array Value) (el : TypeId) (cap : Nat) (hs : arr.size = cap * C.size t) (hl : l.length ≤ cap)
    (hone : ∀ j, j < arr.size → (arr.getD j undef).oneCell' = true) (hr : Rows e F t l arr) :
    Post e F X w (.own t h.length) (h ++ [.arr t l false]) (.slice (some ⟨w.heap.size, 0, none⟩) l.length cap) (w1.alloc (.cells arr el)) := by
  refine ⟨e.add w.heap.size l.length cap, F, Env.le_add _ _ _ _, FLe.refl F, ?_, H.alloc hw1 _ arr el _ _ ?_, hx.alloc _⟩
  · have := RV.own (C := C) (e := e.add w.heap.size l.length cap) (F := F) t h.length (some ⟨w.heap.size, 0, none⟩) cap (by simp [H.sz]) (by rw [← H.sz, Env.add_len]; exact hl) (by rw [← H.sz, Env.add_cap]; exact Nat.le_refl _)
      (fun _ => by rw [← H.sz, Env.add_ρ])
    rwa [← H.sz, Env.add_len, H.sz] at this
  · refine ⟨by rw [← H.sz, Env.add_len], .inr ⟨arr, el, rfl, fun _ => by rw [← H.sz, Env.add_ρ]; exact (F_new H).1, by simp, by rw [← H.sz, Env.add_cap]; exact hs, by rw [← H.sz, Env.add_cap]; exact hl, hone, hr.mono (Env.le_add _ _ _ _) (FLe.refl F)⟩⟩

theorem run_zeroValue {t : Nat} {i : TypeInfo} {z : Value} (hi : P.info? t = some i) (hz : i.zero = some z) : (zeroValue t).run P w = .ok z w := by
  simp [zeroValue, run_typeInfo w hi, hz]

theorem alloc_ok (hC : Ok C P) (H : RH e F X h w) {t : Nat} {ty : Ty C.E} (ht : C.ty t = some ty) (ha : isArr ty.k = false) (hop : o.op = .alloc t) :
    Gives P o a w (Post e F X w (.ptr h.length 0) (h ++ [.cells ty.zero])) := by
  obtain ⟨i, z, hi, _, _, hz, hzz, _⟩ := ty_info hC ht
  obtain ⟨hz1, hz2⟩ := hzz ha
  obtain ⟨hl, hc⟩ := zerosAre_ok (e := e) (F := F) hz1
  refine gives_value (rv := .pointer (some ⟨w.heap.size, 0, none⟩)) (w' := w.alloc (.cells z.cells t)) (by simp [execOp, hop, Instr.alloc, run_zeroValue hi hz, newVar, newRow]) (post_var H ty.zero z.cells t (by simpa using hl) (fun j c hj => ?_))
  obtain ⟨h1, _, h2⟩ := hc j c hj
  exact ⟨h1, by rwa [getD_toList] at h2⟩

theorem box_ok (H : RH e F X h w) {t : Nat} {x : Operand} {cs : List (AV C.E)} {v : AV C.E} (hv : RV C e F v (a.eval x)) (hcs : cellsOf v = some cs) (hop : o.op = .box t x) :
    Gives P o a w (Post e F X w (.ptr h.length 0) (h ++ [.cells cs])) := by
  obtain ⟨hs, hc⟩ := cellsOf_ok hv hcs
  exact gives_value (rv := .pointer (some ⟨w.heap.size, 0, none⟩)) (w' := w.alloc (.cells (a.eval x).cells t)) (by simp [execOp, hop, Instr.box, newVar, newRow]) (post_var H cs _ t hs hc)

/-! what is only read from now on -/
theorem RV.sl_of_rows (hC : Ok C P) (H : RH e F X h w) {t id : Nat} {l : List (C.E t)} {fro : Bool} (hb : h[id]? = some (.arr t l fro)) {F' : FH} (hF : FLe F F') (hfr : e.cap id ≠ 0 → F' (e.ρ id) = w.heap[e.ρ id]?)
    {lo n c : Nat} {ad : Option Addr} (hn : lo + n ≤ l.length) (hc : n ≤ c) (had : n ≠ 0 → ad = some ⟨e.ρ id, lo * C.size t, none⟩) : RV C e F' (.sl t ((l.drop lo).take n)) (.slice ad n c) := by
  have hlen : ((l.drop lo).take n).length = n := by simp; omega
  obtain ⟨h0, hB⟩ := H.blk id _ hb
  have key : ∀ (i : Nat) (x : C.E t), ((l.drop lo).take n)[i]? = some x → l[lo + i]? = some x := by
    intro i x hi
    have hin : i < n := by have := (List.getElem?_eq_some_iff.mp hi).1; omega
    rw [List.getElem?_take_of_lt hin, List.getElem?_drop] at hi; exact hi
  have hgoal : RV C e F' (.sl t ((l.drop lo).take n)) (.slice ad ((l.drop lo).take n).length c) := by
    rcases hB with ⟨hcap, hl0⟩ | ⟨arr, el, h1, h2, h3, h4, h5, h6, h7⟩
    · subst hl0
      exact .sl t _ ad c 0 0 (fun _ _ => undef) (by simp) (fun hne => absurd (by simp) hne) (fun i x j cc hi => by simp at hi) (fun i x j cc hi => by simp at hi)
    · refine .sl t _ ad c (e.ρ id) (lo * C.size t) (fun i j => arr.getD ((lo + i) * C.size t + j) undef) (by omega) (fun hne => had (by intro h0; subst h0; simp at hne)) (fun i x j cc hi hj => ?_) (fun i x j cc hi hj => (h7 _ _ _ _ (key i x hi) hj).mono (ELe.refl e) hF)
      have hlt : (lo + i) * C.size t + j < arr.size := by
        have h8 := key i x hi
        exact Rows.lt hC h4 h5 h8 hj
      have hcap : e.cap id ≠ 0 := by
        intro h0
        rw [h0] at h5
        have := (List.getElem?_eq_some_iff.mp (key i x hi)).1
        omega
      unfold FH.cell
      rw [hfr hcap, h1]
      rw [← Nat.add_mul]
      simp [hlt]
  rwa [hlen] at hgoal


theorem frz1_ok (hC : Ok C P) (H : RH e F X h w) {v v' : AV C.E} {h' : List (Blk C.E)} (hf : frz1 C h v = some (v', h')) :
    ∃ F', FLe F F' ∧ RH e F' X h' w ∧ (∀ rv, RV C e F v rv → RV C e F' v' rv) ∧ (AV.one v = true → AV.one v' = true) := by
  unfold frz1 at hf
  split at hf
  · simp at hf; obtain ⟨rfl, rfl⟩ := hf
    refine ⟨F, FLe.refl F, H, fun rv hv => ?_, fun _ => rfl⟩
    cases hv
    exact .sl _ [] none 0 0 0 (fun _ _ => undef) (by simp) (fun h => absurd rfl h) (fun i x j cc hi => by simp at hi) (fun i x j cc hi => by simp at hi)
  · rename_i t id
    split at hf
    · rename_i t' l fro hb
      split at hf
      · rename_i ht
        subst ht
        simp at hf; obtain ⟨rfl, rfl⟩ := hf
        obtain ⟨F', hF, H', hcap⟩ := H.freeze id t' l fro hb
        refine ⟨F', hF, H', fun rv hv => ?_, fun _ => rfl⟩
        obtain ⟨h0, _⟩ := H.blk id _ hb
        cases hv with
        | own _ _ ad c hid h1 h2 h3 =>
          have := RV.sl_of_rows hC H hb hF hcap (lo := 0) (n := l.length) (c := c) (ad := ad) (by omega) (by omega) (fun hn => by rw [Nat.zero_mul]; exact h3 (by omega))
          rw [h0]; simpa using this
      · cases hf
    · cases hf
  · rename_i t id lo n
    split at hf
    · rename_i t' l fro hb
      split at hf
      · rename_i ht
        subst ht
        simp at hf; obtain ⟨rfl, rfl⟩ := hf
        obtain ⟨F', hF, H', hcap⟩ := H.freeze id t' l fro hb
        refine ⟨F', hF, H', fun rv hv => ?_, fun _ => rfl⟩
        obtain ⟨h0, _⟩ := H.blk id _ hb
        cases hv with
        | view _ _ _ _ ad c hid h1 h2 h3 h5 =>
          exact RV.sl_of_rows hC H hb hF hcap (by omega) h1 (fun hn => h3 (by omega))
      · cases hf
    · cases hf
  · rename_i t id lo n c0
    split at hf
    · rename_i t' l fro hb
      split at hf
      · rename_i ht
        subst ht
        simp at hf; obtain ⟨rfl, rfl⟩ := hf
        obtain ⟨F', hF, H', hcap⟩ := H.freeze id t' l fro hb
        refine ⟨F', hF, H', fun rv hv => ?_, fun _ => rfl⟩
        obtain ⟨h0, _⟩ := H.blk id _ hb
        have hv' := hv.viewc_view H hb
        cases hv' with
        | view _ _ _ _ ad c hid h1 h2 h3 h5 =>
          exact RV.sl_of_rows hC H hb hF hcap (by omega) h1 (fun hn => h3 (by omega))
      · cases hf
    · cases hf
  · simp at hf; obtain ⟨rfl, rfl⟩ := hf
    exact ⟨F, FLe.refl F, H, fun rv hv => hv.tsl_sl, fun _ => rfl⟩
  · cases hf
  · cases hf
  · simp at hf; obtain ⟨rfl, rfl⟩ := hf
    exact ⟨F, FLe.refl F, H, fun rv hv => hv, fun h => h⟩

end
end Go.Proofs.Ytgplkdcibahofaa.Ev
