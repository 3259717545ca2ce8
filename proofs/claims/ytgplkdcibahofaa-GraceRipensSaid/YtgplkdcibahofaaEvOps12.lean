/-
  Each operation of the evaluator does what the machine's does: all of them in one. No program is named here.
-/
import Derived.Test.YtgplkdcibahofaaEvOps11
import Derived.Lib.SliceRun
namespace Go.Proofs.Ytgplkdcibahofaa.Ev
open Go

section
variable {C : Ctx} {P : Program} {e : Env} {F X : FH} {h : List (Blk C.E)} {w : World} {sl : Tr C.E} {a : Act} {o : Oper}

theorem convert_ok (hC : Ok C P) (H : RH e F X h w) {s d : Nat} {sty dty : Ty C.E} (hs : C.ty s = some sty) (hd : C.ty d = some dty) {x : AV C.E} {v : Value} (hx : RV C e F x v) :
    VOk P w e F (convert s d v) (convertOp C h sty.k dty.k x) := by
  unfold convertOp
  split
  · rename_i k1 k2 h1 h2
    split
    · rename_i k n
      cases hx
      have hu := und_int hC hs h1
      have hu2 := und_int hC hd h2
      exact ⟨_, by simp [convert, run_underlying hu, run_underlying hu2, Conv.intToInt], .int _ _⟩
    · trivial
  · rename_i h1 h2
    split
    · rename_i s'
      cases hx
      have hu := und_str hC hs h1
      have hu2 := und_str hC hd h2
      exact ⟨_, by simp [convert, run_underlying hu, run_underlying hu2], .str _⟩
    · trivial
  · rename_i el h1 h2
    split
    · rename_i l h3 h4
      split
      · rename_i is h5
        unfold isU8 at h3
        split at h3
        · rename_i ety hety
          split at h3
          · rename_i hk
            simp only [Bool.and_eq_true] at h3
            have h6 : C.size el = 1 := by simp only [Ctx.size, hety]; exact Nat.eq_of_beq_eq_true h3.1
            exact ⟨_, toStr_ok hC H (und_slice hC hs h1) (und_int hC hety hk) (und_str hC hd h2) h3.2 hx h4 h5 h6, .str _⟩
          · cases h3
        · cases h3
      · trivial
    · trivial
  · trivial

theorem argsT_ok (hs : RS e F sl a) : ∀ (xs : List Operand) (ts : List Nat), RVs e F (argsT C sl xs ts) (xs.map a.eval)
  | [], _ => ⟨rfl, fun i c hi => by simp [argsT] at hi⟩
  | x :: xs, [] => RVs.cons.mpr ⟨ev_ok hs x, argsT_ok hs xs []⟩
  | x :: xs, t :: ts => RVs.cons.mpr ⟨evT_ok hs t x, argsT_ok hs xs ts⟩

/-! calls -/
/-- a function that may be called by its body -/
def fnOk (P : Program) (f : Nat) : Bool := match P.funcs[f]? with
  | some fn => !(fn.name == "runtime.NumGoroutine") && fn.body.isSome
  | none => false

def CallsR (P : Program) (f : Nat) (vs : Array Value) (w : World) (R : Value → World → Prop) : Prop :=
  Calls P f vs w fun | .returned v, w' => R v w' | _, _ => False

theorem call_enter {c : Call} (hop : o.op = .call c) {x : Operand} (hc : c.callee = .value x) {f : Nat} {va vb : Array Value} (hx : a.eval x = .func (.func f) va vb) (hf : fnOk P f = true) :
    (execOp a.eval o).run P w = .ok (.enter f (va ++ c.args.map a.eval ++ vb)) w := by
  unfold fnOk at hf
  split at hf
  · rename_i fn hfn
    simp only [Bool.and_eq_true, Bool.not_eq_true'] at hf
    have hn : ¬ (fn.body = none) := by intro hb; rw [hb] at hf; simp at hf
    have hnn : ¬ (fn.name = "runtime.NumGoroutine") := by intro hb; rw [hb] at hf; simp at hf
    simp [execOp, hop, resolve, hc, hx, Deferred.ofValue, invoke, callFunc, hfn, hnn, hn]
  · cases hf

theorem gives_enter {f : Nat} {vs : Array Value} {R : Value → World → Prop} (hr : (execOp a.eval o).run P w = .ok (.enter f vs) w) (h : CallsR P f vs w R) : Gives P o a w R := by
  intro next Q hn
  unfold Oper.wp
  rw [hr, Oper.upon_enter]
  refine Calls.mono h fun en w' hh => ?_
  cases en with
  | returned v => exact hn _ _ hh
  | panicked _ => exact hh.elim
  | outgrown => exact hh.elim

def SumR (P : Program) (f : Nat) (vs : Array Value) (w : World) (e : Env) (F X : FH) (h : List (Blk C.E)) : OpR C.E → Prop
  | .no => True
  | .val v => CallsR P f vs w (Post e F X w v h)
  | .chk p v => p → CallsR P f vs w (Post e F X w v h)
  | .mem v h' => CallsR P f vs w (Post e F X w v h')
  | .chm p v h' => p → CallsR P f vs w (Post e F X w v h')
  | .anyB _ => False

/-- the summaries hold of the program -/
def Valid (P : Program) (S : Sums C) : Prop := ∀ f s, S f = some s → fnOk P f = true ∧
  ∀ (e : Env) (F X : FH) (h : List (Blk C.E)) (w : World) (args : List (AV C.E)) (vs : List Value), RH e F X h w → RVs e F args vs → SumR P f vs.toArray w e F X h (s args h)

theorem fn_args {us : List Value} {first caps xs : List (AV C.E)} {f : Nat} {v : Value} (hv : RV C e F (.fn f first caps) v) (hu : RVs e F xs us) :
    ∃ va vb, v = .func (.func f) va vb ∧ RVs e F (first ++ xs ++ caps) (va ++ us.toArray ++ vb).toList := by
  cases hv with
  | fn _ _ _ va vb ha hb h1 h2 =>
    refine ⟨va, vb, rfl, ?_⟩
    have hl := hu.1
    refine ⟨by simp [ha, hb, hl], fun i c hi => ?_⟩
    simp only [Array.toList_append, List.append_assoc] at hi ⊢
    rcases Nat.lt_or_ge i first.length with g1 | g1
    · rw [List.getElem?_append_left g1] at hi
      have := h1 i c hi
      rw [List.getD_eq_getElem?_getD, List.getElem?_append_left (by simpa [ha] using g1), ← List.getD_eq_getElem?_getD, getD_toList]
      exact this
    · rw [List.getElem?_append_right g1] at hi
      rw [List.getD_eq_getElem?_getD, List.getElem?_append_right (by simpa [ha] using g1)]
      have hva : va.toList.length = first.length := by simpa using ha
      rw [hva]
      rcases Nat.lt_or_ge (i - first.length) xs.length with g2 | g2
      · rw [List.getElem?_append_left g2] at hi
        rw [List.getElem?_append_left (by omega), ← List.getD_eq_getElem?_getD]
        exact hu.2 _ c hi
      · rw [List.getElem?_append_right g2] at hi
        rw [List.getElem?_append_right (by omega), hl]
        have := h2 _ c hi
        rw [← List.getD_eq_getElem?_getD, getD_toList]
        exact this

theorem callS_ok {S : Sums C} (hS : Valid P S) (hs : RS e F sl a) (H : RH e F X h w) {c : Call} (hop : o.op = .call c) {x : Operand} (hc : c.callee = .value x) :
    Sound P o a w e F X h (callS C S h (ev C sl x) (argsT C sl c.args.toList c.argTypes.toList)) := by
  unfold callS
  split
  · rename_i f first caps hf
    split
    · rename_i s hsf
      obtain ⟨hok, hval⟩ := hS f s hsf
      have hv := ev_ok hs x
      rw [hf] at hv
      obtain ⟨va, vb, hv1, hv2⟩ := fn_args hv (argsT_ok (C := C) hs c.args.toList c.argTypes.toList)
      have hrun := call_enter (w := w) hop hc hv1 hok
      have hR := hval e F X h w _ _ H hv2
      have harr : (va ++ (c.args.toList.map a.eval).toArray ++ vb).toList.toArray = va ++ c.args.map a.eval ++ vb := by
        simp
      rw [harr] at hR
      revert hR
      generalize s (first ++ argsT C sl c.args.toList c.argTypes.toList ++ caps) h = r
      intro hR
      cases r with
      | no => trivial
      | val v => exact gives_enter hrun hR
      | chk p v => exact fun hp => gives_enter hrun (hR hp)
      | mem v h' => exact gives_enter hrun hR
      | chm p v h' => exact fun hp => gives_enter hrun (hR hp)
      | anyB p => exact hR.elim
    · trivial
  · trivial

/-! all of them -/
theorem builtin_exec {c : Call} (hop : o.op = .call c) {b : Builtin} (hc : c.callee = .builtin b) :
    ∃ cs, execOp a.eval o = Go.builtin b c.argTypes o.type cs (c.args.map a.eval) := by
  simp only [execOp, hop, resolve, hc, pure_bind, invoke]
  exact ⟨_, rfl⟩

theorem arr_of_list {α : Type} {x : Array α} {l : List α} (h : x.toList = l) : x = l.toArray := by rw [← h]

theorem RVs.two {x y : AV C.E} {us : List Value} (h : RVs e F [x, y] us) : ∃ u v, us = [u, v] ∧ RV C e F x u ∧ RV C e F y v := by
  obtain ⟨h1, h2⟩ := h
  match us, h1 with
  | [u, v], _ => exact ⟨u, v, rfl, h2 0 x rfl, h2 1 y rfl⟩

theorem RVs.one' {x : AV C.E} {us : List Value} (h : RVs e F [x] us) : ∃ u, us = [u] ∧ RV C e F x u := by
  obtain ⟨h1, h2⟩ := h
  match us, h1 with
  | [u], _ => exact ⟨u, rfl, h2 0 x rfl⟩

theorem builtin_ok (hC : Ok C P) (hs : RS e F sl a) (H : RH e F X h w) {c : Call} (hop : o.op = .call c) {b : Builtin} (hc : c.callee = .builtin b) :
    Sound P o a w e F X h (builtinOp C h b c.argTypes.toList (argsT C sl c.args.toList c.argTypes.toList)) := by
  have hu := argsT_ok (C := C) hs c.args.toList c.argTypes.toList
  obtain ⟨cs, hex⟩ := builtin_exec (a := a) hop hc
  have hmap : (c.args.map a.eval).toList = c.args.toList.map a.eval := by simp
  revert hu
  generalize argsT C sl c.args.toList c.argTypes.toList = xs
  rw [← hmap]
  intro hu
  unfold builtinOp
  split
  · rename_i t x ht
    split
    · rename_i n hn
      obtain ⟨u, h1, h2⟩ := hu.one'
      refine BOk.sound (m := Builtin.len_ c.argTypes o.type (c.args.map a.eval)) (by rw [hex]; rfl) ?_
      rw [arr_of_list h1, arr_of_list ht]
      exact ⟨_, w, len_ok hC H h2 hn _, post_val H (.int _ _)⟩
    · trivial
  · rename_i t t' x y ht
    obtain ⟨u, v, h1, h2, h3⟩ := hu.two
    refine BOk.sound (m := Builtin.append_ c.argTypes o.type (c.args.map a.eval)) (by rw [hex]; rfl) ?_
    rw [arr_of_list h1, arr_of_list ht]
    exact append_ok hC H h2 h3 _
  · rename_i t t' x y ht
    obtain ⟨u, v, h1, h2, h3⟩ := hu.two
    refine BOk.sound (m := Builtin.copy_ c.argTypes o.type (c.args.map a.eval)) (by rw [hex]; rfl) ?_
    rw [arr_of_list h1, arr_of_list ht]
    exact copy_ok hC H h2 h3 _
  · trivial
  · rename_i k x r
    split
    · rename_i n hn
      refine BOk.sound (m := Builtin.min_ c.argTypes o.type (c.args.map a.eval)) (by rw [hex]; rfl) ?_
      match hl : (c.args.map a.eval).toList, hu with
      | [], hu => exact absurd hu.1 (by simp)
      | u :: us, hu =>
        obtain ⟨h1, h2⟩ := RVs.cons.mp hu
        cases h1
        exact ⟨_, w, by rw [arr_of_list hl]; exact min_ok c.argTypes o.type h2 hn, post_val H (.int _ _)⟩
    · trivial
  · rename_i k x r
    split
    · rename_i n hn
      refine BOk.sound (m := Builtin.max_ c.argTypes o.type (c.args.map a.eval)) (by rw [hex]; rfl) ?_
      match hl : (c.args.map a.eval).toList, hu with
      | [], hu => exact absurd hu.1 (by simp)
      | u :: us, hu =>
        obtain ⟨h1, h2⟩ := RVs.cons.mp hu
        cases h1
        exact ⟨_, w, by rw [arr_of_list hl]; exact max_ok c.argTypes o.type h2 hn, post_val H (.int _ _)⟩
    · trivial
  · trivial

theorem OV_map (hs : RS e F sl a) (x : Option Operand) : OV e F (x.map (ev C sl)) (x.map a.eval) := by
  cases x with
  | none => trivial
  | some x => exact ev_ok hs x

theorem emptyP_ok (H : RH e F X h w) {x : AV C.E} {u : Value} (hx : RV C e F x u) {p : Prop} (hp : emptyP C h x = some p) : ∃ a n c, u = .slice a n c ∧ (a = none → p) := by
  unfold emptyP at hp
  split at hp
  · cases hx; cases hp; exact ⟨_, _, _, rfl, fun _ => trivial⟩
  · rename_i t l
    cases hx with
    | sl t l a c b o vs hc ha h1 h2 =>
      cases hp
      refine ⟨_, _, _, rfl, fun hn => ?_⟩
      by_cases hl : l = []
      · exact hl
      · rw [ha hl] at hn; cases hn
  · rename_i t l
    cases hx with
    | tsl t l a b o vs ha h1 h2 =>
      cases hp
      refine ⟨_, _, _, rfl, fun hn => ?_⟩
      by_cases hl : l = []
      · exact hl
      · rw [ha hl] at hn; cases hn
  · rename_i t id
    split at hp
    · rename_i t' l fro hb
      cases hp
      cases hx with
      | own _ _ ad cc h0 h1 h2 h3 =>
        refine ⟨_, _, _, rfl, fun hn => ?_⟩
        have hl := (H.blk id _ hb).1
        have hc : cc = 0 := by
          rcases Nat.eq_zero_or_pos cc with hc | hc
          · exact hc
          · rw [h3 (by omega)] at hn; cases hn
        exact List.length_eq_zero_iff.mp (by omega)
    · cases hp
  · cases hx with
    | view t id lo n a c h0 h1 h2 h3 h4 =>
      cases hp
      refine ⟨_, _, _, rfl, fun hn => Classical.byContradiction fun hne => ?_⟩
      rw [h3 (by omega)] at hn; cases hn
  · cases hx with
    | viewc t id lo n c a h0 h1 h2 h3 =>
      cases hp
      refine ⟨_, _, _, rfl, fun hn => Classical.byContradiction fun hne => ?_⟩
      rw [h3 (by omega)] at hn; cases hn
  · cases hp

theorem run_eql_nil {t el : Nat} {ad : Option Addr} {n c : Nat} (hu : P.underlying t = some (.slice el)) : (Go.binOp .eql t (.slice ad n c) (.slice none 0 0)).run P w = .ok (.bool ad.isNone) w := by
  simp only [Go.binOp]
  simp [Op.equal, Op.maxDepth, Lib.run_equalIn_slice_nil w 9999 t el ad n c 0 0 hu]
theorem run_neq_nil {t el : Nat} {ad : Option Addr} {n c : Nat} (hu : P.underlying t = some (.slice el)) : (Go.binOp .neq t (.slice ad n c) (.slice none 0 0)).run P w = .ok (.bool (!ad.isNone)) w := by
  simp only [Go.binOp]
  simp [Op.equal, Op.maxDepth, Lib.run_equalIn_slice_nil w 9999 t el ad n c 0 0 hu]

theorem nilCmp_ok (hC : Ok C P) (H : RH e F X h w) {op : BinOp} {t t' : Nat} {x y : Operand} {ax : AV C.E} {u v : Value} (hx : RV C e F ax u) (hy : RV C e F (.nils t') v) :
    VOk P w e F (do eqGuard op t x y u v; Go.binOp op t u v) (nilCmp C h op t ax) := by
  cases hy
  unfold nilCmp
  split
  · rename_i el t1 he
    cases hx
    obtain ⟨hu, _⟩ := elemOf_ok (w := w) hC he
    exact opBin_simple (by simp) (by simp) ⟨_, run_eql_nil hu, .bool _⟩
  · rename_i el t1 he
    cases hx
    obtain ⟨hu, _⟩ := elemOf_ok (w := w) hC he
    exact opBin_simple (by simp) (by simp) ⟨_, run_neq_nil hu, .bool _⟩
  · rename_i el he _
    obtain ⟨hu, _⟩ := elemOf_ok (w := w) hC he
    split
    · rename_i p hp
      obtain ⟨ad, n, c, rfl, h1⟩ := emptyP_ok H hx hp
      exact opBin_simple (by simp) (by simp) ⟨_, fun hh => h1 (by simpa using hh), run_eql_nil hu⟩
    · trivial
  · rename_i el he _
    obtain ⟨hu, _⟩ := elemOf_ok (w := w) hC he
    split
    · rename_i p hp
      obtain ⟨ad, n, c, rfl, h1⟩ := emptyP_ok H hx hp
      exact opBin_simple (by simp) (by simp) ⟨_, fun hh => h1 (by simpa using hh), run_neq_nil hu⟩
    · trivial
  · trivial

theorem opF_ok (hC : Ok C P) {S : Sums C} (hS : Valid P S) (hs : RS e F sl a) (H : RH e F X h w) (o : Oper) : Sound P o a w e F X h (opF C S sl h o) := by
  unfold opF
  cases hop : o.op with
  | move x => exact gives_value (by simp [execOp, hop]) (post_val H (evT_ok hs _ x))
  | assign x => exact gives_value (by simp [execOp, hop]) (post_val H (evT_ok hs _ x))
  | pick c x y =>
    simp only
    have hc := ev_ok (C := C) hs c
    split
    · rename_i h1
      rw [h1] at hc
      exact gives_value (rv := a.eval x) (w' := w) (by simp [execOp, hop, hc.bool_inv, asBool]) (post_val H (evT_ok hs _ x))
    · rename_i h1
      rw [h1] at hc
      exact gives_value (rv := a.eval y) (w' := w) (by simp [execOp, hop, hc.bool_inv, asBool]) (post_val H (evT_ok hs _ y))
    · trivial
  | alloc t =>
    simp only
    split
    · rename_i ty hty
      split
      · split
        · rename_i n el ha
          exact allocArr_ok hC H ha hop
        · trivial
      · rename_i ha
        exact alloc_ok hC H hty ha hop
    · trivial
  | box t x =>
    simp only
    have hx := evT_ok (C := C) hs t x
    split
    · rename_i el l h1
      rw [h1] at hx
      exact boxArr_ok H hx hop
    · split
      · rename_i hty hcs
        split
        · exact box_ok H hx hcs hop
        · trivial
      · trivial
  | build t parts =>
    simp only
    split
    · rename_i ty hty
      split
      · rename_i fs hk
        split
        · rename_i cs hcs
          obtain ⟨arr, h1, h2⟩ := build_ok (w := w) hC hs hty hk hcs
          exact gives_value (rv := .agg arr) (w' := w) (by simp [execOp, hop, h1]) (post_val H (.agg cs arr h2.1 (fun i c hi => (h2.2 i c hi).1) (fun i c hi => (h2.2 i c hi).2)))
        · trivial
      · trivial
    · trivial
  | buildSlice t n parts =>
    simp only
    split
    · rename_i el he
      split
      · rename_i hb
        simp only [Bool.and_eq_true] at hb
        obtain ⟨⟨⟨h1, h2⟩, h3⟩, h4⟩ := hb
        split
        · rename_i xs h' hx
          exact buildSlice_ok hC hs H he h1 (Nat.eq_of_beq_eq_true h2) (by simpa [Nat.blt_eq] using h3) (Nat.le_of_ble_eq_true h4) hx hop
        · trivial
      · trivial
    · trivial
  | load t x =>
    simp only
    have hx := ev_ok (C := C) hs x
    split
    · rename_i n el ha
      exact VOk.sound H (m := Instr.loadAt t (a.eval x)) (by simp [execOp, hop]) (loadArr_ok hC H ha hx)
    · split
      · rename_i cs off hc
        unfold okv
        split
        · rename_i v hv
          obtain ⟨rv, h1, h2⟩ := load_ok hC H hx hc hv
          exact gives_value (rv := rv) (w' := w) (by simp [execOp, hop, h1]) (post_val H h2)
        · trivial
      · trivial
  | store t p x =>
    simp only
    split
    · rename_i vs ty hcs hty
      split
      · rename_i hlen
        split
        · rename_i h' hst
          obtain ⟨g1, g2⟩ := cellsOf_ok (evT_ok (C := C) hs t x) hcs
          obtain ⟨ad, w', F', k1, k2, k3, k4, k5⟩ := storeAt_ok hC H (ev_ok hs p) (us := (a.eval x).cells.toList) ⟨by simpa using g1, fun i c hi => by rw [getD_toList]; exact (g2 i c hi).2⟩ (fun j c hj => (g2 j c hj).1) hst
          have hagg : (storeVar t ad (a.eval x)).run P w = .ok () w' := by
            have hsz : (sizeOf t).run P w = .ok (a.eval x).cells.size w := by
              obtain ⟨i, z, hi, hsz, _⟩ := ty_info hC hty
              have := Nat.eq_of_beq_eq_true hlen
              simp [sizeOf, run_typeInfo w hi, hsz, g1, this]
            simp [storeVar, hsz, k2]
          exact gives_skip (by simp [execOp, hop, Instr.storeAt, Instr.sureAddr, k1, hagg]) ⟨e, F', ELe.refl e, k3, .top _, k4, k5⟩
        · trivial
      · trivial
    · trivial
  | nilCheck x =>
    simp only
    have hx := ev_ok (C := C) hs x
    split <;> first
      | trivial
      | skip
    all_goals
      rename_i h1
      rw [h1] at hx
      refine gives_value (rv := a.eval x) (w' := w) ?_ (post_val H hx)
      revert hx
      generalize hv : a.eval x = v
      intro hx
      cases hx
      simp [execOp, hop, hv]
  | binOp op t x y k =>
    have hy := evT_ok hs t y
    simp only
    split
    · rename_i t' he
      rw [he] at hy
      exact VOk.sound H (m := do eqGuard op t x y (a.eval x) (a.eval y); Go.binOp op t (a.eval x) (a.eval y)) (by simp [execOp, hop]) (nilCmp_ok hC H (evT_ok hs t x) hy)
    · exact VOk.sound H (m := do eqGuard op t x y (a.eval x) (a.eval y); Go.binOp op t (a.eval x) (a.eval y)) (by simp [execOp, hop]) (opBin_ok hC (evT_ok hs t x) hy)
  | unOp op t x =>
    simp only
    have hx := ev_ok (C := C) hs x
    split
    · rename_i h1
      rw [h1] at hx
      exact gives_value (w' := w) (by simp [execOp, hop, hx.bool_inv, Op.unary]) (post_val H (.bool _))
    · rename_i h1
      rw [h1] at hx
      exact gives_value (w' := w) (by simp [execOp, hop, hx.int_inv, Op.unary, Op.intArith]) (post_val H (.int _ _))
    · rename_i h1
      rw [h1] at hx
      exact gives_value (w' := w) (by simp only [execOp, hop, hx.int_inv, Op.unary, Op.intBits]; rfl) (post_val H (.int _ _))
    · trivial
  | convert s d x =>
    simp only
    split
    · rename_i sty dty hsty hdty
      exact VOk.sound H (m := Go.convert s d (a.eval x)) (by simp [execOp, hop]) (convert_ok hC H hsty hdty (evT_ok hs s x))
    · trivial
  | makeFunc fn first caps =>
    simp only
    split
    · rename_i f
      refine gives_value (rv := .func (.func f) (first.map a.eval) (caps.map a.eval)) (w' := w) (by simp [execOp, hop, Instr.makeFunc]) (post_val H (.fn f _ _ _ _ (by simp) (by simp) (fun i c hi => ?_) (fun i c hi => ?_)))
      · rw [List.getElem?_map] at hi
        have hi' : i < first.size := by
          cases hh : first.toList[i]? with
          | none => rw [hh] at hi; cases hi
          | some y => have := (List.getElem?_eq_some_iff.mp hh).1; simpa using this
        have : c = ev C sl first[i] := by
          have hg : first.toList[i]? = some first[i] := by simp [hi']
          rw [hg] at hi; simpa using hi.symm
        subst this
        simpa [hi'] using ev_ok (C := C) hs first[i]
      · rw [List.getElem?_map] at hi
        have hi' : i < caps.size := by
          cases hh : caps.toList[i]? with
          | none => rw [hh] at hi; cases hi
          | some y => have := (List.getElem?_eq_some_iff.mp hh).1; simpa using this
        have : c = ev C sl caps[i] := by
          have hg : caps.toList[i]? = some caps[i] := by simp [hi']
          rw [hg] at hi; simpa using hi.symm
        subst this
        simpa [hi'] using ev_ok (C := C) hs caps[i]
    · trivial
  | makeSlice t l c =>
    simp only
    have hl := ev_ok (C := C) hs l
    have hcp := ev_ok (C := C) hs c
    split
    · rename_i el k n k' m he h1 h2
      rw [h1] at hl
      rw [h2] at hcp
      split
      · rename_i ety hety
        split
        · rename_i ha
          intro hp
          obtain ⟨rfl, p1, p2, p3⟩ := hp
          exact makeSlice_ok hC H he hety ha hl.int_inv hcp.int_inv p1 p2 p3 hop
        · trivial
      · trivial
    · trivial
  | slice t x lo hi mx =>
    cases mx with
    | some m =>
      simp only
      cases hi with
      | none => split <;> first | trivial | (rename_i hh; cases hh)
      | some hi =>
        split
        · rename_i el hi' he hh
          cases hh
          exact VOk.sound H (m := Instr.sliceAt t (a.eval x) (lo.map a.eval) (some (a.eval hi)) (some (a.eval m))) (by simp [execOp, hop]) (slice3_ok hC H he (evT_ok hs t x) (OV_map (C := C) hs lo) (ev_ok hs hi) (ev_ok hs m))
        · trivial
    | none =>
      simp only
      have hx := evT_ok (C := C) hs t x
      have hm : execOp a.eval o = (do pure (.value (← Instr.sliceAt t (a.eval x) (lo.map a.eval) (hi.map a.eval) none))) := by simp [execOp, hop]
      split
      · rename_i s h1
        rw [h1] at hx
        split
        · rename_i ty hty
          split
          · rename_i hk
            have := strSlice_ok (P := P) (w := w) (und_str hC hty hk) (s := s) (OV_map (C := C) hs lo) (OV_map (C := C) hs hi)
            rw [← hx.str_inv] at this
            exact VOk.sound H hm this
          · trivial
        · trivial
      · split
        · rename_i el he
          exact VOk.sound H hm (slice_ok hC H he hx (OV_map (C := C) hs lo) (OV_map (C := C) hs hi))
        · trivial
  | fieldAddr t x f =>
    simp only
    have hx := ev_ok (C := C) hs x
    have hm : execOp a.eval o = (do pure (.value (← Instr.fieldAt t (a.eval x) f))) := by simp [execOp, hop]
    split
    · rename_i off _ _ _ hf h1
      rw [h1] at hx
      exact VOk.sound H hm (fieldAddr_ok (w := w) hC hf hx)
    · rename_i off _ _ _ _ _ hf h1
      rw [h1] at hx
      exact VOk.sound H hm (fieldAddr_ok (w := w) hC hf hx)
    · rename_i hf h1
      rw [h1] at hx
      exact VOk.sound H hm (fieldAddr_ok (w := w) hC hf hx)
    · trivial
  | field t x f =>
    simp only
    have hx := ev_ok (C := C) hs x
    split
    · rename_i off ft cs hf h1
      rw [h1] at hx
      unfold okv
      split
      · rename_i v hv
        obtain ⟨g, hg, hgf, rfl, rfl, hpos⟩ := fieldOf_ok hC hf
        revert hx
        generalize hv' : a.eval x = u
        intro hx
        cases hx with
        | agg _ vs hsz g1 g2 =>
          obtain ⟨rv, k1, k2⟩ := field_ok hC hsz g1 g2 hv w
          exact gives_value (rv := rv) (w' := w) (by simp [execOp, hop, Instr.field, run_underlying hg, hgf, hv', asAgg, k1]) (post_val H k2)
      · trivial
    · trivial
  | indexAddr t x i =>
    simp only
    have hx := evT_ok (C := C) hs t x
    have hx' := ev_ok (C := C) hs x
    have hi := ev_ok (C := C) hs i
    have hm : execOp a.eval o = (do pure (.value (← Instr.indexAt t (a.eval x) (a.eval i)))) := by simp [execOp, hop]
    split
    · rename_i k n h1
      rw [h1] at hi
      rw [hi.int_inv] at hm
      split
      · rename_i el he
        exact VOk.sound H hm (indexAddr_ok hC H he hx)
      · split
        · rename_i n' el ha
          exact VOk.sound H hm (arrAddr_ok hC H ha hx')
        · trivial
    · trivial
  | index t x i =>
    simp only
    have hx := ev_ok (C := C) hs x
    have hi := ev_ok (C := C) hs i
    split
    · rename_i ty s k n hty h1 h2
      rw [h1] at hx
      rw [h2] at hi
      split
      · rename_i hk
        intro hp
        exact gives_value (w' := w) (by simp [execOp, hop, hx.str_inv, hi.int_inv, index_str_ok (und_str hC hty hk) hp]) (post_val H (.int _ _))
      · trivial
    · rename_i ty el l k n hty h1 h2
      rw [h1] at hx
      rw [h2] at hi
      split
      · rename_i m el' ha
        split
        · rename_i v heq hag henc
          obtain rfl := Nat.eq_of_beq_eq_true heq
          intro hp
          obtain ⟨rv, k1, k2⟩ := indexArr_ok (w := w) (k := k) hC ha hag hx henc hp
          exact gives_value (rv := rv) (w' := w) (by simp [execOp, hop, hi.int_inv, k1]) (post_val H k2)
        · trivial
      · trivial
    · trivial
  | extract x i =>
    simp only
    have hx := ev_ok (C := C) hs x
    split
    · rename_i vs h1
      rw [h1] at hx
      unfold okv
      split
      · rename_i v hv
        revert hx
        generalize hv' : a.eval x = u
        intro hx
        cases hx with
        | tuple _ us hsz g =>
          have hlt : i < us.size := by rw [hsz]; exact (List.getElem?_eq_some_iff.mp hv).1
          exact gives_value (rv := us.getD i undef) (w' := w) (by simp [execOp, hop, Instr.extract, hv', hlt]) (post_val H (g i v hv))
      · trivial
    · trivial
  | call c =>
    simp only
    split
    · rename_i b hc
      exact builtin_ok hC hs H hop hc
    · rename_i f hc
      exact callS_ok hS hs H hop hc
    · trivial
  | _ => trivial

end
end Go.Proofs.Ytgplkdcibahofaa.Ev
