/-
  One step of the evaluator's: an operation with what follows, and its guard. No program is named here.
-/
import Derived.Test.YtgplkdcibahofaaEvCode
namespace Go.Proofs.Ytgplkdcibahofaa.Ev
open Go

section
variable {C : Ctx} {P : Program} {e : Env} {F X : FH} {h : List (Blk C.E)} {w : World} {sl : Tr C.E} {a : Act} {o : Oper}

/-- what comes of something, as long as K says of it -/
def PostK (e : Env) (F X : FH) (w : World) (K : AV C.E → List (Blk C.E) → Prop) (rv : Value) (w' : World) : Prop := ∃ v h', Post e F X w v h' rv w' ∧ K v h'

theorem Gives.mono {R R' : Value → World → Prop} (h : Gives P o a w R) (hr : ∀ rv w', R rv w' → R' rv w') : Gives P o a w R' :=
  fun next Q hn => h next Q fun rv w' hh => hn rv w' (hr rv w' hh)

theorem after_ok {r : OpR C.E} {K : AV C.E → List (Blk C.E) → Prop} {other : Prop} (hr : Sound P o a w e F X h r) (hk : after C h r K other) (ho : other → Gives P o a w (PostK e F X w K)) : Gives P o a w (PostK e F X w K) := by
  cases r with
  | no => exact ho hk
  | val v =>
    simp only [after, forceV_eq] at hk
    exact Gives.mono hr fun rv w' hh => ⟨v, h, hh, hk⟩
  | chk p v =>
    simp only [after, forceV_eq] at hk
    exact Gives.mono (hr hk.1) fun rv w' hh => ⟨v, h, hh, hk.2⟩
  | mem v h' =>
    simp only [after, forceV_eq, forceH_eq] at hk
    exact Gives.mono hr fun rv w' hh => ⟨v, h', hh, hk⟩
  | chm p v h' =>
    simp only [after, forceV_eq, forceH_eq] at hk
    exact Gives.mono (hr hk.1) fun rv w' hh => ⟨v, h', hh, hk.2⟩
  | anyB p =>
    simp only [after] at hk
    exact Gives.mono hr fun rv w' ⟨b, hb, hh⟩ => ⟨.bool b, h, hh, hk b hb⟩

/-- calls by bodies hold of the program -/
def EnterOk (P : Program) (N : Enter C) : Prop := ∀ f args h K, N f args h K → fnOk P f = true ∧
  ∀ (e : Env) (F X : FH) (w : World) (vs : List Value), RH e F X h w → RVs e F args vs → CallsR P f vs.toArray w (PostK e F X w K)

theorem opK_ok (hC : Ok C P) {S : Sums C} (hS : Valid P S) {N : Enter C} (hN : EnterOk P N) (hs : RS e F sl a) (H : RH e F X h w) {K : AV C.E → List (Blk C.E) → Prop} (hk : opK C S N sl h o K) : Gives P o a w (PostK e F X w K) := by
  unfold opK at hk
  refine after_ok (opF_ok hC hS hs H o) hk fun ho => ?_
  split at ho
  · rename_i c hop
    split at ho
    · rename_i x hc
      split at ho
      · rename_i g first caps hf
        obtain ⟨hok, hcall⟩ := hN _ _ _ _ ho
        have hv := ev_ok (C := C) hs x
        rw [hf] at hv
        obtain ⟨va, vb, hv1, hv2⟩ := fn_args hv (argsT_ok (C := C) hs c.args.toList c.argTypes.toList)
        have hrun := call_enter (w := w) hop hc hv1 hok
        have hR := hcall e F X w _ H hv2
        have harr : (va ++ (c.args.toList.map a.eval).toArray ++ vb).toList.toArray = va ++ c.args.map a.eval ++ vb := by simp
        rw [harr] at hR
        exact gives_enter hrun hR
      · exact ho.elim
    · exact ho.elim
  · exact ho.elim

def opDst (nt : Nat) (o : Oper) : Bool := match o.dst with
  | some d => Nat.blt d nt
  | none => true

theorem RS.put (hs : RS e F sl a) {d : Nat} {v : AV C.E} {rv : Value} (hv : RV C e F v rv) (hd : d < a.tmps.size) {sl' : Tr C.E} (hg : ∀ m, sl'.get m = if m = d then v else sl.get m) : RS e F sl' (a.put (some d) rv) := by
  refine ⟨fun t => ?_, hs.def_⟩
  rw [hg]
  by_cases ht : t = d
  · subst ht; simp [Act.put, hd]; exact hv
  · rw [if_neg ht]
    have := hs.reg t
    simpa [Act.put, Array.getElem?_setIfInBounds_ne (Ne.symm ht)] using this

/-- a result is put into its register -/
theorem put_ok (hs : RS e F sl a) {v : AV C.E} {rv : Value} (hv : RV C e F v rv) {nt : Nat} (hnt : nt ≤ a.tmps.size) (hd : opDst nt o = true) {K : Tr C.E → Prop} (hk : put C sl o.dst v K) :
    ∃ sl', K sl' ∧ RS e F sl' (a.put o.dst rv) ∧ nt ≤ (a.put o.dst rv).tmps.size := by
  unfold put at hk
  unfold opDst at hd
  split at hk
  · rename_i d hdst
    rw [hdst] at hd ⊢
    have hlt : d < nt := by simpa [Nat.blt_eq] using hd
    obtain ⟨sl', h1, h2⟩ := setK_ok fuel hk
    exact ⟨sl', h1, hs.put hv (by omega) h2, by simpa [Act.put] using hnt⟩
  · rename_i hdst
    rw [hdst]
    exact ⟨sl, hk, hs, hnt⟩

theorem RS.mono {e' : Env} {F' : FH} (he : ELe e e') (hF : FLe F F') (hs : RS e F sl a) : RS e' F' sl a := ⟨fun t => (hs.reg t).mono he hF, hs.def_⟩

theorem RS.congr {sl' : Tr C.E} (hs : RS e F sl a) (hg : ∀ n, sl'.get n = sl.get n) : RS e F sl' a := ⟨fun t => by rw [hg]; exact hs.reg t, hs.def_⟩

theorem skip_rv : RV C e F (.tuple []) undef := .tuple [] #[] rfl (fun i c hi => by simp at hi)
theorem skip_inv {v : Value} (h : RV C e F (.tuple []) v) : v = undef := by
  cases h with
  | tuple cs vs hs h => rw [undef, Array.eq_empty_of_size_eq_zero hs]

theorem guarded_ok {ops : Array Oper} {run skip : Tr C.E → Prop} (hreg : ∀ (j : Nat) (want : Bool) (oj : Oper) (t : Nat), o.guard = some (j, want) → ops[j]? = some oj → oj.dst = some t → RV C e F (sl.get t) (a.tmps.getD t undef))
    (hk : guarded C ops.toList sl o run skip) :
    ∃ sl', (∀ n, sl'.get n = sl.get n) ∧ ((Region.wanted o (yielded ops a.tmps) = true ∧ run sl') ∨ (Region.wanted o (yielded ops a.tmps) = false ∧ skip sl')) := by
  unfold guarded at hk
  split at hk
  · rename_i hg
    exact ⟨sl, fun _ => rfl, .inl ⟨by simp [Region.wanted, hg], hk⟩⟩
  · rename_i j want hg
    split at hk
    · rename_i oj hoj
      split at hk
      · rename_i t ht
        split at hk
        · rename_i b hb
          have hoj' : ops[j]? = some oj := by simpa using hoj
          have hr := hreg j want oj t hg hoj' ht
          rw [hb] at hr
          have hbv := hr.bool_inv
          have ht2 : a.tmps[t]? = some (.bool b) := by
            cases hh : a.tmps[t]? with
            | none => simp [hh] at hbv; exact absurd hbv (by simp [undef])
            | some u => simp [hh] at hbv; rw [hbv]
          have hy : yielded ops a.tmps j = some b := by simp [yielded, hoj', ht, ht2]
          have hset : ∀ (b' : Bool) (K : Tr C.E → Prop), b = b' → setK fuel sl t (.bool b') K → ∃ sl', (∀ n, sl'.get n = sl.get n) ∧ K sl' := by
            intro b' K hbb hh
            obtain ⟨s1, h1, h2⟩ := setK_ok fuel hh
            refine ⟨s1, fun n => ?_, h1⟩
            rw [h2]
            split
            · rename_i hn; rw [hn, hb, hbb]
            · rfl
          have hw : Region.wanted o (yielded ops a.tmps) = (b == want) := by
            simp only [Region.wanted, hg, hy]
            rfl
          rw [hw]
          cases want <;> cases b <;> simp only [br] at hk
          · obtain ⟨s1, h1, h2⟩ := hset _ _ rfl hk; exact ⟨s1, h1, .inl ⟨rfl, h2⟩⟩
          · obtain ⟨s1, h1, h2⟩ := hset _ _ rfl hk; exact ⟨s1, h1, .inr ⟨rfl, h2⟩⟩
          · obtain ⟨s1, h1, h2⟩ := hset _ _ rfl hk; exact ⟨s1, h1, .inr ⟨rfl, h2⟩⟩
          · obtain ⟨s1, h1, h2⟩ := hset _ _ rfl hk; exact ⟨s1, h1, .inl ⟨rfl, h2⟩⟩
        · rename_i vs hb
          split at hk
          · have hoj' : ops[j]? = some oj := by simpa using hoj
            have hr := hreg j want oj t hg hoj' ht
            rw [hb] at hr
            have hy : yielded ops a.tmps j = none := by
              have h1 := skip_inv hr
              unfold yielded
              simp only [hoj', ht, Option.bind_some]
              cases hh : a.tmps[t]? with
              | none => rfl
              | some u => simp [hh] at h1; subst h1; rfl
            refine ⟨sl, fun _ => rfl, .inr ⟨?_, hk⟩⟩
            simp only [Region.wanted, hg, hy]
            rfl
          · exact hk.elim
        · exact hk.elim
      · exact hk.elim
    · exact hk.elim

/-- operations in their order -/
theorem opsK_ok (hC : Ok C P) {S : Sums C} (hS : Valid P S) {N : Enter C} (hN : EnterOk P N) {ops : Array Oper} {nt : Nat} {e0 : Env} {F0 : FH} {w0 : World} {K : Tr C.E → List (Blk C.E) → Prop} {Q : Exit → Act → World → Prop}
    (hQ : ∀ sl h a w, St e0 F0 X w0 nt sl h a w → K sl h → Q .normal a w) : ∀ (l : List Oper) (i : Nat) (sl : Tr C.E) (h : List (Blk C.E)) (a : Act) (w : World), ops.toList.drop i = l → l.all (opDst nt) = true → St e0 F0 X w0 nt sl h a w →
      opsK C S N ops.toList l sl h K → wpOps P ops Q (List.range' i l.length) a w
  | [], i, sl, h, a, w, hl, hd, hs, hk => hQ _ _ _ _ hs hk
  | o :: r, i, sl, h, a, w, hl, hd, hs, hk => by
    have hoi : ops.toList[i]? = some o := by
      have := List.getElem?_drop (xs := ops.toList) (i := i) (j := 0)
      rw [hl] at this
      simpa using this.symm
    have hr : ops.toList.drop (i + 1) = r := by
      rw [← List.drop_drop, hl]; rfl
    have hoi' : ops[i]? = some o := by simpa using hoi
    rw [List.all_cons, Bool.and_eq_true] at hd
    unfold opsK at hk
    obtain ⟨e, F, h1, h2, h3, h4, h5, h6⟩ := hs
    obtain ⟨sl1, hg, hh⟩ := guarded_ok (fun _ _ _ t _ _ _ => h3.reg t) hk
    rw [List.length_cons, List.range'_succ, wpOps_cons]
    unfold wpOp
    simp only [hoi']
    rcases hh with ⟨hw, hrun⟩ | ⟨hw, hskip⟩
    · simp only [hw, if_true]
      refine .inl (opK_ok hC hS hN (h3.congr hg) h4 hrun _ _ fun rv w' hp => ?_)
      obtain ⟨v, h', ⟨e', F', k1, k2, k3, k4, k5⟩, hK⟩ := hp
      obtain ⟨sl2, m1, m2, m3⟩ := put_ok ((h3.congr hg).mono k1 k2) k3 h6 hd.1 hK
      exact opsK_ok hC hS hN hQ r (i + 1) sl2 h' _ w' hr hd.2 ⟨e', F', h1.trans k1, h2.trans k2, m2, k4, h5.trans k5, m3⟩ m1
    · simp only [hw, Bool.false_eq_true, if_false]
      obtain ⟨sl2, m1, m2, m3⟩ := put_ok (h3.congr hg) skip_rv h6 hd.1 hskip
      exact opsK_ok hC hS hN hQ r (i + 1) sl2 h _ w hr hd.2 ⟨e, F, h1, h2, m2, h4, h5, m3⟩ m1

end
end Go.Proofs.Ytgplkdcibahofaa.Ev
