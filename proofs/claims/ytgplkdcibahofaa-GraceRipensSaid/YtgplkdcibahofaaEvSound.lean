/-
  The evaluator says of the machine's calls what it says of its own. No program is named here.
-/
import Derived.Test.YtgplkdcibahofaaEvDraw6
namespace Go.Proofs.Ytgplkdcibahofaa.Ev
open Go

section
variable {C : Ctx} {P : Program} {e : Env} {F X : FH} {h : List (Blk C.E)} {w : World} {sl : Tr C.E} {a : Act} {o : Oper}

def dstsOk (nt : Nat) : Code → Bool
  | .region _ ops _ => ops.toList.all (opDst nt)
  | .seq a b => dstsOk nt a && dstsOk nt b
  | .cond _ a b => dstsOk nt a && dstsOk nt b
  | .block _ b => dstsOk nt b
  | .loop b => dstsOk nt b
  | _ => true

def toExit : Ex → Exit
  | .normal => .normal
  | .exit i => .exit i
  | .ret => .ret

theorem St.drawn {e0 : Env} {F0 : FH} {w0 : World} {nt : Nat} (hs : St e0 F0 X w0 nt sl h a w) : St e0 F0 X w0 nt sl h a { w with drawn := w.drawn + 1 } := by
  obtain ⟨e, F, h1, h2, h3, h4, h5, h6⟩ := hs
  exact ⟨e, F, h1, h2, h3, ⟨h4.sz, h4.fro, h4.out, h4.apart, h4.blk, h4.inj, h4.mine⟩, ⟨h5.os, h5.tape, h5.output, h5.size⟩, h6⟩

/-- a loop, by how many rounds it has left at most -/
theorem wp_rounds {c : Code} {Q : Exit → Act → World → Prop} (J : Nat → Act → World → Prop) {n : Nat} (h0 : J n a w)
    (round : ∀ n a w, J n a w → c.wp P (Exit.then (fun a' w' => ∃ m, m < n ∧ J m a' w') Q) a w) : (Code.loop c).wp P Q a w := by
  have least : ∀ n a w, J n a w → ∃ m, J m a w ∧ ∀ k, J k a w → m ≤ k := by
    intro n
    induction n using Nat.strongRecOn with
    | _ n ih =>
      intro a w hn
      by_cases hh : ∃ k, k < n ∧ J k a w
      · obtain ⟨k, h1, h2⟩ := hh
        exact ih k h1 a w h2
      · refine ⟨n, hn, fun k hk => ?_⟩
        rcases Nat.lt_or_ge k n with h1 | h1
        · exact absurd ⟨k, h1, hk⟩ hh
        · exact h1
  have mu : ∃ μ : Act → World → Nat, ∀ n a w, J n a w → J (μ a w) a w ∧ ∀ k, J k a w → μ a w ≤ k := by
    refine ⟨fun a w => Classical.epsilon fun m => J m a w ∧ ∀ k, J k a w → m ≤ k, fun n a w hn => ?_⟩
    exact Classical.epsilon_spec (least n a w hn)
  obtain ⟨μ, hμ⟩ := mu
  refine wp_loop (fun a w => ∃ n, J n a w) μ ⟨n, h0⟩ fun a w ⟨n, hn⟩ => ?_
  obtain ⟨h1, h2⟩ := hμ n a w hn
  refine wp_mono (round _ a w h1) fun e a' w' hq => ?_
  cases e with
  | normal =>
    obtain ⟨m, h3, h4⟩ := hq
    exact ⟨⟨m, h4⟩, Nat.lt_of_le_of_lt ((hμ m a' w' h4).2 m h4) h3⟩
  | _ => exact hq

theorem code_ok (hC : Ok C P) {S : Sums C} (hS : Valid P S) {N : Enter C} (hN : EnterOk P N) {kills : List (Nat × List Nat)} {nt : Nat} {e0 : Env} {F0 : FH} {w0 : World} :
    ∀ (c : Code) {K : Ex → Tr C.E → List (Blk C.E) → Prop} {Q : Exit → Act → World → Prop} {sl : Tr C.E} {h : List (Blk C.E)} {a : Act} {w : World}, dstsOk nt c = true → St e0 F0 X w0 nt sl h a w → codeK C S N e0.sz kills c sl h K →
      (∀ e sl h a w, St e0 F0 X w0 nt sl h a w → K e sl h → Q (toExit e) a w) → c.wp P Q a w := by
  intro c
  induction c with
  | skip => intro K Q sl h a w _ hs hk hQ; exact wp_skip (hQ .normal _ _ _ _ hs hk)
  | region id ops draw =>
    intro K Q sl h a w hd hs hk hQ
    cases draw with
    | false =>
      refine wp_region ?_
      have := opsK_ok hC hS hN (ops := ops) (nt := nt) (fun sl h a w hs hk => hQ .normal sl h a w hs hk) ops.toList 0 sl h a w rfl hd hs hk
      rw [Array.length_toList, ← List.range_eq_range'] at this
      exact this
    | true => exact wp_region_any hC.orders (draw_ok hC hS hd hs.drawn hk fun sl h a w hs hk => hQ .normal sl h a w hs hk)
  | seq x y ihx ihy =>
    intro K Q sl h a w hd hs hk hQ
    simp only [dstsOk, Bool.and_eq_true] at hd
    refine wp_seq (ihx hd.1 hs hk fun e sl h a w hs hk => ?_)
    cases e with
    | normal => exact ihy hd.2 hs hk hQ
    | exit i => exact hQ (.exit i) sl h a w hs hk
    | ret => exact hQ .ret sl h a w hs hk
  | cond c x y ihx ihy =>
    intro K Q sl h a w hd hs hk hQ
    simp only [dstsOk, Bool.and_eq_true] at hd
    simp only [codeK] at hk
    split at hk
    · rename_i b hb
      have hs' := hs
      obtain ⟨e, F, h1, h2, h3, h4, h5, h6⟩ := hs'
      have hv := ev_ok (C := C) h3 c
      rw [hb] at hv
      cases b with
      | true => exact wp_cond_true hv.bool_inv (ihx hd.1 hs hk hQ)
      | false => exact wp_cond_false hv.bool_inv (ihy hd.2 hs hk hQ)
    · exact hk.elim
  | block id b ih =>
    intro K Q sl h a w hd hs hk hQ
    refine wp_block (ih hd hs hk fun e sl h a w hs hk => ?_)
    cases e with
    | normal => exact hQ .normal sl h a w hs hk
    | exit i =>
      simp only [] at hk
      show if i = id then Q .normal a w else Q (.exit i) a w
      split at hk
      · rename_i hi
        rw [if_pos (Nat.eq_of_beq_eq_true hi)]
        exact hQ .normal sl h a w hs hk
      · rename_i hi
        have : i ≠ id := by intro hh; subst hh; simp at hi
        rw [if_neg this]
        exact hQ (.exit i) sl h a w hs hk
    | ret => exact hQ .ret sl h a w hs hk
  | loop b ih =>
    intro K Q sl h a w hd hs hk hQ
    simp only [codeK] at hk
    obtain ⟨s1, h1, hs1, n, hn⟩ := canon_ok hC hs hk
    refine wp_rounds (fun n a w => ∃ sl h, St e0 F0 X w0 nt sl h a w ∧ iter C (codeK C S N e0.sz kills b) (canonK C e0.sz (killsOf kills (firstRegion b))) K n sl h) (n := n) ⟨s1, h1, hs1, hn⟩ fun n a w ⟨sl, h, hs, hit⟩ => ?_
    cases n with
    | zero => exact hit.elim
    | succ n =>
      refine ih hd hs hit fun e sl h a w hs hk => ?_
      cases e with
      | normal =>
        obtain ⟨s2, h2, hs2, h3⟩ := canon_ok hC hs hk
        exact ⟨n, Nat.lt_succ_self n, s2, h2, hs2, h3⟩
      | exit i => exact hQ (.exit i) sl h a w hs hk
      | ret => exact hQ .ret sl h a w hs hk
  | exit i => intro K Q sl h a w _ hs hk hQ; exact wp_exit (hQ (.exit i) _ _ _ _ hs hk)
  | ret => intro K Q sl h a w _ hs hk hQ; exact wp_ret (hQ .ret _ _ _ _ hs hk)
  | _ => intro K Q sl h a w _ hs hk hQ; exact hk.elim

/-! what is handed in, and back -/
theorem argsK_ok : ∀ (l : List (AV C.E)) (n : Nat) (t : Tr C.E) {K : Tr C.E → Prop}, argsK C n l t K → ∃ t', K t' ∧ ∀ m, t'.get m = if n ≤ m ∧ m < n + l.length then l.getD (m - n) .top else t.get m
  | [], n, t, K, h => ⟨t, h, fun m => by rw [if_neg (by intro hh; simp at hh; omega)]⟩
  | v :: r, n, t, K, h => by
    simp only [argsK, forceV_eq] at h
    obtain ⟨t1, h1, h2⟩ := setK_ok fuel h
    obtain ⟨t2, h3, h4⟩ := argsK_ok r (n + 1) t1 h1
    refine ⟨t2, h3, fun m => ?_⟩
    rw [h4, h2]
    by_cases hm : m = n
    · subst hm
      rw [if_neg (by omega), if_pos rfl, if_pos (by simp)]
      simp
    · by_cases hm2 : n + 1 ≤ m ∧ m < n + 1 + r.length
      · rw [if_pos hm2, if_pos (by simp; omega)]
        rw [show m - n = (m - (n + 1)) + 1 by omega]
        simp
      · rw [if_neg hm2, if_neg hm, if_neg (by simp; omega)]

def resM (a : Act) : ResultVar → Sem Value
  | .tmp t => pure (a.tmps.getD t undef)
  | .cell b t => do loadVar t (← asAddr (a.tmps.getD b undef))

theorem results_eq (fn : Func) (a : Act) : results fn a.tmps = (do let vs ← fn.results.mapM (resM a); pure (if h : vs.size = 1 then vs[0] else .tuple vs)) := by
  unfold results
  congr 1

theorem resOne_ok (hC : Ok C P) (hs : RS e F sl a) (H : RH e F X h w) {r : ResultVar} {v : AV C.E} (hr : resOne C sl h r = some v) :
    ∃ rv, (resM a r).run P w = .ok rv w ∧ RV C e F v rv := by
  cases r with
  | tmp t =>
    simp only [resOne, Option.some.injEq] at hr
    subst hr
    exact ⟨_, rfl, hs.reg t⟩
  | cell b t =>
    simp only [resOne] at hr
    split at hr
    · rename_i cs off hc
      obtain ⟨b', o, h1, hcs⟩ := cellsAt_ok hC H (hs.reg b) hc
      obtain ⟨rv, h2, h3⟩ := loadVar_ok hC hcs hr
      exact ⟨rv, by simp only [resM]; rw [h1]; simp [asAddr, h2], h3⟩
    · cases hr

theorem resAll_ok (hC : Ok C P) (hs : RS e F sl a) (H : RH e F X h w) : ∀ {rs : List ResultVar} {vs : List (AV C.E)}, resAll C sl h rs = some vs → ∃ us, (rs.mapM (resM a)).run P w = .ok us w ∧ RVs e F vs us
  | [], vs, hr => by
    simp only [resAll, Option.some.injEq] at hr
    subst hr
    exact ⟨[], rfl, rfl, fun i c hi => by simp at hi⟩
  | r :: rs, vs, hr => by
    simp only [resAll] at hr
    split at hr
    · rename_i v vs' h1 h2
      cases hr
      obtain ⟨u, h3, h4⟩ := resOne_ok hC hs H h1
      obtain ⟨us, h5, h6⟩ := resAll_ok hC hs H h2
      exact ⟨u :: us, by simp [List.mapM_cons, h3, h5], RVs.cons.mpr ⟨h4, h6⟩⟩
    · cases hr

def oneOf (us : List Value) : Value := match us with
  | [u] => u
  | us => .tuple us.toArray

theorem run_results {fn : Func} {us : List Value} (h : (fn.results.toList.mapM (resM a)).run P w = .ok us w) : (results fn a.tmps).run P w = .ok (oneOf us) w := by
  have hm : fn.results.mapM (resM a) = List.toArray <$> fn.results.toList.mapM (resM a) := by
    rw [← List.mapM_toArray, Array.toArray_toList]
  rw [results_eq, hm]
  simp only [Sem.run_bind, Sem.run_map, h, Result.andThen_ok, Sem.run_pure]
  match us with
  | [] => rfl
  | [u] => rfl
  | u :: v :: r => simp [oneOf]

theorem resV_ok (hC : Ok C P) (hs : RS e F sl a) (H : RH e F X h w) {fn : Func} {v : AV C.E} (hr : resV C sl h fn.results.toList = some v) : ∃ rv, (results fn a.tmps).run P w = .ok rv w ∧ RV C e F v rv := by
  unfold resV at hr
  split at hr
  · rename_i v' h1
    cases hr
    obtain ⟨us, h2, h3⟩ := resAll_ok hC hs H h1
    obtain ⟨u, rfl, h4⟩ := h3.one'
    exact ⟨u, run_results h2, h4⟩
  · rename_i vs hne h1
    cases hr
    obtain ⟨us, h2, h3⟩ := resAll_ok hC hs H h1
    refine ⟨_, run_results h2, ?_⟩
    unfold oneOf
    split
    · rename_i u
      have : vs.length = 1 := h3.1.symm
      match vs, this with
      | [x], _ => exact absurd rfl (hne x)
    · exact .tuple vs _ (by simp [h3.1]) (fun i c hi => by rw [← getD_toList]; exact h3.2 i c hi)
  · cases hr

/-- the end of a body -/
theorem bodyEnd_ok (hC : Ok C P) {f : FnI C.E} {e0 : Env} (he : ELe e0 e) (hs : RS e F sl a) (H : RH e F X h w) {K : AV C.E → List (Blk C.E) → Prop} (hk : bodyEnd C f e0.sz sl h K) :
    ∃ rv e' F' v h', (results f.fn a.tmps).run P w = .ok rv w ∧ ELe e0 e' ∧ FLe F F' ∧ RV C e' F' v rv ∧ RH e' F' X h' w ∧ K v h' := by
  have fin : ∀ v rv, (results f.fn a.tmps).run P w = .ok rv w → RV C e F v rv → endV C e0.sz h v K → ∃ rv e' F' v h', (results f.fn a.tmps).run P w = .ok rv w ∧ ELe e0 e' ∧ FLe F F' ∧ RV C e' F' v rv ∧ RH e' F' X h' w ∧ K v h' := by
    intro v rv h1 h2 h3
    change tidyK C e0.sz (.nd (nilV h.length v).1 .lf .lf) (h ++ (nilV h.length v).2) (fun sl h => K (sl.get 0) h) at h3
    obtain ⟨e1, k1, k2, k3, _⟩ := nilV_ok H h2
    have hst : St e0 F X w 0 (.nd (nilV h.length v).1 .lf .lf) (h ++ (nilV h.length v).2) { tmps := #[rv], defers := [] } w := by
      refine ⟨e1, F, he.trans k1, FLe.refl F, ⟨fun t => ?_, rfl⟩, k3, Ext.refl w, Nat.zero_le _⟩
      cases t with
      | zero => exact k2
      | succ t => simp only [Tr.get]; split <;> exact .top _
    obtain ⟨sl', h', ⟨e2, F2, g1, g2, g3, g4, _, _⟩, hk'⟩ := tidy_ok hC hst h3
    exact ⟨rv, e2, F2, _, h', h1, g1, g2, by have := g3.reg 0; simpa using this, g4, hk'⟩
  unfold bodyEnd at hk
  split at hk
  · rename_i r hr
    split at hk
    · rename_i p v
      unfold arrRes at hr
      split at hr
      · rename_i b t hres
        split at hr
        · rename_i n el ha
          have := loadArr_ok (w := w) hC H ha (hs.reg b)
          simp only [Option.some.injEq] at hr
          rw [hr] at this
          obtain ⟨rv, h1, h2⟩ := this hk.1
          refine fin v rv ?_ h2 hk.2
          have h3 : ((f.fn.results.toList).mapM (resM a)).run P w = .ok [rv] w := by
            rw [hres]
            have h4 : (resM a (.cell b t)).run P w = .ok rv w := by
              show (do loadVar t (← asAddr (a.tmps.getD b undef)) : Sem Value).run P w = _
              have hp := hs.reg b
              revert h1 hp
              generalize a.tmps.getD b undef = u
              intro h1 hp
              unfold loadArr at hr
              split at hr
              · rename_i id off hg
                rw [hg] at hp
                cases hp
                simpa [asAddr, Instr.loadAt, Instr.sureAddr] using h1
              · cases hr
            simp [List.mapM_cons, h4]
          exact run_results h3
        · cases hr
      · cases hr
    · exact hk.elim
  · split at hk
    · rename_i v hv
      obtain ⟨rv, h1, h2⟩ := resV_ok hC hs H hv
      exact fin v rv h1 h2 hk
    · exact hk.elim

/-- the bodies are the program's -/
def FnsOk (P : Program) (T : Nat → Option (FnI C.E)) : Prop := ∀ f i, T f = some i → P.funcs[f]? = some i.fn ∧ fnOk P f = true ∧ ∀ c, i.fn.body = some c → dstsOk i.fn.ntmps c = true

theorem body_ok (hC : Ok C P) {S : Sums C} (hS : Valid P S) {N : Enter C} (hN : EnterOk P N) {f : Nat} {i : FnI C.E} (hf : P.funcs[f]? = some i.fn) (hd : ∀ c, i.fn.body = some c → dstsOk i.fn.ntmps c = true)
    {args : List (AV C.E)} {K : AV C.E → List (Blk C.E) → Prop} (hk : bodyK C S N i args h K) {vs : List Value} (H : RH e F X h w) (hv : RVs e F args vs) : CallsR P f vs.toArray w (PostK e F X w K) := by
  unfold bodyK at hk
  split at hk
  · rename_i c hc
    obtain ⟨sl, h1, h2⟩ := argsK_ok args 0 .lf hk
    rw [← H.sz] at h1
    refine calls_of_wp hf hc ?_
    have hst : St e F X w i.fn.ntmps sl h { tmps := vs.toArray ++ Array.replicate (i.fn.ntmps - vs.toArray.size) undef, defers := [] } w := by
      refine ⟨e, F, ELe.refl e, FLe.refl F, ⟨fun t => ?_, rfl⟩, H, Ext.refl w, by simp; omega⟩
      rw [h2]
      by_cases ht : t < args.length
      · rw [if_pos ⟨Nat.zero_le _, by omega⟩]
        have := hv.2 t _ (List.getElem?_eq_getElem ht)
        have hvl := hv.1
        have htv : t < vs.length := by omega
        rw [List.getD_eq_getElem?_getD, Nat.sub_zero, List.getElem?_eq_getElem ht]
        rw [List.getD_eq_getElem?_getD, List.getElem?_eq_getElem htv] at this
        simpa [Array.getElem?_append, htv] using this
      · rw [if_neg (by omega)]; exact .top _
    have key : ∀ sl h' a' w', St e F X w i.fn.ntmps sl h' a' w' → bodyEnd C i e.sz sl h' K → a'.defers = [] ∧ ∃ v, (results i.fn a'.tmps).run P w' = .ok v w' ∧ PostK e F X w K v w' := by
      intro sl h' a' w' ⟨e', F', g1, g2, g3, g4, g5, g6⟩ hb
      obtain ⟨rv, e2, F2, v, h2, k1, k2, k6, k3, k4, k5⟩ := bodyEnd_ok hC g1 g3 g4 hb
      exact ⟨g3.def_, rv, k1, v, h2, ⟨e2, F2, k2, g2.trans k6, k3, k4, g5⟩, k5⟩
    refine code_ok hC hS hN c (hd c hc) hst h1 fun ex sl h' a' w' hs hk => ?_
    cases ex with
    | normal => exact key sl h' a' w' hs hk
    | exit i => exact hk.elim
    | ret => exact key sl h' a' w' hs hk
  · exact hk.elim

theorem call_ok (hC : Ok C P) {S : Sums C} (hS : Valid P S) {T : Nat → Option (FnI C.E)} (hT : FnsOk P T) : ∀ d, EnterOk P (callK C T S d)
  | 0 => fun _ _ _ _ h => h.elim
  | d + 1 => fun f args h K hk => by
    simp only [callK] at hk
    split at hk
    · rename_i i hi
      obtain ⟨h1, h2, h3⟩ := hT f i hi
      exact ⟨h2, fun e F X w vs H hv => body_ok hC hS (call_ok hC hS hT d) h1 h3 hk H hv⟩
    · exact hk.elim

end
end Go.Proofs.Ytgplkdcibahofaa.Ev
