/-
  Each operation of the evaluator does what the machine's does: struct literals, append, copy, clear. No program is named here.
-/
import Derived.Test.YtgplkdcibahofaaEvOps7
namespace Go.Proofs.Ytgplkdcibahofaa.Ev
open Go

section
variable {C : Ctx} {P : Program} {e : Env} {F X : FH} {h : List (Blk C.E)} {w : World} {sl : Tr C.E} {a : Act} {o : Oper}

/-- an array says what a row of cells says -/
def Cells (e : Env) (F : FH) (cs : List (AV C.E)) (arr : Array Value) : Prop := arr.size = cs.length ∧ ∀ (j : Nat) (c : AV C.E), cs[j]? = some c → AV.one c = true ∧ RV C e F c (arr.getD j undef)

theorem fillParts_ok (hC : Ok C P) (hs : RS e F sl a) {t : Nat} {places : Array (Nat × Nat)}
    (hpl : ∀ f off ft, fieldOf C t f = some (off, ft) → ∀ fty, C.ty ft = some fty → places[f]? = some (off, fty.size)) :
    ∀ {l : List (Nat × Operand)} {cs cs' : List (AV C.E)} {arr : Array Value} {tyOf : Nat → Nat}, Cells e F cs arr → fillParts C t (l.map fun p => (p.1, evT C sl (tyOf p.1) p.2)) cs = some cs' →
      ∃ arr', Instr.fill (places[·]?) arr (l.map fun p => (p.1, a.eval p.2)) = some arr' ∧ Cells e F cs' arr'
  | [], cs, cs', arr, tyOf, hc, hf => by
    simp [fillParts] at hf; subst hf
    exact ⟨arr, rfl, hc⟩
  | (f, x) :: r, cs, cs', arr, tyOf, hc, hf => by
    simp only [List.map_cons, fillParts] at hf
    split at hf
    · rename_i off ft vs hfo hcv
      split at hf
      · rename_i fty hfty
        split at hf
        · rename_i cs1 hlen hsp
          have hlen' := Nat.eq_of_beq_eq_true hlen
          obtain ⟨q1, q2⟩ := cellsOf_ok (evT_ok hs (tyOf f) x) hcv
          obtain ⟨s1, s2, s3⟩ := splice_ok hsp
          obtain ⟨g1, g2⟩ := Go.Great.foldl_set off (a.eval x).cells.toList 0 arr
          have hnew : Cells e F cs1 (((a.eval x).cells.toList.zipIdx 0).foldl (fun cs (x : Value × Nat) => cs.setIfInBounds (off + x.2) x.1) arr) := by
            refine ⟨by rw [g1, hc.1, s1], fun j c hj => ?_⟩
            rw [s3 j] at hj
            have hg := g2 j
            simp only [Nat.add_zero, Array.length_toList] at hg
            rw [Array.getD_eq_getD_getElem?, hg]
            by_cases hjj : off ≤ j ∧ j < off + vs.length
            · rw [if_pos hjj] at hj
              rw [if_pos ⟨hjj.1, by rw [q1]; exact hjj.2, by rw [hc.1]; omega⟩]
              have := q2 _ c hj
              rwa [← getD_toList] at this
            · rw [if_neg hjj] at hj
              rw [if_neg (by rw [q1]; omega)]
              have := hc.2 j c hj
              rwa [Array.getD_eq_getD_getElem?] at this
          obtain ⟨arr', h1, h2⟩ := fillParts_ok hC hs hpl (tyOf := tyOf) hnew hf
          refine ⟨arr', ?_, h2⟩
          simp only [List.map_cons]
          unfold Instr.fill
          simp only [hpl f off ft hfo fty hfty]
          rw [if_neg (by rw [q1, hlen', hc.1]; simp; omega), ← h1]
          congr 1
          rw [← Array.foldl_toList, Array.toList_zipIdx]
        · cases hf
      · cases hf
    · cases hf

theorem build_ok (hC : Ok C P) (hs : RS e F sl a) {t : Nat} {ty : Ty C.E} (hty : C.ty t = some ty) {fs : List (Nat × Nat × Bool)} (hk : ty.k = .struct fs) {parts : Array (Nat × Operand)} {cs : List (AV C.E)} {tyOf : Nat → Nat}
    (hf : fillParts C t (parts.toList.map fun p => (p.1, evT C sl (tyOf p.1) p.2)) ty.zero = some cs) :
    ∃ arr, (Instr.build t (parts.map fun p => (p.1, a.eval p.2))).run P w = .ok (.agg arr) w ∧ Cells e F cs arr := by
  obtain ⟨i, z, hi, h1, h2, hz, hzz, _⟩ := ty_info hC hty
  obtain ⟨hz1, hz2⟩ := hzz (by rw [hk]; rfl)
  obtain ⟨hl, hc⟩ := zerosAre_ok (e := e) (F := F) hz1
  obtain ⟨hg, hfs, _, _, hpos⟩ := fieldsOf_ok hC hty hk
  have hpl0 : ∃ places, (P.fieldsOf t).toList.mapM (fun f => (P.info? f.type).map fun i => (f.offset, i.size)) = some places ∧
      ∀ (k : Nat) (f : Field), (P.fieldsOf t).toList[k]? = some f → ∃ i, P.info? f.type = some i ∧ places[k]? = some (f.offset, i.size) := by
    generalize (P.fieldsOf t).toList = gs at hpos
    clear hfs
    induction gs with
    | nil => exact ⟨[], rfl, fun k f hk => by simp at hk⟩
    | cons g gs ih =>
      obtain ⟨pl, hp1, hp2⟩ := ih (fun f hf => hpos f (List.mem_cons_of_mem _ hf))
      obtain ⟨gi, hgi, _⟩ := hpos g List.mem_cons_self
      refine ⟨(g.offset, gi.size) :: pl, by simp [List.mapM_cons, hgi, hp1], fun k f hk => ?_⟩
      cases k with
      | zero => simp at hk; subst hk; exact ⟨gi, hgi, rfl⟩
      | succ k => simpa using hp2 k f (by simpa using hk)
  obtain ⟨places, hp1, hp2⟩ := hpl0
  have hpl : ∀ f off ft, fieldOf C t f = some (off, ft) → ∀ fty, C.ty ft = some fty → places.toArray[f]? = some (off, fty.size) := by
    intro f off ft hfo fty hfty
    obtain ⟨g, _, hgf, rfl, rfl, _⟩ := fieldOf_ok hC hfo
    obtain ⟨gi, hgi, hpf⟩ := hp2 f g (by simpa using hgf)
    obtain ⟨i', _, hi', hsz, _⟩ := ty_info hC hfty
    rw [hgi] at hi'; cases hi'
    rw [← hsz]; simpa using hpf
  have hcz : Cells e F ty.zero z.cells := ⟨by simpa using hl, fun j c hj => by
    obtain ⟨q1, _, q2⟩ := hc j c hj
    exact ⟨q1, by rwa [getD_toList] at q2⟩⟩
  obtain ⟨arr', hfill, hcs⟩ := fillParts_ok hC hs hpl hcz hf
  refine ⟨arr', run_build w t _ arr' ?_, hcs⟩
  unfold Program.built
  simp only [hi, hg, hz, hp1, Array.toList_map]
  exact hfill

end
end Go.Proofs.Ytgplkdcibahofaa.Ev
