/-
  What an operation's answer rests on, and which ones leave what was there. No program is named here.
-/
import Derived.Test.YtgplkdcibahofaaEvStep
import Derived.Orders
namespace Go.Proofs.Ytgplkdcibahofaa.Ev
open Go

section
variable {C : Ctx} {P : Program}

theorem evT_congr {sl sl' : Tr C.E} {x : Operand} (t : Nat) (h : ev C sl x = ev C sl' x) : evT C sl t x = evT C sl' t x := by
  unfold evT
  split
  · rfl
  · exact h

theorem argsT_congr {sl sl' : Tr C.E} : ∀ (xs : List Operand) (ts : List Nat), (∀ x ∈ xs, ev C sl x = ev C sl' x) → argsT C sl xs ts = argsT C sl' xs ts
  | [], _, _ => rfl
  | x :: xs, [], h => by simp only [argsT]; rw [h x (by simp), argsT_congr xs [] fun y hy => h y (by simp [hy])]
  | x :: xs, t :: ts, h => by simp only [argsT]; rw [evT_congr t (h x (by simp)), argsT_congr xs ts fun y hy => h y (by simp [hy])]

theorem opF_congr {S : Sums C} {sl sl' : Tr C.E} (hp : List (Blk C.E)) (o : Oper) (h : ∀ x ∈ o.op.operands, ev C sl x = ev C sl' x) : opF C S sl hp o = opF C S sl' hp o := by
  obtain ⟨dst, op, type, pos, after, guard⟩ := o
  cases op <;> simp only [Op.operands] at h <;> simp only [opF]
  case call c =>
    cases hc : c.callee with
    | builtin b => rw [argsT_congr _ _ fun x hx => h x (by simp [Call.operands, hc]; simpa using hx)]
    | value f => rw [argsT_congr _ _ fun x hx => h x (by simp [Call.operands, hc]; exact .inr (by simpa using hx))]; simp only [h f (by simp [Call.operands, hc])]
    | invoke r m => rfl
  case move x => rw [evT_congr _ (h x (by simp))]
  case assign x => rw [evT_congr _ (h x (by simp))]
  case pick c a b => rw [h c (by simp), evT_congr type (h a (by simp)), evT_congr type (h b (by simp))]
  case box t x => rw [evT_congr t (h x (by simp))]
  case build t parts =>
    have : parts.toList.map (fun p => (p.1, evT C sl (ftOf C t p.1) p.2)) = parts.toList.map (fun p => (p.1, evT C sl' (ftOf C t p.1) p.2)) :=
      List.map_congr_left fun p hp => by rw [evT_congr _ (h p.2 (by simp; exact ⟨p.1, by simpa using hp⟩))]
    rw [this]
  case buildSlice t n parts =>
    cases elemOf C t with
    | none => rfl
    | some el =>
      have : parts.toList.map (fun p => evT C sl el p.2) = parts.toList.map (fun p => evT C sl' el p.2) :=
        List.map_congr_left fun p hp => by rw [evT_congr _ (h p.2 (by simp; exact ⟨p.1, by simpa using hp⟩))]
      simp only [this]
  case load t a => rw [h a (by simp)]
  case store t a x => rw [h a (by simp), evT_congr t (h x (by simp))]
  case nilCheck x => rw [h x (by simp)]
  case binOp op t x y k => rw [evT_congr t (h x (by simp)), evT_congr t (h y (by simp))]
  case unOp op t x => rw [h x (by simp)]
  case convert s d x => rw [evT_congr s (h x (by simp))]
  case makeFunc fn first caps =>
    have h1 : first.toList.map (ev C sl) = first.toList.map (ev C sl') := List.map_congr_left fun x hx => h x (by simp; exact .inl (by simpa using hx))
    have h2 : caps.toList.map (ev C sl) = caps.toList.map (ev C sl') := List.map_congr_left fun x hx => h x (by simp; exact .inr (by simpa using hx))
    rw [h1, h2]
  case makeSlice t l c => rw [h l (by simp), h c (by simp)]
  case slice t x lo hi mx =>
    cases mx with
    | some m =>
      have h1 : lo.map (ev C sl) = lo.map (ev C sl') := by cases lo with
        | none => rfl
        | some y => simp [h y (by simp)]
      cases hi with
      | none => simp only; cases elemOf C t <;> rfl
      | some hi =>
        simp only
        cases elemOf C t with
        | none => rfl
        | some el => simp only [evT_congr t (h x (by simp)), h1, h hi (by simp), h m (by simp)]
    | none =>
      have h1 : lo.map (ev C sl) = lo.map (ev C sl') := by cases lo with
        | none => rfl
        | some y => simp [h y (by simp)]
      have h2 : hi.map (ev C sl) = hi.map (ev C sl') := by cases hi with
        | none => rfl
        | some y => simp [h y (by simp)]
      simp only [evT_congr t (h x (by simp)), h1, h2]
  case fieldAddr t x f => rw [h x (by simp)]
  case field t x f => rw [h x (by simp)]
  case indexAddr t x i => rw [h i (by simp), evT_congr t (h x (by simp)), h x (by simp)]
  case index t x i => rw [h x (by simp), h i (by simp)]
  case extract x i => rw [h x (by simp)]

/-- what comes of an operation, where what it asks holds -/
def Out (hin : List (Blk C.E)) : OpR C.E → AV C.E → List (Blk C.E) → Prop
  | .no, _, _ => False
  | .val v, u, h => u = v ∧ h = hin
  | .chk p v, u, h => p ∧ u = v ∧ h = hin
  | .mem v h', u, h => u = v ∧ h = h'
  | .chm p v h', u, h => p ∧ u = v ∧ h = h'
  | .anyB _, _, _ => False

/-- what is not written is what it was -/
def Keeps (hin : List (Blk C.E)) : OpR C.E → Prop
  | .mem _ h' => ∃ r, h' = hin ++ r
  | .chm _ _ h' => ∃ r, h' = hin ++ r
  | _ => True

theorem VOk.keeps {P : Program} {w : World} {e : Env} {F : FH} {m : Sem Value} {r : OpR C.E} (h : VOk P w e F m r) (hp : List (Blk C.E)) : Keeps hp r := by cases r <;> first | trivial | exact h.elim

theorem intOp_keeps (hp : List (Blk C.E)) (op : BinOp) (k : IntKind) (a b : Int) : Keeps hp (intOp (E := C.E) op k a b) := by unfold intOp; split <;> trivial
theorem strOp_keeps (hp : List (Blk C.E)) (op : BinOp) (a b : ByteArray) : Keeps hp (strOp (E := C.E) op a b) := by unfold strOp; split <;> trivial
theorem cutOf_keeps (hp : List (Blk C.E)) (n : Nat) (x : AV C.E) (f : Nat → Nat → AV C.E) (lo hi : Option (AV C.E)) : Keeps hp (cutOf n x f lo hi) := by unfold cutOf; split <;> trivial

theorem cutC_keeps (hp : List (Blk C.E)) (n c : Nat) (x : AV C.E) (f : Nat → Nat → AV C.E) (lo hi : Option (AV C.E)) : Keeps hp (cutC n c x f lo hi) := by unfold cutC; split <;> trivial

theorem opF_keeps {S : Sums C} {sl : Tr C.E} (hp : List (Blk C.E)) (o : Oper) (hw : writes o.op = false) : Keeps hp (opF C S sl hp o) := by
  obtain ⟨dst, op, type, pos, after, guard⟩ := o
  cases op <;> simp only [opF]
  case move x => trivial
  case assign x => trivial
  case pick c a b => split <;> trivial
  case alloc t =>
    split
    · split
      · split
        · exact ⟨_, rfl⟩
        · trivial
      · exact ⟨_, rfl⟩
    · trivial
  case box t x =>
    split
    · exact ⟨_, rfl⟩
    · split
      · split
        · exact ⟨_, rfl⟩
        · trivial
      · trivial
  case build t parts => repeat (first | trivial | split)
  case buildSlice t n parts => cases hw
  case load t a =>
    split
    · unfold loadArr
      repeat (first | trivial | split)
    · split
      · unfold okv; split <;> trivial
      · trivial
  case store t a x => cases hw
  case nilCheck x => split <;> trivial
  case binOp op t x y k =>
    split
    · unfold nilCmp
      repeat (first | trivial | split)
    · unfold opBin
      repeat (first | trivial | exact intOp_keeps _ _ _ _ _ | exact strOp_keeps _ _ _ _ | split)
  case unOp op t x => split <;> trivial
  case convert s d x =>
    split
    · unfold convertOp
      repeat (first | trivial | split)
    · trivial
  case makeFunc fn first caps => split <;> trivial
  case makeSlice t l c =>
    split
    · split
      · split
        · exact ⟨_, rfl⟩
        · trivial
      · trivial
    · trivial
  case slice t x lo hi mx =>
    cases mx with
    | some m =>
      simp only
      split
      · unfold slice3Op cut3
        repeat (first | trivial | split)
      · trivial
    | none =>
      simp only
      split
      · unfold strSlice
        repeat (first | trivial | split)
      · split
        · unfold sliceOp
          repeat (first | trivial | exact cutOf_keeps _ _ _ _ _ _ | exact cutC_keeps _ _ _ _ _ _ _ | split)
        · trivial
  case fieldAddr t x f => split <;> trivial
  case field t x f => split <;> first | trivial | (unfold okv; split <;> trivial)
  case indexAddr t x i =>
    split
    · split
      · unfold indexAddrOp
        repeat (first | trivial | split)
      · split
        · unfold arrAddrOp
          repeat (first | trivial | split)
        · trivial
    · trivial
  case index t x i => repeat (first | trivial | split)
  case extract x i => split <;> first | trivial | (unfold okv; split <;> trivial)
  case call c =>
    simp only [writes] at hw
    split at hw
    · rename_i b hc
      split
      · rename_i b' hc'
        rw [hc] at hc'; cases hc'
        cases b <;> first
          | (simp only [reduceCtorEq] at hw; done)
          | (unfold builtinOp; split <;> first | trivial | (split <;> trivial) | contradiction)
      · rename_i f hc'
        rw [hc] at hc'; cases hc'
      · trivial
    · cases hw
  all_goals trivial

theorem appendTo_room (hp : List (Blk C.E)) (e : Nat) {x : AV C.E} (hx : noRoom x = true) (ys : List (C.E e)) (bytes : Nat) : Keeps hp (appendTo C hp e x ys bytes) := by
  unfold appendTo
  split <;> first | cases hx | skip
  · repeat (first | trivial | exact ⟨_, rfl⟩ | split)
  · repeat (first | trivial | exact ⟨_, rfl⟩ | split)
  · trivial

theorem evT_room {sl : Tr C.E} {t : Nat} {x : Operand} (h : noRoom (ev C sl x) = true) : noRoom (evT C sl t x) = true := by
  unfold evT
  split
  · cases h
  · exact h

theorem appendOp_room (hp : List (Blk C.E)) (xt yt : Nat) {x y : AV C.E} (hx : noRoom x = true) : Keeps hp (appendOp C hp xt yt x y) := by
  unfold appendOp
  repeat (first | trivial | exact appendTo_room hp _ hx _ _ | split)

/-- what is not written, what is handed in being known -/
theorem opF_keeps' {S : Sums C} {sl : Tr C.E} (hp : List (Blk C.E)) (o : Oper) (hw : wrAt C sl o = false) : Keeps hp (opF C S sl hp o) := by
  by_cases h : writes o.op = false
  · exact opF_keeps hp o h
  · unfold wrAt at hw
    split at hw
    · rename_i c hc
      split at hw
      · rename_i b hb
        split at hw
        · rename_i x r hargs
          have hx : noRoom (ev C sl x) = true := by simpa using hw
          unfold opF
          simp only [hc, hb]
          rw [hargs]
          cases hts : c.argTypes.toList with
          | nil => trivial
          | cons t ts =>
            cases ts with
            | nil => trivial
            | cons t' ts =>
              cases ts with
              | cons _ _ => trivial
              | nil =>
                cases r with
                | nil => trivial
                | cons y r =>
                  cases r with
                  | nil => exact appendOp_room hp _ _ (evT_room hx)
                  | cons _ _ => trivial
        · exact absurd hw h
      · exact absurd hw h
    · exact absurd hw h

end
end Go.Proofs.Ytgplkdcibahofaa.Ev
