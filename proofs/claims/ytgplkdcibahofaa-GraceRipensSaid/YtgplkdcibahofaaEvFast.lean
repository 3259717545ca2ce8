/-
  The evaluator once more, by recursors: what is left to be done stands in the same words whoever unfolds it. No program is named here.
-/
import Derived.Test.YtgplkdcibahofaaEvSound
namespace Go.Proofs.Ytgplkdcibahofaa.Ev
open Go
set_option linter.unusedVariables false

section
variable {E : Nat → Type}

def fL1b (k : List (AV E) → Prop) : Prop := k []
def fL1s (f : AV E → (AV E → Prop) → Prop) (v : AV E) (r : List (AV E)) (ih : (List (AV E) → Prop) → Prop) (k : List (AV E) → Prop) : Prop := f v fun v' => ih fun r' => k (v' :: r')
noncomputable def fL1 (f : AV E → (AV E → Prop) → Prop) (l : List (AV E)) : (List (AV E) → Prop) → Prop := List.rec fL1b (fL1s f) l
theorem fL1_eq (f : AV E → (AV E → Prop) → Prop) : ∀ l k, fL1 f l k = forceL1 f l k
  | [], k => rfl
  | v :: r, k => by
    show (f v fun v' => fL1 f r fun r' => k (v' :: r')) = _
    simp only [forceL1, fL1_eq f r]

def fN0 (a : Nat) (k : Nat → Prop) : Prop := k a
def fNs (n : Nat) (ih : Nat → (Nat → Prop) → Prop) (a : Nat) (k : Nat → Prop) : Prop := ih (a + 1) k
noncomputable def fN (n : Nat) : Nat → (Nat → Prop) → Prop := Nat.rec fN0 fNs n
theorem fN_eq : ∀ n a k, fN n a k = natGo n a k
  | 0, a, k => rfl
  | n + 1, a, k => by
    show fN n (a + 1) k = _
    rw [fN_eq n]; rfl

noncomputable def fV0 (v : AV E) (k : AV E → Prop) : Prop := match v with
  | .ptr i o => fN i 0 fun i => k (.ptr i o)
  | .eptr t i j o => fN i 0 fun i => k (.eptr t i j o)
  | .own t i => fN i 0 fun i => k (.own t i)
  | .view t i l n => fN i 0 fun i => k (.view t i l n)
  | .viewc t i l n c => fN i 0 fun i => k (.viewc t i l n c)
  | .map i => fN i 0 fun i => k (.map i)
  | v => force0 v k
theorem fV0_eq (v : AV E) (k : AV E → Prop) : fV0 v k = force0 v k := by
  unfold fV0; split <;> first | rfl | (simp only [fN_eq]; rfl)

noncomputable def fVs (d : Nat) (ih : AV E → (AV E → Prop) → Prop) (v : AV E) (k : AV E → Prop) : Prop := match v with
  | .agg cs => fL1 ih cs fun cs' => k (.agg cs')
  | .tuple cs => fL1 ih cs fun cs' => k (.tuple cs')
  | .fn f a b => fL1 ih a fun a' => fL1 ih b fun b' => k (.fn f a' b')
  | v => fV0 v k
noncomputable def fV (d : Nat) : AV E → (AV E → Prop) → Prop := Nat.rec fV0 fVs d
theorem fV_eq : ∀ d (v : AV E) k, fV d v k = forceV d v k
  | 0, v, k => fV0_eq v k
  | d + 1, v, k => by
    show fVs d (fV d) v k = _
    have hf : (fV d : AV E → (AV E → Prop) → Prop) = forceV d := funext fun v => funext fun k => fV_eq d v k
    rw [hf]
    unfold fVs
    split <;> simp only [forceV, fL1_eq, fV0_eq]

noncomputable def fB (b : Blk E) (k : Blk E → Prop) : Prop := match b with
  | .dead => k .dead
  | .cells l => fL1 (fV 3) l fun l' => k (.cells l')
  | .arr t l f => k (.arr t l f)
  | .map a b m => k (.map a b m)
theorem fV_fun (d : Nat) : (fV d : AV E → (AV E → Prop) → Prop) = forceV d := funext fun v => funext fun k => fV_eq d v k
theorem fB_eq (b : Blk E) (k : Blk E → Prop) : fB b k = forceB b k := by
  unfold fB forceB; split <;> simp only [fV_fun, fL1_eq]

def fHb (k : List (Blk E) → Prop) : Prop := k []
noncomputable def fHs (b : Blk E) (r : List (Blk E)) (ih : (List (Blk E) → Prop) → Prop) (k : List (Blk E) → Prop) : Prop := fB b fun b' => ih fun r' => k (b' :: r')
noncomputable def fH (h : List (Blk E)) : (List (Blk E) → Prop) → Prop := List.rec fHb fHs h
theorem fH_eq : ∀ (h : List (Blk E)) k, fH h k = forceH h k
  | [], k => rfl
  | b :: r, k => by
    show (fB b fun b' => fH r fun r' => k (b' :: r')) = _
    simp only [forceH, fB_eq, fH_eq r]

def fTb (k : Tr E → Prop) : Prop := k .lf
noncomputable def fTs (v : AV E) (l r : Tr E) (il ir : (Tr E → Prop) → Prop) (k : Tr E → Prop) : Prop := fV 3 v fun v' => il fun l' => ir fun r' => k (.nd v' l' r')
noncomputable def fT (t : Tr E) : (Tr E → Prop) → Prop := Tr.rec fTb fTs t
theorem fT_eq : ∀ (t : Tr E) k, fT t k = forceT t k
  | .lf, k => rfl
  | .nd v l r, k => by
    show (fV 3 v fun v' => fT l fun l' => fT r fun r' => k (.nd v' l' r')) = _
    simp only [forceT, fV_eq, fT_eq l, fT_eq r]

def setb (t : Tr E) (n : Nat) (v : AV E) (k : Tr E → Prop) : Prop := False
def sets (d : Nat) (ih : Tr E → Nat → AV E → (Tr E → Prop) → Prop) (t : Tr E) (n : Nat) (v : AV E) (k : Tr E → Prop) : Prop := match t with
  | .lf => match n with
    | 0 => k (.nd v .lf .lf)
    | m + 1 => match m % 2 with
      | 0 => ih .lf (m / 2) v fun l => k (.nd .top l .lf)
      | _ => ih .lf (m / 2) v fun r => k (.nd .top .lf r)
  | .nd u l r => match n with
    | 0 => k (.nd v l r)
    | m + 1 => match m % 2 with
      | 0 => ih l (m / 2) v fun l' => k (.nd u l' r)
      | _ => ih r (m / 2) v fun r' => k (.nd u l r')
noncomputable def setF (d : Nat) : Tr E → Nat → AV E → (Tr E → Prop) → Prop := Nat.rec setb sets d
theorem setF_eq : ∀ d (t : Tr E) n v k, setF d t n v k = setK d t n v k
  | 0, t, n, v, k => by cases t <;> rfl
  | d + 1, t, n, v, k => by
    show sets d (setF d) t n v k = _
    have hf : (setF d : Tr E → Nat → AV E → (Tr E → Prop) → Prop) = setK d := funext fun t => funext fun n => funext fun v => funext fun k => setF_eq d t n v k
    rw [hf]
    cases t <;> cases n <;> rfl

def killb (sl : Tr E) (K : Tr E → Prop) : Prop := K sl
noncomputable def kills_ (t : Nat) (r : List Nat) (ih : Tr E → (Tr E → Prop) → Prop) (sl : Tr E) (K : Tr E → Prop) : Prop := setF fuel sl t .top fun sl => ih sl K
noncomputable def killF (l : List Nat) : Tr E → (Tr E → Prop) → Prop := List.rec killb kills_ l
theorem killF_eq : ∀ l (sl : Tr E) K, killF l sl K = killK l sl K
  | [], sl, K => rfl
  | t :: r, sl, K => by
    show (setF fuel sl t .top fun sl => killF r sl K) = _
    simp only [killK, setF_eq, killF_eq r]

def pruneb (k : Tr E → Prop) : Prop := k .lf
def prunes (v : AV E) (l r : Tr E) (il ir : (Tr E → Prop) → Prop) (k : Tr E → Prop) : Prop := il fun l' => ir fun r' => match v, l', r' with
    | .top, .lf, .lf => k .lf
    | v, l', r' => k (.nd v l' r')
noncomputable def pruneF (t : Tr E) : (Tr E → Prop) → Prop := Tr.rec pruneb prunes t
theorem pruneF_eq : ∀ (t : Tr E) k, pruneF t k = prune t k
  | .lf, k => rfl
  | .nd v l r, k => by
    show prunes v l r (pruneF l) (pruneF r) k = _
    unfold prunes
    simp only [prune, pruneF_eq l, pruneF_eq r]
    rfl

def nilTob (k : Nat) (h : List (Blk E)) (K : List (Blk E) → Prop) : Prop := K h
noncomputable def nilTos (n : Nat) (ih : Nat → List (Blk E) → (List (Blk E) → Prop) → Prop) (k : Nat) (h : List (Blk E)) (K : List (Blk E) → Prop) : Prop := match h[k]? with
    | some (.cells l) => match l.any isNil with
      | true => match nilL h.length l with
        | (l', a) => fH (h.set k (.cells l') ++ a) fun h => ih (k + 1) h K
      | false => ih (k + 1) h K
    | _ => ih (k + 1) h K
noncomputable def nilToF (n : Nat) : Nat → List (Blk E) → (List (Blk E) → Prop) → Prop := Nat.rec nilTob nilTos n
theorem nilToF_eq : ∀ n k (h : List (Blk E)) K, nilToF n k h K = nilToK n k h K
  | 0, k, h, K => rfl
  | n + 1, k, h, K => by
    show nilTos n (nilToF n) k h K = _
    unfold nilTos
    simp only [nilToK, nilToF_eq n, fH_eq]
    rfl

def fNLb (k : List Nat → Prop) : Prop := k []
def fNLs (x : Nat) (r : List Nat) (ih : (List Nat → Prop) → Prop) (k : List Nat → Prop) : Prop := ih fun r' => k (x :: r')
noncomputable def fNL (l : List Nat) : (List Nat → Prop) → Prop := List.rec fNLb fNLs l
theorem fNL_eq : ∀ l k, fNL l k = k l
  | [], k => rfl
  | x :: r, k => by
    show (fNL r fun r' => k (x :: r')) = _
    rw [fNL_eq r]
noncomputable def fRec (r : Rec) (k : Rec → Prop) : Prop := match r with
  | ⟨p, d, l, a, w⟩ => fNL p fun p => fNL l fun l => fNL a fun a => fNL w fun w => match d with
    | none => k ⟨p, none, l, a, w⟩
    | some d => k ⟨p, some d, l, a, w⟩
theorem fRec_eq (r : Rec) (k : Rec → Prop) : fRec r k = k r := by
  unfold fRec
  simp only [fNL_eq]
  cases r with | mk p d l a w => cases d <;> rfl
end

section
variable (C : Ctx)

noncomputable def putF (sl : R C) (d : Option Nat) (v : V C) (K : R C → Prop) : Prop := match d with
  | some d => setF fuel sl d v K
  | none => K sl
theorem putF_eq (sl : R C) (d : Option Nat) (v : V C) (K : R C → Prop) : putF C sl d v K = put C sl d v K := by
  unfold putF put; split <;> simp only [setF_eq]

noncomputable def afterF (h : H C) (r : OpR C.E) (K : V C → H C → Prop) (other : Prop) : Prop := match r with
  | .val v => fV 3 v fun v => K v h
  | .chk p v => p ∧ fV 3 v fun v => K v h
  | .mem v h => fV 3 v fun v => fH h fun h => K v h
  | .chm p v h => p ∧ fV 3 v fun v => fH h fun h => K v h
  | .anyB p => ∀ b, p b → K (.bool b) h
  | .no => other
theorem afterF_eq (h : H C) (r : OpR C.E) (K : V C → H C → Prop) (other : Prop) : afterF C h r K other = after C h r K other := by
  unfold afterF after; split <;> simp only [fV_eq, fH_eq]

noncomputable def opKF (S : Sums C) (N : Enter C) (sl : R C) (h : H C) (o : Oper) (K : V C → H C → Prop) : Prop :=
  afterF C h (opF C S sl h o) K (match o.op with
    | .call c => match c.callee with
      | .value f => match ev C sl f with
        | .fn g first caps => N g (first ++ argsOf C sl c ++ caps) h K
        | _ => False
      | _ => False
    | _ => False)
theorem opKF_eq (S : Sums C) (N : Enter C) (sl : R C) (h : H C) (o : Oper) (K : V C → H C → Prop) : opKF C S N sl h o K = opK C S N sl h o K := afterF_eq ..

noncomputable def guardedF (ops : List Oper) (sl : R C) (o : Oper) (run skip : R C → Prop) : Prop := match o.guard with
  | none => run sl
  | some (j, want) => match ops[j]? with
    | some oj => match oj.dst with
      | some t => match sl.get t with
        | .bool b => match want with
          | true => br b (setF fuel sl t (.bool true) run) (setF fuel sl t (.bool false) skip)
          | false => br b (setF fuel sl t (.bool true) skip) (setF fuel sl t (.bool false) run)
        | .tuple vs => match vs with
          | [] => skip sl
          | _ => False
        | _ => False
      | none => False
    | none => False
theorem guardedF_eq (ops : List Oper) (sl : R C) (o : Oper) (run skip : R C → Prop) : guardedF C ops sl o run skip = guarded C ops sl o run skip := by
  unfold guardedF guarded; simp only [setF_eq]; rfl

def opsb (sl : R C) (h : H C) (K : R C → H C → Prop) : Prop := K sl h
noncomputable def opss (S : Sums C) (N : Enter C) (ops : List Oper) (o : Oper) (r : List Oper) (ih : R C → H C → (R C → H C → Prop) → Prop) (sl : R C) (h : H C) (K : R C → H C → Prop) : Prop :=
  guardedF C ops sl o (fun sl => opKF C S N sl h o fun v h => putF C sl o.dst v fun sl => ih sl h K) (fun sl => putF C sl o.dst (.tuple []) fun sl => ih sl h K)
noncomputable def opsF (S : Sums C) (N : Enter C) (ops l : List Oper) : R C → H C → (R C → H C → Prop) → Prop := List.rec (opsb C) (opss C S N ops) l
theorem opsF_eq (S : Sums C) (N : Enter C) (ops : List Oper) : ∀ l sl h K, opsF C S N ops l sl h K = opsK C S N ops l sl h K
  | [], sl, h, K => rfl
  | o :: r, sl, h, K => by
    show opss C S N ops o r (opsF C S N ops r) sl h K = _
    unfold opss
    simp only [opsK, guardedF_eq, opKF_eq, putF_eq, opsF_eq S N ops r]

noncomputable def afterDF (h : H C) (r : OpR C.E) (K : V C → H C → Prop) (other : Prop) : Prop := match r with
  | .anyB _ => other
  | r => afterF C h r K other
theorem afterDF_eq (h : H C) (r : OpR C.E) (K : V C → H C → Prop) (other : Prop) : afterDF C h r K other = afterD C h r K other := by
  unfold afterDF afterD; split <;> simp only [afterF_eq]

noncomputable def stepF (S : Sums C) (ops : List Oper) (sl : R C) (h : H C) (recs : List Rec) (o : Oper) (K : List Rec → R C → H C → Prop) : Prop :=
  guardedF C ops sl o
    (fun sl => fNL (allOf C sl h o) fun al => fNL (predsOf (recs.map Rec.preds) o) fun ps => afterDF C (only al 0 h) (opF C S sl (only al 0 h) o)
      (fun v h' => fRec (recOf ops o (wrAt C sl o) ps al h.length h'.length) fun rc => match okD recs o rc && closedD C al h.length v h' with
        | true => fH (behind C (wrAt C sl o) al h h') fun h'' => putF C sl o.dst v fun sl' => K (recs ++ [rc]) sl' h''
        | false => False) False)
    (fun sl => fNL (predsOf (recs.map Rec.preds) o) fun ps => fRec (recOf ops o false ps [] 0 0) fun rc => match okD recs o rc with
      | true => putF C sl o.dst (.tuple []) fun sl' => K (recs ++ [rc]) sl' h
      | false => False)
theorem stepF_eq (S : Sums C) (ops : List Oper) (sl : R C) (h : H C) (recs : List Rec) (o : Oper) (K : List Rec → R C → H C → Prop) : stepF C S ops sl h recs o K = stepD C S ops sl h recs o K := by
  unfold stepF stepD
  simp only [guardedF_eq, afterDF_eq, fNL_eq, fRec_eq, fH_eq, putF_eq]
  rfl

def fRLb (k : List Rec → Prop) : Prop := k []
def fRLs (x : Rec) (r : List Rec) (ih : (List Rec → Prop) → Prop) (k : List Rec → Prop) : Prop := ih fun r' => k (x :: r')
noncomputable def fRL (l : List Rec) : (List Rec → Prop) → Prop := List.rec fRLb fRLs l
theorem fRL_eq : ∀ l k, fRL l k = k l
  | [], k => rfl
  | x :: r, k => by
    show (fRL r fun r' => k (x :: r')) = _
    rw [fRL_eq r]

def drawb (recs : List Rec) (sl : R C) (h : H C) (K : R C → H C → Prop) : Prop := K sl h
noncomputable def draws (S : Sums C) (ops : List Oper) (o : Oper) (r : List Oper) (ih : List Rec → R C → H C → (R C → H C → Prop) → Prop) (recs : List Rec) (sl : R C) (h : H C) (K : R C → H C → Prop) : Prop :=
  stepF C S ops sl h recs o fun recs' sl' h' => fRL recs' fun recs' => ih recs' sl' h' K
noncomputable def drawF (S : Sums C) (ops l : List Oper) : List Rec → R C → H C → (R C → H C → Prop) → Prop := List.rec (drawb C) (draws C S ops) l
theorem drawF_eq (S : Sums C) (ops : List Oper) : ∀ l recs sl h K, drawF C S ops l recs sl h K = drawK C S ops l recs sl h K
  | [], recs, sl, h, K => rfl
  | o :: r, recs, sl, h, K => by
    show draws C S ops o r (drawF C S ops r) recs sl h K = _
    unfold draws
    simp only [drawK, stepF_eq, drawF_eq S ops r, fRL_eq]

noncomputable def afterQF (o : Oper) (n : Nat) (r : OpR C.E) (K : V C → Prop) : Prop := match r with
  | .val v => fV 3 v fun v => match qShut C o n v with
    | true => K v
    | false => False
  | .chk p v => p ∧ fV 3 v fun v => match qShut C o n v with
    | true => K v
    | false => False
  | _ => False
theorem afterQF_eq (o : Oper) (n : Nat) (r : OpR C.E) (K : V C → Prop) : afterQF C o n r K = afterQ C o n r K := by
  unfold afterQF afterQ; simp only [fV_eq]; rfl
noncomputable def quiets (S : Sums C) (ops : List Oper) (o : Oper) (r : List Oper) (ih : R C → H C → (R C → H C → Prop) → Prop) (sl : R C) (h : H C) (K : R C → H C → Prop) : Prop :=
  guardedF C ops sl o
      (fun sl => afterQF C o h.length (opF C S sl (qHeap C o h) o) fun v => putF C sl o.dst v fun sl => ih sl h K)
      (fun sl => putF C sl o.dst (.tuple []) fun sl => ih sl h K)
noncomputable def quietF (S : Sums C) (ops l : List Oper) : R C → H C → (R C → H C → Prop) → Prop := List.rec (opsb C) (quiets C S ops) l
theorem quietF_eq (S : Sums C) (ops : List Oper) : ∀ l sl h K, quietF C S ops l sl h K = quietK C S ops l sl h K
  | [], sl, h, K => rfl
  | o :: r, sl, h, K => by
    show quiets C S ops o r (quietF C S ops r) sl h K = _
    unfold quiets
    simp only [quietK, guardedF_eq, afterQF_eq, putF_eq, quietF_eq S ops r]

def fNBb (k : List Nat → Bool) : Bool := k []
def fNBs (x : Nat) (r : List Nat) (ih : (List Nat → Bool) → Bool) (k : List Nat → Bool) : Bool := ih fun r' => k (x :: r')
noncomputable def fNB (l : List Nat) : (List Nat → Bool) → Bool := List.rec fNBb fNBs l
theorem fNB_eq : ∀ l k, fNB l k = k l
  | [], k => rfl
  | x :: r, k => by
    show (fNB r fun r' => k (x :: r')) = _
    rw [fNB_eq r]
def statb (recs : List Rec) : Bool := true
noncomputable def stats (ops : List Oper) (o : Oper) (r : List Oper) (ih : List Rec → Bool) (recs : List Rec) : Bool :=
  fNB (predsOf (recs.map Rec.preds) o) fun p => fNB (tmpsOf o ops) fun l => match o.dst with
    | none => okD recs o ⟨p, none, l, [], []⟩ && ih (recs ++ [⟨p, none, l, [], []⟩])
    | some d => okD recs o ⟨p, some d, l, [], []⟩ && ih (recs ++ [⟨p, some d, l, [], []⟩])
noncomputable def statF (ops l : List Oper) : List Rec → Bool := List.rec statb (stats ops) l
theorem statF_eq (ops : List Oper) : ∀ l recs, statF ops l recs = staticL ops l recs
  | [], recs => rfl
  | o :: r, recs => by
    show stats ops o r (statF ops r) recs = _
    unfold stats
    simp only [fNB_eq, staticL, statF_eq ops r]
    unfold sRec
    cases o.dst <;> rfl
variable {C} in
theorem go_any {S : Sums C} {ops : List Oper} {sl : R C} {h : H C} {K : R C → H C → Prop} (hk : drawF C S ops ops [] sl h K) : Drawn C S ops sl h K := .any (by rw [← drawF_eq]; exact hk)
variable {C} in
theorem go_quiet {S : Sums C} {ops : List Oper} {sl : R C} {h : H C} {K : R C → H C → Prop} (hs : statF ops ops [] = true) (hw : h.all (blkAll (fun i => Nat.blt i h.length)) = true) (hk : quietF C S ops ops sl h K) : Drawn C S ops sl h K :=
  .quiet (by rw [← statF_eq]; exact hs) hw (by rw [← quietF_eq]; exact hk)

noncomputable def tidyF (base : Nat) (sl : R C) (h : H C) (K : R C → H C → Prop) : Prop := fNL (kept C base sl h) fun kp => match okKept base kp with
  | true => fT (trMap (renV (place base kp) 4) sl) fun sl' => fH ((h.take base).map (renB (place base kp)) ++ (pickB h kp).map (renB (place base kp))) fun h' => K sl' h'
  | false => False
theorem tidyF_eq (base : Nat) (sl : R C) (h : H C) (K : R C → H C → Prop) : tidyF C base sl h K = tidyK C base sl h K := by
  unfold tidyF tidyK; simp only [fNL_eq, fT_eq, fH_eq]; rfl

noncomputable def nilF (sl : R C) (h : H C) (K : R C → H C → Prop) : Prop := match hasNilT sl with
  | true => match nilT h.length sl with
    | (sl', a) => fT sl' fun sl' => fH (h ++ a) fun h => nilToF h.length 0 h fun h => K sl' h
  | false => nilToF h.length 0 h fun h => K sl h
theorem nilF_eq (sl : R C) (h : H C) (K : R C → H C → Prop) : nilF C sl h K = nilK C sl h K := by
  unfold nilF nilK; simp only [fT_eq, fH_eq, nilToF_eq]; rfl

noncomputable def canonF (base : Nat) (kill : List Nat) (sl : R C) (h : H C) (K : R C → H C → Prop) : Prop :=
  killF kill sl fun sl => pruneF sl fun sl => nilF C sl h fun sl h => match Nat.beq h.length base with
    | true => K sl h
    | false => tidyF C base sl h K
theorem canonF_eq (base : Nat) (kill : List Nat) (sl : R C) (h : H C) (K : R C → H C → Prop) : canonF C base kill sl h K = canonK C base kill sl h K := by
  unfold canonF canonK; simp only [killF_eq, pruneF_eq, nilF_eq, tidyF_eq]; rfl

def iterb (sl : R C) (h : H C) : Prop := False
def iters (body : R C → H C → (Ex → R C → H C → Prop) → Prop) (cn : R C → H C → (R C → H C → Prop) → Prop) (K : Ex → R C → H C → Prop) (n : Nat) (ih : R C → H C → Prop) (sl : R C) (h : H C) : Prop := body sl h fun e sl h => match e with
    | .normal => cn sl h ih
    | .exit i => K (.exit i) sl h
    | .ret => K .ret sl h
noncomputable def iterF (body : R C → H C → (Ex → R C → H C → Prop) → Prop) (cn : R C → H C → (R C → H C → Prop) → Prop) (K : Ex → R C → H C → Prop) (n : Nat) : R C → H C → Prop := Nat.rec (iterb C) (iters C body cn K) n
theorem iterF_eq (body : R C → H C → (Ex → R C → H C → Prop) → Prop) (cn : R C → H C → (R C → H C → Prop) → Prop) (K : Ex → R C → H C → Prop) : ∀ n sl h, iterF C body cn K n sl h = iter C body cn K n sl h
  | 0, sl, h => rfl
  | n + 1, sl, h => by
    show iters C body cn K n (iterF C body cn K n) sl h = _
    have hf : iterF C body cn K n = iter C body cn K n := funext fun sl => funext fun h => iterF_eq body cn K n sl h
    rw [hf]; rfl

abbrev KK := R C → H C → (Ex → R C → H C → Prop) → Prop
def cSkip : KK C := fun sl h K => K .normal sl h
noncomputable def cReg (S : Sums C) (N : Enter C) (_ : Nat) (ops : Array Oper) (draw : Bool) : KK C := fun sl h K => match draw with
  | false => opsF C S N ops.toList ops.toList sl h (K .normal)
  | true => Drawn C S ops.toList sl h (K .normal)
def cSeq (_ _ : Code) (a b : KK C) : KK C := fun sl h K => a sl h fun e sl h => match e with
  | .normal => b sl h K
  | .exit i => K (.exit i) sl h
  | .ret => K .ret sl h
def cCond (c : Operand) (_ _ : Code) (a b : KK C) : KK C := fun sl h K => match ev C sl c with
  | .bool c => br c (a sl h K) (b sl h K)
  | _ => False
def cBlock (id : Nat) (_ : Code) (b : KK C) : KK C := fun sl h K => b sl h fun e sl h => match e with
  | .exit i => match Nat.beq i id with
    | true => K .normal sl h
    | false => K (.exit i) sl h
  | .normal => K .normal sl h
  | .ret => K .ret sl h
noncomputable def cLoop (base : Nat) (kills : List (Nat × List Nat)) (b : Code) (ib : KK C) : KK C := fun sl h K =>
  canonF C base (killsOf kills (firstRegion b)) sl h fun sl h => ∃ n, iterF C ib (canonF C base (killsOf kills (firstRegion b))) K n sl h
def cExit (i : Nat) : KK C := fun sl h K => K (.exit i) sl h
def cRet : KK C := fun sl h K => K .ret sl h
def cNo : KK C := fun _ _ _ => False
noncomputable def codeF (S : Sums C) (N : Enter C) (base : Nat) (kills : List (Nat × List Nat)) (c : Code) : KK C :=
  Code.rec (cSkip C) (cReg C S N) (cSeq C) (cCond C) (cBlock C) (cLoop C base kills) (fun _ _ _ _ _ _ => cNo C) (cExit C) (fun _ _ => cNo C) (fun _ => cNo C) (fun _ => cNo C) (cRet C) (fun _ => cNo C) c
theorem codeF_eq (S : Sums C) (N : Enter C) (base : Nat) (kills : List (Nat × List Nat)) : ∀ c sl h K, codeF C S N base kills c sl h K = codeK C S N base kills c sl h K
  | .skip, sl, h, K => rfl
  | .region id ops draw, sl, h, K => by
    show cReg C S N id ops draw sl h K = _
    unfold cReg
    cases draw <;> simp only [codeK, opsF_eq]
  | .seq a b, sl, h, K => by
    show cSeq C a b (codeF C S N base kills a) (codeF C S N base kills b) sl h K = _
    unfold cSeq
    simp only [codeK, codeF_eq S N base kills a, codeF_eq S N base kills b]
    rfl
  | .cond c a b, sl, h, K => by
    show cCond C c a b (codeF C S N base kills a) (codeF C S N base kills b) sl h K = _
    unfold cCond
    simp only [codeK, codeF_eq S N base kills a, codeF_eq S N base kills b]
    rfl
  | .block id b, sl, h, K => by
    show cBlock C id b (codeF C S N base kills b) sl h K = _
    unfold cBlock
    simp only [codeK, codeF_eq S N base kills b]
    rfl
  | .loop b, sl, h, K => by
    show cLoop C base kills b (codeF C S N base kills b) sl h K = _
    have hf : codeF C S N base kills b = codeK C S N base kills b := funext fun sl => funext fun h => funext fun K => codeF_eq S N base kills b sl h K
    rw [hf]
    unfold cLoop
    have hc : canonF C base (killsOf kills (firstRegion b)) = canonK C base (killsOf kills (firstRegion b)) := funext fun sl => funext fun h => funext fun K => canonF_eq C base _ sl h K
    rw [hc]
    simp only [codeK, iterF_eq]
  | .exit i, sl, h, K => rfl
  | .ret, sl, h, K => rfl
  | .rangeFunc _ _ _ _, sl, h, K => rfl
  | .scope _, sl, h, K => rfl
  | .label _, sl, h, K => rfl
  | .goto _, sl, h, K => rfl
  | .refuse _, sl, h, K => rfl

def argsb (n : Nat) (t : R C) (k : R C → Prop) : Prop := k t
noncomputable def argss (v : V C) (r : List (V C)) (ih : Nat → R C → (R C → Prop) → Prop) (n : Nat) (t : R C) (k : R C → Prop) : Prop := fV 3 v fun v => setF fuel t n v fun t => ih (n + 1) t k
noncomputable def argsF (l : List (V C)) : Nat → R C → (R C → Prop) → Prop := List.rec (argsb C) (argss C) l
theorem argsF_eq : ∀ l n t k, argsF C l n t k = argsK C n l t k
  | [], n, t, k => rfl
  | v :: r, n, t, k => by
    show argss C v r (argsF C r) n t k = _
    unfold argss
    simp only [argsK, fV_eq, setF_eq, argsF_eq r]

noncomputable def endF (base : Nat) (h : H C) (v : V C) (K : V C → H C → Prop) : Prop := match nilV h.length v with
  | (v, a) => fV 3 v fun v => fH (h ++ a) fun h => tidyF C base (.nd v .lf .lf) h fun sl h => fV 3 (sl.get 0) fun v => K v h
theorem endF_eq (base : Nat) (h : H C) (v : V C) (K : V C → H C → Prop) : endF C base h v K = endV C base h v K := by
  unfold endF endV; simp only [fV_eq, fH_eq, forceV_eq, forceH_eq, tidyF_eq]

noncomputable def bodyEndF (f : FnI C.E) (base : Nat) (sl : R C) (h : H C) (K : V C → H C → Prop) : Prop := match arrRes C sl h f.fn.results.toList with
  | some r => match r with
    | .chk p v => p ∧ endF C base h v K
    | _ => False
  | none => match resV C sl h f.fn.results.toList with
    | some v => endF C base h v K
    | none => False
theorem bodyEndF_eq (f : FnI C.E) (base : Nat) (sl : R C) (h : H C) (K : V C → H C → Prop) : bodyEndF C f base sl h K = bodyEnd C f base sl h K := by
  unfold bodyEndF bodyEnd; simp only [endF_eq]; rfl

noncomputable def bodyF (S : Sums C) (N : Enter C) (f : FnI C.E) (args : List (V C)) (h : H C) (K : V C → H C → Prop) : Prop := match f.fn.body with
  | some c => argsF C args 0 .lf fun sl => codeF C S N h.length f.kills c sl h fun e sl h' => match e with
    | .exit _ => False
    | .normal => bodyEndF C f h.length sl h' K
    | .ret => bodyEndF C f h.length sl h' K
  | none => False
theorem bodyF_eq (S : Sums C) (N : Enter C) (f : FnI C.E) (args : List (V C)) (h : H C) (K : V C → H C → Prop) : bodyF C S N f args h K = bodyK C S N f args h K := by
  unfold bodyF bodyK; simp only [argsF_eq, codeF_eq, bodyEndF_eq]; rfl

def callb : Enter C := fun _ _ _ _ => False
noncomputable def calls (F : Nat → Option (FnI C.E)) (S : Sums C) (d : Nat) (ih : Enter C) : Enter C := fun f args h K => match F f with
    | some i => bodyF C S ih i args h K
    | none => False
noncomputable def callF (F : Nat → Option (FnI C.E)) (S : Sums C) (d : Nat) : Enter C := Nat.rec (callb C) (calls C F S) d
theorem callF_eq (F : Nat → Option (FnI C.E)) (S : Sums C) : ∀ d, callF C F S d = callK C F S d
  | 0 => rfl
  | d + 1 => by
    show calls C F S d (callF C F S d) = _
    rw [callF_eq F S d]
    funext f args h K
    unfold calls
    simp only [callK, bodyF_eq]
    rfl

theorem loop_F {α : Type} (st : α → R C) (hp : α → H C) (I : α → Prop) (μ : α → Nat) {body : R C → H C → (Ex → R C → H C → Prop) → Prop} {cn : R C → H C → (R C → H C → Prop) → Prop} {K : Ex → R C → H C → Prop} (x0 : α) (h0 : I x0)
    (step : ∀ x n, I x → (∀ y, I y → μ y < μ x → iterF C body cn K n (st y) (hp y)) → iterF C body cn K (n + 1) (st x) (hp x)) : ∃ n, iterF C body cn K n (st x0) (hp x0) := by
  suffices h : ∀ m x, I x → μ x ≤ m → iterF C body cn K (m + 1) (st x) (hp x) from ⟨_, h _ x0 h0 (Nat.le_refl _)⟩
  intro m
  induction m with
  | zero => exact fun x hx hm => step x 0 hx fun y _ hy => by omega
  | succ m ih => exact fun x hx hm => step x (m + 1) hx fun y hy hlt => ih y hy (by omega)

end
end Go.Proofs.Ytgplkdcibahofaa.Ev
