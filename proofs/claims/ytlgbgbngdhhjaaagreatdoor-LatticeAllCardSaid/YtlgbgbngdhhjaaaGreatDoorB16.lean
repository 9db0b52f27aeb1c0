/- The equations of symbolic running. No condition. -/
import Derived.Test.YtlgbgbngdhhjaaaGreatDoorB15
set_option linter.unusedSimpArgs false
set_option linter.unusedVariables false
namespace Go.Proofs.YtlgbgbngdhhjaaaGreatDoor
namespace K
noncomputable section
open Go AM

/-- Not a proof by nothing, for simp: else the kernel is to see all steps at once. -/
theorem nr {α : Sort _} {a b : α} (h : a = b) : a = b := by cases h; exact Eq.refl _

/-! Regions in order: what the operation gives stands ahead, the rest waits. -/
def kV (r : Option AVal) (d : Option Nat) (os : List AOper) (T : Tm) (H : Heap) (Q : Post) : Prop := match r with
  | some v => runO os (putO T d v) H Q
  | none => False
def kN (r : Option (AObj × (Nat → AVal))) (d : Option Nat) (os : List AOper) (T : Tm) (H : Heap) (Q : Post) : Prop := match r with
  | some p => runO os (putO T d (p.2 H.nx)) (H.push p.1) Q
  | none => False
def kE (r : Option (AVal × Heap)) (d : Option Nat) (os : List AOper) (T : Tm) (Q : Post) : Prop := match r with
  | some p => runO os (putO T d p.1) p.2 Q
  | none => False
def kC (d : Option Nat) (os : List AOper) (T : Tm) (Q : Post) (v : AVal) (H : Heap) : Prop := runO os (putO T d v) H Q
def kA (f : FuncId) (r : Option (List AVal)) (d : Option Nat) (os : List AOper) (T : Tm) (H : Heap) (Q : Post) : Prop := match r with
  | some vs => Call f vs H (kC d os T Q)
  | none => False
def kAv (r : Option AVal) (l : Option (List AVal)) (d : Option Nat) (os : List AOper) (T : Tm) (H : Heap) (Q : Post) : Prop := match r, l with
  | some (.f f caps), some vs => Call f (vs ++ caps) H (kC d os T Q)
  | _, _ => False
def kG (r : Option AVal) (w : Bool) (d : Option Nat) (o : AIn) (os : List AOper) (T : Tm) (H : Heap) (Q : Post) : Prop := match r with
  | some (.b x) => if x = w then runO (⟨d, o, none⟩ :: os) T H Q else runO os (putO T d (.tup [])) H Q
  | some (.tup _) => runO os (putO T d (.tup [])) H Q
  | _ => False

@[simp] theorem putO_some (T : Tm) (d : Nat) (v : AVal) : putO T (some d) v = T.put d v := nr rfl
@[simp] theorem putO_none (T : Tm) (v : AVal) : putO T none v = T := nr rfl
@[simp] theorem kV_some (v : AVal) (d os T H Q) : kV (some v) d os T H Q = runO os (putO T d v) H Q := nr rfl
@[simp] theorem kV_none (d os T H Q) : kV none d os T H Q = False := nr rfl
@[simp] theorem kN_some (ob : AObj) (mk : Nat → AVal) (d os T H Q) : kN (some (ob, mk)) d os T H Q = runO os (putO T d (mk H.nx)) (H.push ob) Q := nr rfl
@[simp] theorem kE_some (v : AVal) (H : Heap) (d os T Q) : kE (some (v, H)) d os T Q = runO os (putO T d v) H Q := nr rfl
@[simp] theorem kA_some (f : FuncId) (vs : List AVal) (d os T H Q) : kA f (some vs) d os T H Q = Call f vs H (kC d os T Q) := nr rfl
@[simp] theorem kAv_some (f : FuncId) (caps vs : List AVal) (d os T H Q) : kAv (some (.f f caps)) (some vs) d os T H Q = Call f (vs ++ caps) H (kC d os T Q) := nr rfl
@[simp] theorem kG_tt (d o os T H Q) : kG (some (.b true)) true d o os T H Q = runO (⟨d, o, none⟩ :: os) T H Q := by simp [kG]
@[simp] theorem kG_ff (d o os T H Q) : kG (some (.b false)) false d o os T H Q = runO (⟨d, o, none⟩ :: os) T H Q := by simp [kG]
@[simp] theorem kG_tf (d o os T H Q) : kG (some (.b true)) false d o os T H Q = runO os (putO T d (.tup [])) H Q := by simp [kG]
@[simp] theorem kG_ft (d o os T H Q) : kG (some (.b false)) true d o os T H Q = runO os (putO T d (.tup [])) H Q := by simp [kG]
@[simp] theorem kG_tup (l w d o os T H Q) : kG (some (.tup l)) w d o os T H Q = runO os (putO T d (.tup [])) H Q := nr rfl

@[simp] theorem runO_nil (T H Q) : runO [] T H Q = Q .normal T H := nr rfl
@[simp] theorem runO_pure (d o os T H Q) : runO (⟨d, .pure o, none⟩ :: os) T H Q = kV (aPure T o) d os T H Q := by
  simp only [runO, gdK, aWanted, stepK, kV]; cases aPure T o <;> rfl
@[simp] theorem runO_read (d o os T H Q) : runO (⟨d, .read o, none⟩ :: os) T H Q = kV (aRead T H o) d os T H Q := by
  simp only [runO, gdK, aWanted, stepK, kV]; cases aRead T H o <;> rfl
@[simp] theorem runO_new (d o os T H Q) : runO (⟨d, .new o, none⟩ :: os) T H Q = kN (aNew T o) d os T H Q := by
  simp only [runO, gdK, aWanted, stepK, kN]; cases aNew T o <;> rfl
@[simp] theorem runO_eff (d o os T H Q) : runO (⟨d, .eff o, none⟩ :: os) T H Q = kE (aEff T H o) d os T Q := by
  simp only [runO, gdK, aWanted, stepK, kE]; cases aEff T H o <;> rfl
@[simp] theorem runO_call (d f l os T H Q) : runO (⟨d, .call f l, none⟩ :: os) T H Q = kA f (evs T l) d os T H Q := by
  simp only [runO, gdK, aWanted, stepK, kA]; cases evs T l <;> rfl
@[simp] theorem runO_callv (d x l os T H Q) : runO (⟨d, .callv x l, none⟩ :: os) T H Q = kAv (ev T x) (evs T l) d os T H Q := by
  simp only [runO, gdK, aWanted, stepK, kAv]
  split <;> split <;> simp_all
  rfl
@[simp] theorem runO_gd (d t w o os T H Q) : runO (⟨d, o, some (t, w)⟩ :: os) T H Q = kG (T.get t) w d o os T H Q := by
  simp only [runO, gdK, aWanted, kG]
  cases T.get t with
  | none => rfl
  | some v =>
    cases v <;> (try rfl)
    rename_i x
    cases x <;> cases w <;> rfl

/-! Drawn regions. -/
def qV (r : Option AVal) (it : DItem) (rest : List DItem) (done : List (DItem × Option Nat)) (ks : List Kn) (T : Tm) (H : Heap) (Q : Post) : Prop := match r with
  | some v => runQ rest ((it, none) :: done) ks (putO T it.op.dst v) H Q
  | none => False
def qN (r : Option (AObj × (Nat → AVal))) (it : DItem) (rest : List DItem) (done : List (DItem × Option Nat)) (ks : List Kn) (T : Tm) (H : Heap) (Q : Post) : Prop := match r with
  | some p => runQ rest ((it, some H.nx) :: done) ks (putO T it.op.dst (p.2 H.nx)) (H.push p.1) Q
  | none => False
def qE (r : Option (AVal × Heap)) (it : DItem) (rest : List DItem) (done : List (DItem × Option Nat)) (ks : List Kn) (T : Tm) (H : Heap) (Q : Post) : Prop := match r with
  | some p => Still T H p.2 it.pend done ∧ runQ rest ((it, none) :: done) ks (putO T it.op.dst p.1) p.2 Q
  | none => False
def qC (f : FuncId) (vs : List AVal) (it : DItem) (rest : List DItem) (done : List (DItem × Option Nat)) (ks : List Kn) (T : Tm) (H : Heap) (Q : Post) (v : AVal) (H' : Heap) : Prop :=
  Fresh ks f vs H v H' ∧ Still T H H' it.pend done ∧ runQ rest ((it, none) :: done) (⟨f, vs, H, v, H'⟩ :: ks) (putO T it.op.dst v) H' Q
def qA (f : FuncId) (r : Option (List AVal)) (it : DItem) (rest : List DItem) (done : List (DItem × Option Nat)) (ks : List Kn) (T : Tm) (H : Heap) (Q : Post) : Prop := match r with
  | some vs => Call f vs H (qC f vs it rest done ks T H Q)
  | none => False
/-- The operation itself, its guard apart. -/
def qS (it : DItem) (rest : List DItem) (done : List (DItem × Option Nat)) (ks : List Kn) (T : Tm) (H : Heap) (Q : Post) : Prop :=
  stepD T H ks it.op.op fun v H' ks' => (it.op.op.isEff = true → Still T H H' it.pend done) ∧ runQ rest ((it, newId it.op.op H.nx) :: done) ks' (putO T it.op.dst v) H' Q
def qG (r : Option AVal) (w : Bool) (it : DItem) (rest : List DItem) (done : List (DItem × Option Nat)) (ks : List Kn) (T : Tm) (H : Heap) (Q : Post) : Prop := match r with
  | some (.b x) => if x = w then qS it rest done ks T H Q else runQ rest ((it, none) :: done) ks (putO T it.op.dst (.tup [])) H Q
  | some (.tup _) => runQ rest ((it, none) :: done) ks (putO T it.op.dst (.tup [])) H Q
  | _ => False

@[simp] theorem qV_some (v it rest done ks T H Q) : qV (some v) it rest done ks T H Q = runQ rest ((it, none) :: done) ks (putO T it.op.dst v) H Q := nr rfl
@[simp] theorem qN_some (ob mk it rest done ks T H Q) : qN (some (ob, mk)) it rest done ks T H Q = runQ rest ((it, some H.nx) :: done) ks (putO T it.op.dst (mk H.nx)) (H.push ob) Q := nr rfl
@[simp] theorem qE_some (v H' it rest done ks T H Q) : qE (some (v, H')) it rest done ks T H Q = (Still T H H' it.pend done ∧ runQ rest ((it, none) :: done) ks (putO T it.op.dst v) H' Q) := nr rfl
@[simp] theorem qA_some (f vs it rest done ks T H Q) : qA f (some vs) it rest done ks T H Q = Call f vs H (qC f vs it rest done ks T H Q) := nr rfl
@[simp] theorem qG_tt (it rest done ks T H Q) : qG (some (.b true)) true it rest done ks T H Q = qS it rest done ks T H Q := by simp [qG]
@[simp] theorem qG_ff (it rest done ks T H Q) : qG (some (.b false)) false it rest done ks T H Q = qS it rest done ks T H Q := by simp [qG]
@[simp] theorem qG_tf (it rest done ks T H Q) : qG (some (.b true)) false it rest done ks T H Q = runQ rest ((it, none) :: done) ks (putO T it.op.dst (.tup [])) H Q := by simp [qG]
@[simp] theorem qG_ft (it rest done ks T H Q) : qG (some (.b false)) true it rest done ks T H Q = runQ rest ((it, none) :: done) ks (putO T it.op.dst (.tup [])) H Q := by simp [qG]
@[simp] theorem qG_tup (l w it rest done ks T H Q) : qG (some (.tup l)) w it rest done ks T H Q = runQ rest ((it, none) :: done) ks (putO T it.op.dst (.tup [])) H Q := nr rfl

@[simp] theorem runQ_nil (done ks T H Q) : runQ [] done ks T H Q = Q .normal T H := nr rfl
@[simp] theorem runQ_op (i d o sl pd rest done ks T H Q) : runQ (⟨i, ⟨d, o, none⟩, sl, pd⟩ :: rest) done ks T H Q = qS ⟨i, ⟨d, o, none⟩, sl, pd⟩ rest done ks T H Q := by
  simp only [runQ, gdK, aWanted, qS]
@[simp] theorem runQ_gd (i d o t w sl pd rest done ks T H Q) : runQ (⟨i, ⟨d, o, some (t, w)⟩, sl, pd⟩ :: rest) done ks T H Q = qG (T.get t) w ⟨i, ⟨d, o, some (t, w)⟩, sl, pd⟩ rest done ks T H Q := by
  simp only [runQ, gdK, aWanted, qG, qS]
  cases T.get t with
  | none => rfl
  | some v =>
    cases v <;> (try rfl)
    rename_i x
    cases x <;> cases w <;> rfl
@[simp] theorem qS_pure (i d o g sl pd rest done ks T H Q) : qS ⟨i, ⟨d, .pure o, g⟩, sl, pd⟩ rest done ks T H Q = qV (aPure T o) ⟨i, ⟨d, .pure o, g⟩, sl, pd⟩ rest done ks T H Q := by
  simp only [qS, stepD, qV, AIn.isEff, newId, Bool.false_eq_true, false_implies, true_and]; cases aPure T o <;> rfl
@[simp] theorem qS_read (i d o g sl pd rest done ks T H Q) : qS ⟨i, ⟨d, .read o, g⟩, sl, pd⟩ rest done ks T H Q = qV (aRead T H o) ⟨i, ⟨d, .read o, g⟩, sl, pd⟩ rest done ks T H Q := by
  simp only [qS, stepD, qV, AIn.isEff, newId, Bool.false_eq_true, false_implies, true_and]; cases aRead T H o <;> rfl
@[simp] theorem qS_new (i d o g sl pd rest done ks T H Q) : qS ⟨i, ⟨d, .new o, g⟩, sl, pd⟩ rest done ks T H Q = qN (aNew T o) ⟨i, ⟨d, .new o, g⟩, sl, pd⟩ rest done ks T H Q := by
  simp only [qS, stepD, qN, AIn.isEff, newId, Bool.false_eq_true, false_implies, true_and]; cases aNew T o <;> rfl
@[simp] theorem qS_eff (i d o g sl pd rest done ks T H Q) : qS ⟨i, ⟨d, .eff o, g⟩, sl, pd⟩ rest done ks T H Q = qE (aEff T H o) ⟨i, ⟨d, .eff o, g⟩, sl, pd⟩ rest done ks T H Q := by
  simp only [qS, stepD, qE, AIn.isEff, newId, true_implies]; cases aEff T H o <;> rfl
@[simp] theorem qS_call (i d f l g sl pd rest done ks T H Q) : qS ⟨i, ⟨d, .call f l, g⟩, sl, pd⟩ rest done ks T H Q = qA f (evs T l) ⟨i, ⟨d, .call f l, g⟩, sl, pd⟩ rest done ks T H Q := by
  simp only [qS, stepD, qA, AIn.isEff, newId, true_implies, qC]; cases evs T l <;> rfl

@[simp] theorem fresh_nil (f a H v H') : Fresh [] f a H v H' = True := nr rfl
@[simp] theorem fresh_cons (k r f a H v H') : Fresh (k :: r) f a H v H' = ((k.f = f → k.a = a → k.H = H → k.v = v ∧ k.H' = H') ∧ Fresh r f a H v H') := nr rfl
@[simp] theorem still_none (T H H' done) : Still T H H' [] done = True := by
  induction done with
  | nil => rfl
  | cons d r ih => simp [Still, ih]
@[simp] theorem still_nil (T H H' pd) : Still T H H' pd [] = True := nr rfl
def stR (T : Tm) (H H' : Heap) (g : Option (Nat × Bool)) (o : AIn) (id : Option Nat) : Prop := match o with
  | .read o => aWanted T g = some true → ∃ v, aRead T H o = some v ∧ aRead T H' o = some v
  | .new _ => aWanted T g = some true → ∃ i, id = some i ∧ H.get i = H'.get i
  | _ => True
theorem still_cons' {T H H' pd d r} (h1 : pd.contains d.1.i = true → stR T H H' d.1.op.gd d.1.op.op d.2) (h2 : Still T H H' pd r) : Still T H H' pd (d :: r) := by
  refine ⟨fun hc => ?_, h2⟩
  have h := h1 hc
  unfold stillOk'
  split
  · rename_i hw
    generalize d.1.op.op = o at h ⊢
    cases o <;> simp only [stR] at h <;> (try rfl)
    · obtain ⟨v, e1, e2⟩ := h hw
      simp only [e1, e2, AVal.same_refl]
    · obtain ⟨i, e1, e2⟩ := h hw
      simp only [e1, e2, osame_refl]
  · rfl
/-- What is asked, as a list of questions. -/
def StillL (T : Tm) (H H' : Heap) (pd : List Nat) : List (DItem × Option Nat) → Prop
  | [] => True
  | d :: r => (pd.contains d.1.i = true → stR T H H' d.1.op.gd d.1.op.op d.2) ∧ StillL T H H' pd r
theorem StillL.still {T H H' pd} : ∀ {l}, StillL T H H' pd l → Still T H H' pd l
  | [], _ => trivial
  | d :: r, h => still_cons' h.1 (StillL.still h.2)

/-! Code. -/
@[simp] theorem seqK_normal (y Q T H) : seqK y Q .normal T H = y T H Q := nr rfl
@[simp] theorem seqK_ret (y Q T H) : seqK y Q .ret T H = Q .ret T H := nr rfl
@[simp] theorem seqK_exit (y Q id T H) : seqK y Q (.exit id) T H = Q (.exit id) T H := nr rfl
@[simp] theorem blkK_normal (id Q T H) : blkK id Q .normal T H = Q .normal T H := nr rfl
@[simp] theorem blkK_ret (id Q T H) : blkK id Q .ret T H = Q .ret T H := nr rfl
@[simp] theorem blkK_exit (id Q j T H) : blkK id Q (.exit j) T H = if j = id then Q .normal T H else Q (.exit j) T H := nr rfl
@[simp] theorem cndK_true (A B) : cndK (some (.b true)) A B = A := nr rfl
@[simp] theorem cndK_false (A B) : cndK (some (.b false)) A B = B := nr rfl
@[simp] theorem lpK_normal (I k Q T H) : lpK I k Q .normal T H = ∃ j, j < k ∧ I j T H := nr rfl
@[simp] theorem lpK_ret (I k Q T H) : lpK I k Q .ret T H = Q .ret T H := nr rfl
@[simp] theorem lpK_exit (I k Q id T H) : lpK I k Q (.exit id) T H = Q (.exit id) T H := nr rfl
@[simp] theorem retK_normal (res R T H) : retK res R .normal T H = retK res R .ret T H := nr rfl
def rtK (r : Option (List AVal)) (R : AVal → Heap → Prop) (H : Heap) : Prop := match r with
  | some vs => R (oneOf vs) H
  | none => False
@[simp] theorem retK_ret (res R T H) : retK res R .ret T H = rtK (evalRess T H res) R H := nr rfl
@[simp] theorem rtK_some (vs R H) : rtK (some vs) R H = R (oneOf vs) H := nr rfl
@[simp] theorem oneOf_one (v) : oneOf [v] = v := nr rfl
@[simp] theorem oneOf_two (v w) : oneOf [v, w] = .tup [v, w] := nr rfl
@[simp] theorem run_skip (T H Q) : run .skip T H Q = Q .normal T H := nr rfl
@[simp] theorem run_region (ops T H Q) : run (.region ops) T H Q = runO ops T H Q := nr rfl
@[simp] theorem run_draw (its T H Q) : run (.draw its) T H Q = runQ its [] [] T H Q := nr rfl
@[simp] theorem run_seq (x y T H Q) : run (.seq x y) T H Q = run x T H (seqK (run y) Q) := nr rfl
@[simp] theorem run_cond (b x y T H Q) : run (.cond b x y) T H Q = cndK (ev T b) (run x T H Q) (run y T H Q) := nr rfl
@[simp] theorem run_block (id x T H Q) : run (.block id x) T H Q = run x T H (blkK id Q) := nr rfl
@[simp] theorem run_loop (x T H Q) : run (.loop x) T H Q = Loop x T H Q := nr rfl
@[simp] theorem run_exit (id T H Q) : run (.exit id) T H Q = Q (.exit id) T H := nr rfl
@[simp] theorem run_ret (T H Q) : run .ret T H Q = Q .ret T H := nr rfl
@[simp] theorem run_mask (l x T H Q) : run (.mask l x) T H Q = run x T H Q := nr rfl

/-! What waits is left alone. -/
@[congr] theorem cndK_congr {v v' : Option AVal} {A B : Prop} (h : v = v') : cndK v A B = cndK v' A B := by rw [h]
@[congr] theorem kV_congr {r r' : Option AVal} {d os T H Q} (h : r = r') : kV r d os T H Q = kV r' d os T H Q := by rw [h]
@[congr] theorem kN_congr {r r' : Option (AObj × (Nat → AVal))} {d os T H Q} (h : r = r') : kN r d os T H Q = kN r' d os T H Q := by rw [h]
@[congr] theorem kE_congr {r r' : Option (AVal × Heap)} {d os T Q} (h : r = r') : kE r d os T Q = kE r' d os T Q := by rw [h]
@[congr] theorem kA_congr {f} {r r' : Option (List AVal)} {d os T H Q} (h : r = r') : kA f r d os T H Q = kA f r' d os T H Q := by rw [h]
@[congr] theorem kG_congr {r r' : Option AVal} {w d o os T H Q} (h : r = r') : kG r w d o os T H Q = kG r' w d o os T H Q := by rw [h]
@[congr] theorem qV_congr {r r' : Option AVal} {it rest done ks T H Q} (h : r = r') : qV r it rest done ks T H Q = qV r' it rest done ks T H Q := by rw [h]
@[congr] theorem qN_congr {r r' : Option (AObj × (Nat → AVal))} {it rest done ks T H Q} (h : r = r') : qN r it rest done ks T H Q = qN r' it rest done ks T H Q := by rw [h]
@[congr] theorem qE_congr {r r' : Option (AVal × Heap)} {it rest done ks T H Q} (h : r = r') : qE r it rest done ks T H Q = qE r' it rest done ks T H Q := by rw [h]
@[congr] theorem qA_congr {f} {r r' : Option (List AVal)} {it rest done ks T H Q} (h : r = r') : qA f r it rest done ks T H Q = qA f r' it rest done ks T H Q := by rw [h]
@[congr] theorem qG_congr {r r' : Option AVal} {w it rest done ks T H Q} (h : r = r') : qG r w it rest done ks T H Q = qG r' w it rest done ks T H Q := by rw [h]
@[congr] theorem Call_congr {f} {a a' : List AVal} {H R} (h : a = a') : Call f a H R = Call f a' H R := by rw [h]
@[congr] theorem Loop_congr {c T H Q} : Loop c T H Q = Loop c T H Q := rfl
@[congr] theorem runO_congr {os T H Q} : runO os T H Q = runO os T H Q := rfl
@[congr] theorem runQ_congr {its done ks T H Q} : runQ its done ks T H Q = runQ its done ks T H Q := rfl
@[congr] theorem qS_congr {it rest done ks T H Q} : qS it rest done ks T H Q = qS it rest done ks T H Q := rfl
@[congr] theorem run_congr {c T H Q} : run c T H Q = run c T H Q := rfl
@[congr] theorem rtK_congr {r r' : Option (List AVal)} {R H} (h : r = r') : rtK r R H = rtK r' R H := by rw [h]

/-! Values. -/
@[simp] theorem p_mov' (T : Tm) (x : AOpd) : aPure T (.mov x) = ev T x := nr rfl
@[simp] theorem get_e' {α : Type} (k : Nat) : (Tr.e : Tr α).get k = none := nr rfl
@[simp] theorem s_eql' (a b : List Nat) : aBin .eql (.s a) (.s b) = some (.b (a == b)) := nr rfl
@[simp] theorem s_neq' (a b : List Nat) : aBin .neq (.s a) (.s b) = some (.b !(a == b)) := nr rfl
@[simp] theorem s_lss' (a b : List Nat) : aBin .lss (.s a) (.s b) = some (.b (natsLess a b)) := nr rfl
@[simp] theorem s_geq' (a b : List Nat) : aBin .geq (.s a) (.s b) = some (.b !(natsLess a b)) := nr rfl
attribute [simp] p_len p_pick p_bin p_eqt p_not p_fieldA p_nilck p_ext p_lenS p_idxA r_load Tr.get_put b_lss b_geq b_gtr b_leq b_eql b_neq
@[simp] theorem ev_t (T : Tm) (t : Nat) : ev T (.t t) = T.get t := nr rfl
@[simp] theorem ev_c (T : Tm) (v : AVal) : ev T (.c v) = some v := nr rfl
@[simp] theorem evs_nil (T : Tm) : evs T [] = some [] := nr rfl
def cns (x : Option AVal) (l : Option (List AVal)) : Option (List AVal) := match x, l with
  | some x, some l => some (x :: l)
  | _, _ => none
@[simp] theorem evs_cons (T : Tm) (x : AOpd) (l : List AOpd) : evs T (x :: l) = cns (ev T x) (evs T l) := by
  simp only [evs, cns]; cases ev T x <;> cases evs T l <;> rfl
@[simp] theorem cns_some (x l) : cns (some x) (some l) = some (x :: l) := nr rfl
@[simp] theorem slen_nsl : slen .nsl = some 0 := nr rfl
@[simp] theorem slen_sl (i o n k e) : slen (.sl i o n k e) = some n := nr rfl
@[simp] theorem sptr_sl (es i o n k e j) : sptr es (.sl i o n k e) j = .p i (o + j * es) := nr rfl
@[simp] theorem evalRess_nil (T H) : evalRess T H [] = some [] := nr rfl
@[simp] theorem evalRess_cons (T H r rs) : evalRess T H (r :: rs) = cns (evalRes T H r) (evalRess T H rs) := by
  simp only [evalRess, cns]; cases evalRes T H r <;> cases evalRess T H rs <;> rfl
@[simp] theorem evalRes_tmp (T H t) : evalRes T H (.tmp t) = T.get t := nr rfl
@[simp] theorem evalRes_cell (T H t n b) : evalRes T H (.cell t n b) = (T.get t).bind fun v => aLoad H v n b := by
  simp only [evalRes]; cases T.get t <;> rfl
@[simp] theorem putArgs_nil (i T) : putArgs [] i T = T := nr rfl
@[simp] theorem putArgs_cons (v vs i T) : putArgs (v :: vs) i T = putArgs vs (i + 1) (T.put i v) := nr rfl
@[simp] theorem n_box (T x) : aNew T (.box x) = (ev T x).bind fun v => (v.cells?).map fun cs => (.row cs true, fun i => .p i 0) := by
  simp only [aNew]; cases ev T x <;> rfl
@[simp] theorem n_alloc (T z) : aNew T (.alloc z) = some (.row z true, fun i => .p i 0) := nr rfl
@[simp] theorem n_mkmap (T) : aNew T .mkmap = some (.map [], fun i => .m i) := nr rfl
@[simp] theorem e_store (T H n a v) : aEff T H (.store n a v) = (ev T a).bind fun a => (ev T v).bind fun v => (aStore H a v n).map fun H => (.tup [], H) := by
  simp only [aEff]; cases ev T a <;> cases ev T v <;> rfl
@[simp] theorem e_app (T H es bytes s x) : aEff T H (.app es bytes s x) = (ev T s).bind fun s => (ev T x).bind fun x => aApp H es bytes s x := by
  simp only [aEff]; cases ev T s <;> cases ev T x <;> rfl
@[simp] theorem e_upd (T H kk m k v) : aEff T H (.upd kk m k v) = (ev T m).bind fun m => (ev T k).bind fun k => (ev T v).bind fun v => (aUpd H kk m k v).map fun H => (.tup [], H) := by
  simp only [aEff]; cases ev T m <;> cases ev T k <;> cases ev T v <;> rfl
@[simp] theorem r_look (T H kk z ok m k) : aRead T H (.look kk z ok m k) = (ev T m).bind fun m => (ev T k).bind fun k => aLook H kk z ok m k := by
  simp only [aRead]; cases ev T m <;> cases ev T k <;> rfl
@[simp] theorem load_row {H : Heap} {i o n : Nat} {cs : List AVal} {own : Bool} (h : H.get i = some (.row cs own)) : aLoad H (.p i o) n false = cs[o]? := by
  simp [aLoad, h]
theorem load_agg {H : Heap} {i o n : Nat} {cs : List AVal} {own : Bool} (h : H.get i = some (.row cs own)) (hn : o + n ≤ cs.length) : aLoad H (.p i o) n true = some (.agg ((cs.drop o).take n)) := by
  simp [aLoad, h, hn]

theorem b_inc {j : Nat} (h : j < 4611686018427387904) : aBin .add (.i .i64 (j : Int)) (.i .i64 1) = some (.i .i64 ((j + 1 : Nat) : Int)) := by
  rw [b_add ⟨by omega, by omega⟩]; simp

/-- Append to nothing, and to what is full. -/
theorem app_nil {H : Heap} {es bytes : Nat} {x : AVal} {news : List AVal} {n : Nat} (h : aNews H x es = some (news, n)) (hn : n ≠ 0) (hb : n * bytes ≤ 1099511627776) (hl : n ≤ 1099511627776) :
    aApp H es bytes .nsl x = some (.sl H.nx 0 n none es, H.push (.row news true)) := by
  simp [aApp, h, hn, hb, hl]

end
end K
end Go.Proofs.YtlgbgbngdhhjaaaGreatDoor
