/- Calls and code by symbolic running. No condition. -/
import Derived.Test.YtlgbgbngdhhjaaaGreatDoorB05
import Derived.Test.YtlgbgbngdhhjaaaGreatDoorB14
set_option linter.unusedSimpArgs false
set_option linter.unusedVariables false
namespace Go.Proofs.YtlgbgbngdhhjaaaGreatDoor
namespace K
noncomputable section
open Go AM

theorem mixed' : Tryz.prog.follows .mixedOrders = true := by kernel_rfl

abbrev Post := AEx → Tm → Heap → Prop

/-- It comes to an end of which Q is so. -/
def W (ac : ACode) (T : Tm) (H : Heap) (Q : Post) : Prop :=
  ∃ ex T' H', (∀ N, Tri Tryz.prog tbl N ac ⟨T, H, []⟩ ex ⟨T', H', []⟩) ∧ H.nx ≤ H'.nx ∧ Q ex T' H'

/-- A known call. -/
structure Kn where
  f : FuncId
  a : List AVal
  H : Heap
  v : AVal
  H' : Heap

def Kn.Ok (p : Kn) : Prop := FnOk Tryz.prog p.f ∧ p.H.nx ≤ p.H'.nx ∧ CallsA Tryz.prog p.f p.a p.H p.v p.H'

def Call (f : FuncId) (a : List AVal) (H : Heap) (R : AVal → Heap → Prop) : Prop := ∃ v H', Kn.Ok ⟨f, a, H, v, H'⟩ ∧ R v H'

theorem Call.mono {f : FuncId} {a : List AVal} {H : Heap} {R S : AVal → Heap → Prop} (h : Call f a H R) (hs : ∀ v H', H.nx ≤ H'.nx → R v H' → S v H') : Call f a H S := by
  obtain ⟨v, H', h1, h2⟩ := h
  exact ⟨v, H', h1, hs v H' h1.2.1 h2⟩

/-! ### Regions in the order of the text -/
def gdK (T : Tm) (g : Option (Nat × Bool)) (A B : Prop) : Prop :=
  match aWanted T g with
  | some true => A
  | some false => B
  | none => False

def stepK (T : Tm) (H : Heap) (o : AIn) (R : AVal → Heap → Prop) : Prop :=
  match o with
  | .pure o => match aPure T o with
    | some v => R v H
    | none => False
  | .read o => match aRead T H o with
    | some v => R v H
    | none => False
  | .new o => match aNew T o with
    | some p => R (p.2 H.nx) (H.push p.1)
    | none => False
  | .eff o => match aEff T H o with
    | some p => R p.1 p.2
    | none => False
  | .call f l => match evs T l with
    | some vs => Call f vs H R
    | none => False
  | .callv x l => match ev T x, evs T l with
    | some (.f f caps), some vs => Call f (vs ++ caps) H R
    | _, _ => False
  | .inv x tb l => match ev T x, evs T l with
    | some (.ifc t v), some vs => match AM.look t tb with
      | some f => Call f (v :: vs) H R
      | none => False
    | _, _ => False
  | _ => False

def runO : List AOper → Tm → Heap → Post → Prop
  | [], T, H, Q => Q .normal T H
  | o :: os, T, H, Q => gdK T o.gd (stepK T H o.op fun v H' => runO os (putO T o.dst v) H' Q) (runO os (putO T o.dst (.tup [])) H Q)

/-- One step, with the call that it takes. -/
theorem stepK_step {T : Tm} {H : Heap} {o : AIn} {R : AVal → Heap → Prop} (h : stepK T H o R) : ∃ v H', R v H' ∧ H.nx ≤ H'.nx ∧ ∃ ks : Option Kn, (∀ k, ks = some k → k.Ok ∧ k.H = H ∧ k.H' = H' ∧ k.v = v) ∧ (∀ call : CallF, (∀ k, ks = some k → call k.f k.a k.H = some (k.v, k.H')) → stepIn call T H o = some ⟨v, H', []⟩) := by
  cases o <;> simp only [stepK] at h
  case pure o =>
    split at h <;> (try exact h.elim)
    rename_i v hv
    exact ⟨v, H, h, Nat.le_refl _, none, by simp, fun call _ => by simp [stepIn, hv]⟩
  case read o =>
    split at h <;> (try exact h.elim)
    rename_i v hv
    exact ⟨v, H, h, Nat.le_refl _, none, by simp, fun call _ => by simp [stepIn, hv]⟩
  case new o =>
    split at h <;> (try exact h.elim)
    rename_i p hp
    obtain ⟨ob, mk⟩ := p
    exact ⟨_, _, h, by simp [Heap.nx_push], none, by simp, fun call _ => by simp [stepIn, hp]⟩
  case eff o =>
    split at h <;> (try exact h.elim)
    rename_i p hp
    obtain ⟨v, H'⟩ := p
    exact ⟨_, _, h, aEff_nx hp, none, by simp, fun call _ => by simp [stepIn, hp]⟩
  case call f l =>
    split at h <;> (try exact h.elim)
    rename_i vs hvs
    obtain ⟨v, H', h1, h2⟩ := h
    exact ⟨v, H', h2, h1.2.1, some ⟨f, vs, H, v, H'⟩, by simpa using h1, fun call hc => by have := hc _ rfl; simp only at this; simp [stepIn, hvs, this]⟩
  case callv x l =>
    split at h <;> (try exact h.elim)
    rename_i f caps vs hx hvs
    obtain ⟨v, H', h1, h2⟩ := h
    exact ⟨v, H', h2, h1.2.1, some ⟨f, vs ++ caps, H, v, H'⟩, by simpa using h1, fun call hc => by have := hc _ rfl; simp only at this; simp [stepIn, hx, hvs, this]⟩
  case inv x tb l =>
    split at h <;> (try exact h.elim)
    rename_i t u vs hx hvs
    split at h <;> (try exact h.elim)
    rename_i f hf
    obtain ⟨v, H', h1, h2⟩ := h
    exact ⟨v, H', h2, h1.2.1, some ⟨f, u :: vs, H, v, H'⟩, by simpa using h1, fun call hc => by have := hc _ rfl; simp only at this; simp [stepIn, hx, hvs, hf, this]⟩

/-- The known one, if there is one. -/
def ptO (k : Option Kn) : CallF := match k with
  | some k => pt k.f k.a k.H k.v k.H'
  | none => fun _ _ _ => none

theorem ptO_ok {ks : Option Kn} (h : ∀ k, ks = some k → k.Ok) : CallOk Tryz.prog (ptO ks) := by
  cases ks with
  | none => exact no_ok
  | some k => obtain ⟨h1, h2, h3⟩ := h k rfl; exact pt_ok h1 h2 h3

theorem ptO_at {ks : Option Kn} : ∀ k, ks = some k → ptO ks k.f k.a k.H = some (k.v, k.H') := by
  rintro k rfl; exact pt_at _ _ _ _ _

theorem runO_sound : ∀ (al : List AOper) (T : Tm) (H : Heap) (Q : Post), runO al T H Q → ∃ T' H', Q .normal T' H' ∧ H.nx ≤ H'.nx ∧
    ∀ (N : Nat) (ops : Array Oper) (l : List Oper) (i : Nat), (∀ j o, l[j]? = some o → ops[i + j]? = some o) → cOpers Tryz.prog tbl N ops l = some al →
      ∀ (K : Kept) (R : Exit → Act → World → Prop) (θ : Th) (a : Act) (w : World), SRel K θ N ⟨T, H, []⟩ a w →
      (∀ θ' a' w', θ.Up H.nx θ' → SRel K θ' N ⟨T', H', []⟩ a' w' → R .normal a' w') → wpOps Tryz.prog ops R (List.range' i l.length) a w
  | [], T, H, Q, h => ⟨T, H, h, Nat.le_refl _, fun N ops l i hl hc K R θ a w hs hq => by
    cases l with
    | nil => exact hq θ a w (Th.Up.refl _ _) hs
    | cons o l => simp only [cOpers] at hc; split at hc <;> simp at hc⟩
  | ao :: al, T, H, Q, h => by
    simp only [runO, gdK] at h
    have key : ∃ T1 H1, runO al T1 H1 Q ∧ H.nx ≤ H1.nx ∧ ∃ call, CallOk Tryz.prog call ∧ runOp call ao ⟨T, H, []⟩ = some ⟨T1, H1, []⟩ := by
      split at h
      · rename_i hw
        obtain ⟨v, H', h1, h2, ks, h3, h4⟩ := stepK_step h
        exact ⟨_, _, h1, h2, ptO ks, ptO_ok fun k hk => (h3 k hk).1, by simp [runOp, hw, h4 _ ptO_at]⟩
      · rename_i hw
        exact ⟨_, _, h, Nat.le_refl _, _, no_ok, by simp [runOp, hw]⟩
      · exact h.elim
    obtain ⟨T1, H1, h1, h2, call, hok, hop⟩ := key
    obtain ⟨T', H', k1, k2, k3⟩ := runO_sound al T1 H1 Q h1
    refine ⟨T', H', k1, Nat.le_trans h2 k2, fun N ops l i hl hc K R θ a w hs hq => ?_⟩
    cases l with
    | nil => simp [cOpers] at hc
    | cons o l =>
      simp only [cOpers] at hc
      split at hc <;> (try simp only [Option.some.injEq, reduceCtorEq] at hc)
      rename_i ao' al' hao hal
      obtain ⟨rfl, rfl⟩ := List.cons.inj hc
      simp only [List.length_cons, List.range'_succ]
      rw [wpOps_cons]
      refine runOp_sound hok (hl 0 o (by simp)) hao hs hop fun θ' a' w' j1 j2 j3 => ?_
      exact k3 N ops l (i + 1) (fun j o' hj => by have := hl (j + 1) o' (by simpa using hj); rwa [show i + (j + 1) = i + 1 + j by omega] at this) hal K R θ' a' w' j3
        fun θ'' a'' w'' m1 m2 => hq θ'' a'' w'' (j1.trans h2 m1) m2

theorem W.region {ops : List AOper} {T : Tm} {H : Heap} {Q : Post} (h : runO ops T H Q) : W (.region ops) T H Q := by
  obtain ⟨T', H', h1, h2, h3⟩ := runO_sound ops T H Q h
  refine ⟨.normal, T', H', fun N c hc K θ a w R hr hR => ?_, h2, h1⟩
  cases c <;> (try simp only [cCode, ACode.erase, Option.some.injEq, reduceCtorEq, Option.map_eq_some_iff, and_false, exists_false] at hc)
  · rename_i id ops' draw
    cases draw
    · simp only [cCode] at hc
      split at hc <;> (try simp only [Option.some.injEq, ACode.region.injEq, reduceCtorEq] at hc)
      rename_i al hal
      subst hc
      refine wp_region ?_
      rw [List.range_eq_range']
      have := h3 N ops' ops'.toList 0 (fun j o hj => by simpa using hj) hal K R θ a w hr fun θ' a' w' k1 k2 => hR θ' a' w' k1 h2 k2
      simpa using this
    · simp only [cCode] at hc
      split at hc <;> simp at hc
  · split at hc <;> simp at hc
  · split at hc <;> simp at hc
  · split at hc <;> simp at hc
  · split at hc <;> simp at hc

/-! ### Regions in any order -/
/-- Only one answer a call. -/
def Fresh (ks : List Kn) (f : FuncId) (a : List AVal) (H : Heap) (v : AVal) (H' : Heap) : Prop :=
  match ks with
  | [] => True
  | k :: r => (k.f = f → k.a = a → k.H = H → k.v = v ∧ k.H' = H') ∧ Fresh r f a H v H'

/-- What may come later gives the same. -/
def Still (T : Tm) (H H' : Heap) (pend : List Nat) : List (DItem × Option Nat) → Prop
  | [] => True
  | d :: r => (pend.contains d.1.i = true → stillOk' T H H' d = true) ∧ Still T H H' pend r

theorem Still.all {T : Tm} {H H' : Heap} {pend : List Nat} : ∀ {done : List (DItem × Option Nat)}, Still T H H' pend done → (done.all fun d => !(pend.contains d.1.i) || stillOk' T H H' d) = true
  | [], _ => rfl
  | d :: r, h => by
    have := Still.all h.2
    have h1 := h.1
    simp only [List.all_cons, Bool.and_eq_true]
    refine ⟨?_, this⟩
    cases hc : pend.contains d.1.i with
    | false => rfl
    | true => simpa [hc] using h1 hc

def stepD (T : Tm) (H : Heap) (ks : List Kn) (o : AIn) (R : AVal → Heap → List Kn → Prop) : Prop :=
  match o with
  | .pure o => match aPure T o with
    | some v => R v H ks
    | none => False
  | .read o => match aRead T H o with
    | some v => R v H ks
    | none => False
  | .new o => match aNew T o with
    | some p => R (p.2 H.nx) (H.push p.1) ks
    | none => False
  | .eff o => match aEff T H o with
    | some p => R p.1 p.2 ks
    | none => False
  | .call f l => match evs T l with
    | some vs => Call f vs H fun v H' => Fresh ks f vs H v H' ∧ R v H' (⟨f, vs, H, v, H'⟩ :: ks)
    | none => False
  | _ => False

def runQ : List DItem → List (DItem × Option Nat) → List Kn → Tm → Heap → Post → Prop
  | [], _, _, T, H, Q => Q .normal T H
  | it :: rest, done, ks, T, H, Q => gdK T it.op.gd
      (stepD T H ks it.op.op fun v H' ks' => (it.op.op.isEff = true → Still T H H' it.pend done) ∧ runQ rest ((it, newId it.op.op H.nx) :: done) ks' (putO T it.op.dst v) H' Q)
      (runQ rest ((it, none) :: done) ks (putO T it.op.dst (.tup [])) H Q)

def Cons (ks : List Kn) : Prop := ∀ p q, p ∈ ks → q ∈ ks → p.f = q.f → p.a = q.a → p.H = q.H → p.v = q.v ∧ p.H' = q.H'

def lookK (ks : List Kn) : CallF := by
  classical
  exact fun f a H => if h : ∃ p ∈ ks, p.f = f ∧ p.a = a ∧ p.H = H then some ((Classical.choose h).v, (Classical.choose h).H') else none

theorem lookK_ok {ks : List Kn} (h : ∀ p ∈ ks, p.Ok) : CallOk Tryz.prog (lookK ks) := by
  intro f a H v H' hh
  unfold lookK at hh
  split at hh <;> simp only [Option.some.injEq, reduceCtorEq, Prod.mk.injEq] at hh
  rename_i hc
  have hs := Classical.choose_spec hc
  obtain ⟨h1, h2, h3, h4⟩ := hs
  obtain ⟨k1, k2, k3⟩ := h _ h1
  rw [h2] at k1
  rw [h4, hh.2] at k2
  rw [h2, h3, h4, hh.1, hh.2] at k3
  exact ⟨k1, k2, k3⟩

theorem lookK_at {ks : List Kn} (h : Cons ks) {p : Kn} (hp : p ∈ ks) : lookK ks p.f p.a p.H = some (p.v, p.H') := by
  unfold lookK
  have hc : ∃ q ∈ ks, q.f = p.f ∧ q.a = p.a ∧ q.H = p.H := ⟨p, hp, rfl, rfl, rfl⟩
  rw [dif_pos hc]
  obtain ⟨h1, h2, h3, h4⟩ := Classical.choose_spec hc
  obtain ⟨k1, k2⟩ := h _ _ h1 hp h2 h3 h4
  rw [k1, k2]

theorem Fresh.mem : ∀ {ks : List Kn} {f : FuncId} {a : List AVal} {H : Heap} {v : AVal} {H' : Heap}, Fresh ks f a H v H' → ∀ k ∈ ks, k.f = f → k.a = a → k.H = H → k.v = v ∧ k.H' = H'
  | [], _, _, _, _, _, _, k, hk => by simp at hk
  | x :: r, _, _, _, _, _, h, k, hk => by
    rcases List.mem_cons.1 hk with rfl | hk
    · exact h.1
    · exact Fresh.mem h.2 k hk

theorem Cons.more {ks : List Kn} (h : Cons ks) {f : FuncId} {a : List AVal} {H : Heap} {v : AVal} {H' : Heap} (hf : Fresh ks f a H v H') : Cons (⟨f, a, H, v, H'⟩ :: ks) := by
  intro p q hp hq h1 h2 h3
  rcases List.mem_cons.1 hp with rfl | hp <;> rcases List.mem_cons.1 hq with rfl | hq
  · exact ⟨rfl, rfl⟩
  · obtain ⟨e1, e2⟩ := hf.mem q hq h1.symm h2.symm h3.symm
    exact ⟨e1.symm, e2.symm⟩
  · exact hf.mem p hp h1 h2 h3
  · exact h p q hp hq h1 h2 h3

theorem runQ_sound : ∀ (its : List DItem) (done : List (DItem × Option Nat)) (ks : List Kn) (T : Tm) (H : Heap) (Q : Post), runQ its done ks T H Q → Cons ks → (∀ k ∈ ks, k.Ok) →
    ∃ T' H' ks', Q .normal T' H' ∧ H.nx ≤ H'.nx ∧ Cons ks' ∧ (∀ k ∈ ks', k.Ok) ∧ (∀ k ∈ ks, k ∈ ks') ∧
      ∀ call : CallF, (∀ k ∈ ks', call k.f k.a k.H = some (k.v, k.H')) → runD' call its done ⟨T, H, []⟩ = some ⟨T', H', []⟩
  | [], done, ks, T, H, Q, h, hc, hk => ⟨T, H, ks, h, Nat.le_refl _, hc, hk, fun _ h => h, fun call _ => rfl⟩
  | it :: rest, done, ks, T, H, Q, h, hc, hk => by
    simp only [runQ, gdK] at h
    split at h
    · rename_i hw
      have key : ∃ v H1 ks1, (it.op.op.isEff = true → Still T H H1 it.pend done) ∧ runQ rest ((it, newId it.op.op H.nx) :: done) ks1 (putO T it.op.dst v) H1 Q ∧ H.nx ≤ H1.nx ∧ Cons ks1 ∧ (∀ k ∈ ks1, k.Ok) ∧ (∀ k ∈ ks, k ∈ ks1) ∧
          ∀ call : CallF, (∀ k ∈ ks1, call k.f k.a k.H = some (k.v, k.H')) → stepIn call T H it.op.op = some ⟨v, H1, []⟩ := by
        generalize it.op.op = o at h
        cases o <;> simp only [stepD] at h
        case pure o =>
          split at h <;> (try exact h.elim)
          rename_i v hv
          exact ⟨v, H, ks, h.1, h.2, Nat.le_refl _, hc, hk, fun _ h => h, fun call _ => by simp [stepIn, hv]⟩
        case read o =>
          split at h <;> (try exact h.elim)
          rename_i v hv
          exact ⟨v, H, ks, h.1, h.2, Nat.le_refl _, hc, hk, fun _ h => h, fun call _ => by simp [stepIn, hv]⟩
        case new o =>
          split at h <;> (try exact h.elim)
          rename_i p hp
          obtain ⟨ob, mk⟩ := p
          exact ⟨_, _, ks, h.1, h.2, by simp [Heap.nx_push], hc, hk, fun _ h => h, fun call _ => by simp [stepIn, hp]⟩
        case eff o =>
          split at h <;> (try exact h.elim)
          rename_i p hp
          obtain ⟨v, H'⟩ := p
          exact ⟨_, _, ks, h.1, h.2, aEff_nx hp, hc, hk, fun _ h => h, fun call _ => by simp [stepIn, hp]⟩
        case call f l =>
          split at h <;> (try exact h.elim)
          rename_i vs hvs
          obtain ⟨v, H', h1, h2, h3⟩ := h
          refine ⟨v, H', _, h3.1, h3.2, h1.2.1, hc.more h2, fun k hk' => ?_, fun k hk' => List.mem_cons_of_mem _ hk', fun call hcall => ?_⟩
          · rcases List.mem_cons.1 hk' with rfl | hk'
            · exact h1
            · exact hk k hk'
          · have := hcall _ List.mem_cons_self
            simp only at this
            simp [stepIn, hvs, this]
      obtain ⟨v, H1, ks1, h1, h2, h3, h4, h5, h6, h7⟩ := key
      obtain ⟨T', H', ks', k1, k2, k3, k4, k5, k6⟩ := runQ_sound rest _ ks1 _ H1 Q h2 h4 h5
      refine ⟨T', H', ks', k1, Nat.le_trans h3 k2, k3, k4, fun k hk' => k5 k (h6 k hk'), fun call hcall => ?_⟩
      have hst : (it.op.op.isEff && !(done.all fun d => !(it.pend.contains d.1.i) || stillOk' T H H1 d)) = false := by
        cases he : it.op.op.isEff with
        | false => rfl
        | true => simp only [Bool.true_and, (h1 he).all, Bool.not_true]
      simp only [runD', hw, h7 call fun k hk' => hcall k (k5 k hk'), hst]
      exact k6 call hcall
    · rename_i hw
      obtain ⟨T', H', ks', k1, k2, k3, k4, k5, k6⟩ := runQ_sound rest _ ks _ H Q h hc hk
      exact ⟨T', H', ks', k1, k2, k3, k4, k5, fun call hcall => by simp only [runD', hw]; exact k6 call hcall⟩
    · exact h.elim

theorem W.draw {its : List DItem} {T : Tm} {H : Heap} {Q : Post} (h : runQ its [] [] T H Q) : W (.draw its) T H Q := by
  obtain ⟨T', H', ks, h1, h2, h3, h4, _, h6⟩ := runQ_sound its [] [] T H Q h (fun p q hp => by simp at hp) (fun k hk => by simp at hk)
  have := h6 (lookK ks) fun k hk => lookK_at h3 hk
  exact ⟨.normal, T', H', fun N => Tri.eval (lookK_ok h4) mixed' false 0 (by simp [evalC, this]) ⟨rfl, rfl, fun _ _ h => h, fun _ _ h => h⟩, h2, h1⟩

/-! ### Code -/
def seqK (y : Tm → Heap → Post → Prop) (Q : Post) : Post := fun ex T H => match ex with
  | .normal => y T H Q
  | ex => Q ex T H

def blkK (id : Nat) (Q : Post) : Post := fun ex T H => match ex with
  | .exit j => if j = id then Q .normal T H else Q (.exit j) T H
  | ex => Q ex T H

def cndK (v : Option AVal) (A B : Prop) : Prop := match v with
  | some (.b true) => A
  | some (.b false) => B
  | _ => False

def Loop (c : ACode) (T : Tm) (H : Heap) (Q : Post) : Prop := W (.loop c) T H Q

def run : ACode → Tm → Heap → Post → Prop
  | .skip, T, H, Q => Q .normal T H
  | .region ops, T, H, Q => runO ops T H Q
  | .draw its, T, H, Q => runQ its [] [] T H Q
  | .seq x y, T, H, Q => run x T H (seqK (run y) Q)
  | .cond b x y, T, H, Q => cndK (ev T b) (run x T H Q) (run y T H Q)
  | .block id x, T, H, Q => run x T H (blkK id Q)
  | .loop x, T, H, Q => Loop x T H Q
  | .exit id, T, H, Q => Q (.exit id) T H
  | .ret, T, H, Q => Q .ret T H
  | .mask _ x, T, H, Q => run x T H Q
  | .stuck, _, _, _ => False

theorem Tri.skip' {N : Nat} {s : St} : Tri Tryz.prog tbl N .skip s .normal s := Tri.eval no_ok mixed' false 0 rfl ⟨rfl, rfl, fun _ _ h => h, fun _ _ h => h⟩
theorem Tri.exit' {N id : Nat} {s : St} : Tri Tryz.prog tbl N (.exit id) s (.exit id) s := Tri.eval no_ok mixed' false 0 rfl ⟨rfl, rfl, fun _ _ h => h, fun _ _ h => h⟩
theorem Tri.ret' {N : Nat} {s : St} : Tri Tryz.prog tbl N .ret s .ret s := Tri.eval no_ok mixed' false 0 rfl ⟨rfl, rfl, fun _ _ h => h, fun _ _ h => h⟩

theorem run_W : ∀ (ac : ACode) (T : Tm) (H : Heap) (Q : Post), run ac T H Q → W ac T H Q := by
  intro ac
  induction ac with
  | skip => intro T H Q h; exact ⟨.normal, T, H, fun N => Tri.skip', Nat.le_refl _, h⟩
  | region ops => intro T H Q h; exact W.region h
  | draw its => intro T H Q h; exact W.draw h
  | seq x y ihx ihy =>
    intro T H Q h
    obtain ⟨ex, T1, H1, h1, h2, h3⟩ := ihx T H _ h
    cases ex with
    | normal =>
      obtain ⟨ex, T2, H2, k1, k2, k3⟩ := ihy T1 H1 Q h3
      exact ⟨ex, T2, H2, fun N => (h1 N).seq (k1 N), Nat.le_trans h2 k2, k3⟩
    | exit id => exact ⟨.exit id, T1, H1, fun N => Tri.seq_out (by simp) (h1 N), h2, h3⟩
    | ret => exact ⟨.ret, T1, H1, fun N => Tri.seq_out (by simp) (h1 N), h2, h3⟩
  | cond b x y ihx ihy =>
    intro T H Q h
    simp only [run, cndK] at h
    split at h
    · rename_i hb
      obtain ⟨ex, T1, H1, h1, h2, h3⟩ := ihx T H _ h
      exact ⟨ex, T1, H1, fun N => Tri.cond true hb (h1 N), h2, h3⟩
    · rename_i hb
      obtain ⟨ex, T1, H1, h1, h2, h3⟩ := ihy T H _ h
      exact ⟨ex, T1, H1, fun N => Tri.cond false hb (h1 N), h2, h3⟩
    · exact h.elim
  | block id x ih =>
    intro T H Q h
    obtain ⟨ex, T1, H1, h1, h2, h3⟩ := ih T H _ h
    refine ⟨ex.leave id, T1, H1, fun N => Tri.block (h1 N), h2, ?_⟩
    cases ex with
    | normal => exact h3
    | ret => exact h3
    | exit j =>
      simp only [blkK] at h3
      simp only [AEx.leave]
      split at h3
      · rename_i hj; rw [if_pos hj]; exact h3
      · rename_i hj; rw [if_neg hj]; exact h3
  | loop x ih => intro T H Q h; exact h
  | exit id => intro T H Q h; exact ⟨.exit id, T, H, fun N => Tri.exit', Nat.le_refl _, h⟩
  | ret => intro T H Q h; exact ⟨.ret, T, H, fun N => Tri.ret', Nat.le_refl _, h⟩
  | mask l x ih =>
    intro T H Q h
    obtain ⟨ex, T1, H1, h1, h2, h3⟩ := ih T H _ h
    exact ⟨ex, T1, H1, fun N => Tri.mask (h1 N), h2, h3⟩
  | stuck => intro T H Q h; exact h.elim

/-! ### Loops -/
def lpK (I : Nat → Tm → Heap → Prop) (k : Nat) (Q : Post) : Post := fun ex T H => match ex with
  | .normal => ∃ j, j < k ∧ I j T H
  | ex => Q ex T H

theorem loop_key {x : ACode} {I : Nat → Tm → Heap → Prop} {Q : Post} (hstep : ∀ k T H, I k T H → run x T H (lpK I k Q)) : ∀ (b k : Nat) (T : Tm) (H : Heap), k < b → I k T H →
    ∃ ex T2 H2 n, ex ≠ .normal ∧ H.nx ≤ H2.nx ∧ Q ex T2 H2 ∧ ∀ (N : Nat) (cx : Code), cCode Tryz.prog tbl N cx = some x.erase → ∀ (K : Kept) (θ : Th) (a : Act) (w : World) (R : Exit → Act → World → Prop),
      SRel K θ N ⟨T, H, []⟩ a w → (∀ θ' a' w', θ.Up H.nx θ' → SRel K θ' N ⟨T2, H2, []⟩ a' w' → R ex.to a' w') → Code.rounds Tryz.prog cx R n a w := by
  intro b
  induction b with
  | zero => intro k T H hk; omega
  | succ b ih =>
    intro k T H hk hI
    obtain ⟨ex, T1, H1, h1, h2, h3⟩ := run_W x T H _ (hstep k T H hI)
    have out : ex ≠ .normal → Q ex T1 H1 → ∃ ex T2 H2 n, ex ≠ .normal ∧ H.nx ≤ H2.nx ∧ Q ex T2 H2 ∧ ∀ (N : Nat) (cx : Code), cCode Tryz.prog tbl N cx = some x.erase → ∀ (K : Kept) (θ : Th) (a : Act) (w : World) (R : Exit → Act → World → Prop),
      SRel K θ N ⟨T, H, []⟩ a w → (∀ θ' a' w', θ.Up H.nx θ' → SRel K θ' N ⟨T2, H2, []⟩ a' w' → R ex.to a' w') → Code.rounds Tryz.prog cx R n a w := by
      intro hne hQ
      refine ⟨ex, T1, H1, 1, hne, h2, hQ, fun N cx hcx K θ a w R hr hR => ?_⟩
      rw [rounds_succ]
      refine h1 N cx hcx K θ a w _ hr fun θ' a' w' j1 j2 j3 => ?_
      have := hR θ' a' w' j1 j3
      cases ex with
      | normal => exact absurd rfl hne
      | exit id => exact this
      | ret => exact this
    cases ex with
    | normal =>
      obtain ⟨j, hj, hIj⟩ := h3
      obtain ⟨ex2, T2, H2, n, k1, k2, k3, k4⟩ := ih j T1 H1 (by omega) hIj
      refine ⟨ex2, T2, H2, n + 1, k1, Nat.le_trans h2 k2, k3, fun N cx hcx K θ a w R hr hR => ?_⟩
      rw [rounds_succ]
      refine h1 N cx hcx K θ a w _ hr fun θ' a' w' j1 j2 j3 => ?_
      exact k4 N cx hcx K θ' a' w' R j3 fun θ'' a'' w'' m1 m2 => hR θ'' a'' w'' (j1.trans h2 m1) m2
    | exit id => exact out (by simp) h3
    | ret => exact out (by simp) h3

/-- A loop by what stays so, and what gets less. -/
theorem Loop.by {x : ACode} {T : Tm} {H : Heap} {Q : Post} (I : Nat → Tm → Heap → Prop) (k : Nat) (h0 : I k T H) (hstep : ∀ k T H, I k T H → run x T H (lpK I k Q)) : Loop x T H Q := by
  obtain ⟨ex, T2, H2, n, h1, h2, h3, h4⟩ := loop_key hstep (k + 1) k T H (by omega) h0
  refine ⟨ex, T2, H2, fun N c hc K θ a w R hr hR => ?_, h2, h3⟩
  obtain ⟨cx, rfl, hcx⟩ := cCode_loop hc
  exact wp_loop_rounds n (h4 N cx hcx K θ a w R hr fun θ' a' w' j1 j2 => hR θ' a' w' j1 h2 j2)

/-! ### Functions -/
def retK (res : List ARes) (R : AVal → Heap → Prop) : Post := fun ex T H => match ex with
  | .exit _ => False
  | _ => match evalRess T H res with
    | some vs => R (oneOf vs) H
    | none => False

theorem Call.by {f : FuncId} {a : AFunc} (ha : tab f = some a) {args : List AVal} {H : Heap} {R : AVal → Heap → Prop} (hlen : args.length ≤ a.N) (h : run a.body (putArgs args 0 .e) H (retK a.res R)) : Call f args H R := by
  obtain ⟨fn, hf, hfn⟩ := tabOk f a ha
  obtain ⟨ex, T, H', h1, h2, h3⟩ := run_W _ _ _ _ h
  have hk : (ex = .normal ∨ ex = .ret) ∧ ∃ vs, evalRess T H' a.res = some vs ∧ R (oneOf vs) H' := by
    cases ex with
    | exit id => exact h3.elim
    | normal =>
      simp only [retK] at h3
      split at h3
      · rename_i vs hvs; exact ⟨.inl rfl, vs, hvs, h3⟩
      · exact h3.elim
    | ret =>
      simp only [retK] at h3
      split at h3
      · rename_i vs hvs; exact ⟨.inr rfl, vs, hvs, h3⟩
      · exact h3.elim
  obtain ⟨hex, vs, hvs, hR⟩ := hk
  obtain ⟨c, hb, hc⟩ := hfn.2.2.1
  exact ⟨oneOf vs, H', ⟨⟨fn, c, hf, hfn.1, hb⟩, h2, Tri.calls hf hfn hlen (h1 a.N) hex rfl hvs⟩, hR⟩

/-! ### Memories -/
/-- What lay lies as it did. -/
structure Ex (H H' : Heap) : Prop where
  nx : H.nx ≤ H'.nx
  get : ∀ i, i < H.nx → ∀ o, H.get i = some o → H'.get i = some o

theorem Ex.refl (H : Heap) : Ex H H := ⟨Nat.le_refl _, fun _ _ _ h => h⟩
theorem Ex.trans {A B C : Heap} (h : Ex A B) (k : Ex B C) : Ex A C := ⟨Nat.le_trans h.nx k.nx, fun i hi o ho => k.get i (Nat.lt_of_lt_of_le hi h.nx) o (h.get i hi o ho)⟩
theorem Ex.push {A B : Heap} (h : Ex A B) (o : AObj) : Ex A (B.push o) := ⟨by rw [Heap.nx_push]; have := h.nx; omega, fun i hi o' ho => by
  rw [Heap.get_push, if_neg (by have := h.nx; omega)]; exact h.get i hi o' ho⟩
theorem Ex.put {A B : Heap} (h : Ex A B) {j : Nat} (hj : A.nx ≤ j) (o : AObj) : Ex A (B.put j o) := ⟨h.nx, fun i hi o' ho => by
  rw [Heap.get_put, if_neg (by omega)]; exact h.get i hi o' ho⟩

/-- Nothing was done that counts. -/
theorem Call.forget {f : FuncId} {args : List AVal} {H : Heap} {R : AVal → Prop} (h : Call f args H fun v H' => Ex H H' ∧ inB H.nx v = true ∧ R v) : Call f args H fun v H' => H' = H ∧ R v := by
  obtain ⟨v, H', ⟨h1, h2, h3⟩, h4, h5, h6⟩ := h
  refine ⟨v, H, ⟨h1, Nat.le_refl _, ?_⟩, rfl, h6⟩
  refine CallsA.ofFresh fun hf => ?_
  exact CallsA.forget h3 h2 (fun i o hi => h4.get i (hf i o hi) o hi) h5

/-- A call that gives one value, and nothing is done. -/
theorem Call.is {f : FuncId} {args : List AVal} {H : Heap} {x : AVal} (h : Call f args H fun v H' => H' = H ∧ v = x) {S : AVal → Heap → Prop} (hS : S x H) : Call f args H S := by
  obtain ⟨v, H', h1, rfl, rfl⟩ := h
  exact ⟨_, _, h1, hS⟩

end
end K
end Go.Proofs.YtlgbgbngdhhjaaaGreatDoor
