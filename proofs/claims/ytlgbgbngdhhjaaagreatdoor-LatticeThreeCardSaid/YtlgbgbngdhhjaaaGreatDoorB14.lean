/- What the symbolic running rests on. No condition. -/
import Derived.Test.YtlgbgbngdhhjaaaGreatDoorB05
set_option linter.unusedSimpArgs false
set_option linter.unusedVariables false
namespace Go.Proofs.YtlgbgbngdhhjaaaGreatDoor
namespace AM
noncomputable section
open Go

/-- How long a slice is. -/
def slen : AVal → Option Nat
  | .nsl => some 0
  | .sl _ _ n _ _ => some n
  | _ => none

/-- Where its j-th element lies. -/
def sptr (es : Nat) (v : AVal) (j : Nat) : AVal :=
  match v with
  | .sl i o _ _ _ => .p i (o + j * es)
  | _ => .np

theorem p_len (T : Tm) (x : AOpd) : aPure T (.len x) = (ev T x).bind fun v => (slen v).map fun n => .i .i64 (n : Int) := by
  simp only [aPure]
  cases ev T x with
  | none => rfl
  | some v => cases v <;> rfl

/-! One step, operation by operation. -/
theorem p_mov (T : Tm) (x : AOpd) : aPure T (.mov x) = ev T x := rfl
theorem p_pick (T : Tm) (c a b : AOpd) : aPure T (.pick c a b) = (ev T c).bind fun
    | .b t => bif t then ev T a else ev T b
    | _ => none := by
  simp only [aPure]
  cases ev T c with
  | none => rfl
  | some v => cases v <;> (try rfl); rename_i x; cases x <;> rfl
theorem p_bin (T : Tm) (op : BinOp) (x y : AOpd) : aPure T (.bin op x y) = (ev T x).bind fun a => (ev T y).bind fun b => aBin op a b := by
  simp only [aPure]
  cases ev T x <;> cases ev T y <;> rfl
theorem p_eqt (T : Tm) (k : EqK) (neg : Bool) (x y : AOpd) : aPure T (.eqt k neg x y) = (ev T x).bind fun a => (ev T y).bind fun b => (aEq k a b).map fun z => .b (if neg then !z else z) := by
  simp only [aPure]
  cases ev T x <;> cases ev T y <;> rfl
theorem p_not (T : Tm) (x : AOpd) : aPure T (.not x) = (ev T x).bind fun
    | .b t => some (.b !t)
    | _ => none := by
  simp only [aPure]
  cases ev T x with
  | none => rfl
  | some v => cases v <;> rfl
theorem p_fieldA (T : Tm) (o : Nat) (x : AOpd) : aPure T (.fieldA o x) = (ev T x).bind fun
    | .p i k => some (.p i (k + o))
    | _ => none := by
  simp only [aPure]
  cases ev T x with
  | none => rfl
  | some v => cases v <;> rfl
theorem p_nilck (T : Tm) (x : AOpd) : aPure T (.nilck x) = (ev T x).bind fun
    | .p i k => some (.p i k)
    | _ => none := by
  simp only [aPure]
  cases ev T x with
  | none => rfl
  | some v => cases v <;> rfl
theorem p_ext (T : Tm) (n : Nat) (x : AOpd) : aPure T (.ext n x) = (ev T x).bind fun
    | .tup vs => vs[n]?
    | _ => none := by
  simp only [aPure]
  cases ev T x with
  | none => rfl
  | some v => cases v <;> rfl
theorem p_lenS (T : Tm) (x : AOpd) : aPure T (.lenS x) = (ev T x).bind fun
    | .s l => some (.i .i64 l.length)
    | _ => none := by
  simp only [aPure]
  cases ev T x with
  | none => rfl
  | some v => cases v <;> rfl
theorem r_load (T : Tm) (H : Heap) (n : Nat) (b : Bool) (x : AOpd) : aRead T H (.load n b x) = (ev T x).bind fun v => aLoad H v n b := by
  simp only [aRead]
  cases ev T x <;> rfl

def sidx (es : Nat) (v j : AVal) : Option AVal :=
  match v, j with
  | .sl i o n _ _, .i _ (.ofNat j) => bif Nat.blt j n then some (.p i (o + j * es)) else none
  | _, _ => none

theorem p_idxA (T : Tm) (es : Nat) (x i : AOpd) : aPure T (.idxA es x i) = (ev T x).bind fun v => (ev T i).bind fun j => sidx es v j := by
  simp only [aPure]
  cases ev T x with
  | none => rfl
  | some v =>
    cases ev T i with
    | none => cases v <;> rfl
    | some j =>
      cases v <;> (try rfl)
      cases j <;> (try rfl)
      rename_i k n
      cases n <;> rfl

theorem sidx_at {es : Nat} {v : AVal} {n : Nat} (h : slen v = some n) {k : IntKind} {j : Nat} (hj : j < n) : sidx es v (.i k (j : Int)) = some (sptr es v j) := by
  cases v <;> simp only [slen, Option.some.injEq, reduceCtorEq] at h
  · omega
  · subst h
    show (bif Nat.blt j _ then some _ else none) = _
    rw [show Nat.blt j _ = true by simpa [Nat.blt_eq] using hj]
    rfl

/-- Numbers that a word holds. -/
def Sm (n : Int) : Prop := -9223372036854775808 ≤ n ∧ n < 9223372036854775808

theorem b_add {a b : Int} (h : Sm (a + b)) : aBin .add (.i .i64 a) (.i .i64 b) = some (.i .i64 (a + b)) := by
  show some (AVal.i .i64 (wrapF .i64 (Int.add a b))) = _
  rw [wrapF_eq, show Int.add a b = a + b from rfl, wrap_lim]
  by_cases h0 : 0 ≤ a + b
  · exact .inl ⟨h0, by simpa [lim] using h.2⟩
  · exact .inr ⟨rfl, by simpa [lim] using h.1, by omega⟩

theorem b_lss (k : IntKind) (a b : Int) : aBin .lss (.i k a) (.i k b) = some (.b (decide (a < b))) := by
  rw [aBin_eq]; simp [aBin0]
theorem b_geq (k : IntKind) (a b : Int) : aBin .geq (.i k a) (.i k b) = some (.b (decide (a ≥ b))) := by
  rw [aBin_eq]; simp [aBin0]
theorem b_gtr (k : IntKind) (a b : Int) : aBin .gtr (.i k a) (.i k b) = some (.b (decide (a > b))) := by
  rw [aBin_eq]; simp [aBin0]
theorem b_leq (k : IntKind) (a b : Int) : aBin .leq (.i k a) (.i k b) = some (.b (decide (a ≤ b))) := by
  rw [aBin_eq]; simp [aBin0]
theorem b_eql (k : IntKind) (a b : Int) : aBin .eql (.i k a) (.i k b) = some (.b (a == b)) := by
  rw [aBin_eq]; simp [aBin0]
theorem b_neq (k : IntKind) (a b : Int) : aBin .neq (.i k a) (.i k b) = some (.b (a != b)) := by
  rw [aBin_eq]; simp [aBin0]
theorem s_eql (a b : List Nat) : aBin .eql (.s a) (.s b) = some (.b (a == b)) := rfl
theorem s_neq (a b : List Nat) : aBin .neq (.s a) (.s b) = some (.b !(a == b)) := rfl
theorem s_lss (a b : List Nat) : aBin .lss (.s a) (.s b) = some (.b (natsLess a b)) := rfl
theorem s_geq (a b : List Nat) : aBin .geq (.s a) (.s b) = some (.b !(natsLess a b)) := rfl

/-- It comes to such a state. -/
def To (r : Option (AEx × St)) (ex : AEx) (Q : St → Prop) : Prop := ∃ s', r = some (ex, s') ∧ Q s'
theorem to_some (ex : AEx) (s : St) (Q : St → Prop) : To (some (ex, s)) ex Q = Q s := by
  simp [To]

theorem To.tri {P : Program} {tbl : String → List (TypeId × FuncId)} {N : Nat} {call : CallF} (hok : CallOk P call) (hm : P.follows .mixedOrders = true) {m : Bool} {n : Nat} {ac : ACode} {s s2 : St} {ex : AEx} (h : To (evalC call m n ac s) ex (Sub s2)) : Tri P tbl N ac s ex s2 := by
  obtain ⟨s', h1, h2⟩ := h
  exact Tri.eval hok hm m n h1 h2

/-- A head. -/
structure Hd where
  kind : Int
  names : List (List Nat)
  kids : List Int
  opn : Bool

end
end AM
end Go.Proofs.YtlgbgbngdhhjaaaGreatDoor
