/- An abstract memory, operations over it, and that the model does alike. No condition. -/
import Derived.Calls
import Derived.Orders
import Derived.Defers
import Derived.Laws.Sem
import Derived.Laws.World
import Derived.Laws.Entries
import Derived.Lib.ItoaNum
import Derived.Laws.Strings
import Derived.Laws.Cells
import Derived.Laws.CopyRow
import Derived.Laws.Append
import Derived.Laws.Cover1
import Derived.WalkSpells
import Derived.Laws.Build
import Derived.Laws.StructEq
import Derived.Laws.MakeOwn
import Derived.Laws.AppendOwn
import Derived.Lib.ConvBytes
namespace Go.Proofs.YtlgbgbngdhhjaaaGreatDoor
namespace AM
noncomputable section
open Go

/-! ### Tries -/
inductive Tr (α : Type) where
  | e
  | n (v : Option α) (l r : Tr α)

/-- By the recursor itself: the kernel has less to do so. -/
noncomputable def Tr.get {α : Type} (t : Tr α) : Nat → Option α :=
  Tr.rec (motive := fun _ => Nat → Option α) (fun _ => none)
    (fun v _ _ gl gr k => Nat.rec (motive := fun _ => Option α) v (fun j _ => Bool.rec (motive := fun _ => Option α) (gr (Nat.div j 2)) (gl (Nat.div j 2)) (Nat.beq (Nat.mod j 2) 0)) k) t

noncomputable def Tr.sing {α : Type} (x : α) (f : Nat) : Nat → Tr α :=
  Nat.rec (motive := fun _ => Nat → Tr α) (fun _ => .e)
    (fun _ ih k => Nat.rec (motive := fun _ => Tr α) (.n (some x) .e .e) (fun j _ => Bool.rec (motive := fun _ => Tr α) (.n none .e (ih (Nat.div j 2))) (.n none (ih (Nat.div j 2)) .e) (Nat.beq (Nat.mod j 2) 0)) k) f

noncomputable def Tr.putR {α : Type} (x : α) (t : Tr α) : Nat → Tr α :=
  Tr.rec (motive := fun _ => Nat → Tr α) (fun k => Tr.sing x (Nat.succ k) k)
    (fun v l r pl pr k => Nat.rec (motive := fun _ => Tr α) (.n (some x) l r) (fun j _ => Bool.rec (motive := fun _ => Tr α) (.n v l (pr (Nat.div j 2))) (.n v (pl (Nat.div j 2)) r) (Nat.beq (Nat.mod j 2) 0)) k) t

noncomputable def Tr.put {α : Type} (t : Tr α) (k : Nat) (x : α) : Tr α := Tr.putR x t k

theorem Tr.get_e {α : Type} (k : Nat) : (Tr.e : Tr α).get k = none := rfl

theorem Tr.get_zero {α : Type} (v : Option α) (l r : Tr α) : (Tr.n v l r).get 0 = v := rfl
theorem Tr.get_succ {α : Type} (v : Option α) (l r : Tr α) (j : Nat) : (Tr.n v l r).get (j + 1) = if j % 2 = 0 then l.get (j / 2) else r.get (j / 2) := by
  show Bool.rec (motive := fun _ => Option α) (r.get (j / 2)) (l.get (j / 2)) (Nat.beq (j % 2) 0) = _
  by_cases h : j % 2 = 0
  · rw [if_pos h, h]; rfl
  · have : Nat.beq (j % 2) 0 = false := (show j % 2 = 1 by omega) ▸ rfl
    rw [if_neg h, this]

theorem Tr.get_sing {α : Type} (x : α) : ∀ (f k : Nat), k < f → ∀ j, (Tr.sing x f k).get j = if j = k then some x else none
  | 0, k, h, j => by omega
  | f + 1, 0, h, j => by
    show (Tr.n (some x) .e .e).get j = _
    cases j with
    | zero => simp [Tr.get_zero]
    | succ j => rw [Tr.get_succ]; simp [Tr.get_e]
  | f + 1, k + 1, h, j => by
    show (Bool.rec (motive := fun _ => Tr α) (Tr.n none .e (Tr.sing x f (k / 2))) (.n none (Tr.sing x f (k / 2)) .e) (Nat.beq (k % 2) 0)).get j = _
    by_cases hk : k % 2 = 0
    · rw [hk]
      show (Tr.n none (Tr.sing x f (k / 2)) .e).get j = _
      cases j with
      | zero => simp [Tr.get_zero]
      | succ j =>
        rw [Tr.get_succ, Tr.get_sing x f (k / 2) (by omega)]
        by_cases hj : j % 2 = 0
        · rw [if_pos hj]
          by_cases he : j / 2 = k / 2
          · rw [if_pos he, if_pos (by omega)]
          · rw [if_neg he, if_neg (by omega)]
        · rw [if_neg hj, if_neg (by omega), Tr.get_e]
    · have : Nat.beq (k % 2) 0 = false := (show k % 2 = 1 by omega) ▸ rfl
      rw [this]
      show (Tr.n none .e (Tr.sing x f (k / 2))).get j = _
      cases j with
      | zero => simp [Tr.get_zero]
      | succ j =>
        rw [Tr.get_succ, Tr.get_sing x f (k / 2) (by omega)]
        by_cases hj : j % 2 = 0
        · rw [if_pos hj, if_neg (by omega), Tr.get_e]
        · rw [if_neg hj]
          by_cases he : j / 2 = k / 2
          · rw [if_pos he, if_pos (by omega)]
          · rw [if_neg he, if_neg (by omega)]

theorem Tr.get_put {α : Type} (t : Tr α) (k : Nat) (x : α) (j : Nat) : (t.put k x).get j = if j = k then some x else t.get j := by
  unfold Tr.put
  induction t generalizing k j with
  | e => rw [show Tr.putR x .e k = Tr.sing x (k + 1) k from rfl, Tr.get_sing x (k + 1) k (Nat.lt_succ_self k), Tr.get_e]
  | n v l r ihl ihr =>
    cases k with
    | zero =>
      show (Tr.n (some x) l r).get j = _
      cases j with
      | zero => simp [Tr.get_zero]
      | succ j => rw [Tr.get_succ, Tr.get_succ]; simp
    | succ k =>
      show (Bool.rec (motive := fun _ => Tr α) (Tr.n v l (Tr.putR x r (k / 2))) (.n v (Tr.putR x l (k / 2)) r) (Nat.beq (k % 2) 0)).get j = _
      by_cases hk : k % 2 = 0
      · rw [hk]
        show (Tr.n v (Tr.putR x l (k / 2)) r).get j = _
        cases j with
        | zero => simp [Tr.get_zero]
        | succ j =>
          rw [Tr.get_succ, Tr.get_succ, ihl]
          by_cases hj : j % 2 = 0
          · rw [if_pos hj, if_pos hj]
            by_cases he : j / 2 = k / 2
            · rw [if_pos he, if_pos (by omega)]
            · rw [if_neg he, if_neg (by omega)]
          · rw [if_neg hj, if_neg hj, if_neg (by omega)]
      · have : Nat.beq (k % 2) 0 = false := (show k % 2 = 1 by omega) ▸ rfl
        rw [this]
        show (Tr.n v l (Tr.putR x r (k / 2))).get j = _
        cases j with
        | zero => simp [Tr.get_zero]
        | succ j =>
          rw [Tr.get_succ, Tr.get_succ, ihr]
          by_cases hj : j % 2 = 0
          · rw [if_pos hj, if_pos hj, if_neg (by omega)]
          · rw [if_neg hj, if_neg hj]
            by_cases he : j / 2 = k / 2
            · rw [if_pos he, if_pos (by omega)]
            · rw [if_neg he, if_neg (by omega)]

/-! ### Values -/
inductive AVal where
  | b (x : Bool)
  | i (k : IntKind) (n : Int)
  | s (l : List Nat)
  | np
  | p (id off : Nat)
  | nsl
  | sl (id off len : Nat) (cap : Option Nat) (es : Nat)
  | nm
  | m (id : Nat)
  | nf
  | f (fn : FuncId) (caps : List AVal)
  | ni
  | ifc (t : TypeId) (v : AVal)
  | agg (cs : List AVal)
  | tup (vs : List AVal)
  deriving Inhabited

/-- Where an object lies: its block, its first cell, the block's size. -/
structure Loc where
  b : Nat
  d : Nat
  sz : Nat

abbrev Th := Nat → Option Loc

def Th.Le (θ θ' : Th) : Prop := ∀ i l, θ i = some l → θ' i = some l
theorem Th.Le.refl (θ : Th) : θ.Le θ := fun _ _ h => h
theorem Th.Le.trans {a b c : Th} (h : a.Le b) (k : b.Le c) : a.Le c := fun i l e => k i l (h i l e)

mutual
def VRel (θ : Th) : AVal → Value → Prop
  | .b x, v => v = .bool x
  | .i k n, v => v = .int k n
  | .s l, v => ∃ s, v = .string s ∧ s.data.toList.map UInt8.toNat = l
  | .np, v => v = .pointer none
  | .p i o, v => ∃ l, θ i = some l ∧ v = .pointer (some ⟨l.b, l.d + o, none⟩)
  | .nsl, v => v = .slice none 0 0
  | .sl i o n k e, v => ∃ l a c, θ i = some l ∧ v = .slice (some a) n c ∧ n ≤ c ∧ l.d + o + c * e ≤ l.sz ∧ (∀ k', k = some k' → c = k') ∧ (0 < c → a = ⟨l.b, l.d + o, none⟩)
  | .nm, v => v = .map none
  | .m i, v => ∃ l, θ i = some l ∧ v = .map (some l.b)
  | .nf, v => v = .nilFunc
  | .f fn cs, v => ∃ caps : Array Value, v = .func (.func fn) #[] caps ∧ VRels θ cs caps.toList
  | .ni, v => v = .nilIface
  | .ifc t x, v => ∃ u, v = .iface t u ∧ VRel θ x u
  | .agg cs, v => ∃ us : Array Value, v = .agg us ∧ VRels θ cs us.toList ∧ ∀ u ∈ us.toList, u.oneCell' = true
  | .tup vs, v => ∃ us : Array Value, v = .tuple us ∧ VRels θ vs us.toList
def VRels (θ : Th) : List AVal → List Value → Prop
  | [], l => l = []
  | x :: xs, l => ∃ u us, l = u :: us ∧ VRel θ x u ∧ VRels θ xs us
end

mutual
theorem VRel.mono {θ θ' : Th} (h : θ.Le θ') : ∀ (v : AVal) (c : Value), VRel θ v c → VRel θ' v c
  | .b _, _, r => r
  | .i _ _, _, r => r
  | .s _, _, r => r
  | .np, _, r => r
  | .p _ _, _, r => by
    obtain ⟨l, h1, h2⟩ := r
    exact ⟨l, h _ _ h1, h2⟩
  | .nsl, _, r => r
  | .sl _ _ _ _ _, _, r => by
    obtain ⟨l, a, c, h1, h2⟩ := r
    exact ⟨l, a, c, h _ _ h1, h2⟩
  | .nm, _, r => r
  | .m _, _, r => by
    obtain ⟨l, h1, h2⟩ := r
    exact ⟨l, h _ _ h1, h2⟩
  | .nf, _, r => r
  | .f _ cs, _, r => by
    obtain ⟨caps, h1, h2⟩ := r
    exact ⟨caps, h1, VRels.mono h cs _ h2⟩
  | .ni, _, r => r
  | .ifc _ x, _, r => by
    obtain ⟨u, h1, h2⟩ := r
    exact ⟨u, h1, VRel.mono h x _ h2⟩
  | .agg cs, _, r => by
    obtain ⟨us, h1, h2, h3⟩ := r
    exact ⟨us, h1, VRels.mono h cs _ h2, h3⟩
  | .tup vs, _, r => by
    obtain ⟨us, h1, h2⟩ := r
    exact ⟨us, h1, VRels.mono h vs _ h2⟩
theorem VRels.mono {θ θ' : Th} (h : θ.Le θ') : ∀ (v : List AVal) (c : List Value), VRels θ v c → VRels θ' v c
  | [], _, r => r
  | x :: xs, _, r => by
    obtain ⟨u, us, h1, h2, h3⟩ := r
    exact ⟨u, us, h1, VRel.mono h x _ h2, VRels.mono h xs _ h3⟩
end

theorem VRels.length {θ : Th} : ∀ {v : List AVal} {c : List Value}, VRels θ v c → v.length = c.length
  | [], c, h => by simp [VRels] at h; simp [h]
  | x :: xs, c, h => by
    simp only [VRels] at h
    obtain ⟨u, us, rfl, _, h3⟩ := h
    simp [VRels.length h3]

theorem VRels.get {θ : Th} : ∀ {v : List AVal} {c : List Value}, VRels θ v c → ∀ (j : Nat) (x : AVal), v[j]? = some x → ∃ u, c[j]? = some u ∧ VRel θ x u
  | [], c, h, j, x, hx => by simp at hx
  | y :: ys, c, h, j, x, hx => by
    simp only [VRels] at h
    obtain ⟨u, us, rfl, h2, h3⟩ := h
    cases j with
    | zero => simp at hx; subst hx; exact ⟨u, by simp, h2⟩
    | succ j => simp at hx; simpa using VRels.get h3 j x hx

theorem VRels.append {θ : Th} : ∀ {v v' : List AVal} {c c' : List Value}, VRels θ v c → VRels θ v' c' → VRels θ (v ++ v') (c ++ c')
  | [], v', c, c', h, h' => by simp [VRels] at h; subst h; simpa using h'
  | x :: xs, v', c, c', h, h' => by
    simp only [VRels] at h
    obtain ⟨u, us, rfl, h2, h3⟩ := h
    simp only [List.cons_append, VRels]
    exact ⟨u, us ++ c', rfl, h2, VRels.append h3 h'⟩

theorem VRels.take {θ : Th} : ∀ (n : Nat) {v : List AVal} {c : List Value}, VRels θ v c → VRels θ (v.take n) (c.take n)
  | 0, _, _, _ => by simp [VRels]
  | n + 1, [], c, h => by simp [VRels] at h; subst h; simp [VRels]
  | n + 1, x :: xs, c, h => by
    simp only [VRels] at h
    obtain ⟨u, us, rfl, h2, h3⟩ := h
    simp only [List.take_succ_cons, VRels]
    exact ⟨u, _, rfl, h2, VRels.take n h3⟩

theorem VRels.drop {θ : Th} : ∀ (n : Nat) {v : List AVal} {c : List Value}, VRels θ v c → VRels θ (v.drop n) (c.drop n)
  | 0, _, _, h => by simpa using h
  | n + 1, [], c, h => by simp [VRels] at h; subst h; simp [VRels]
  | n + 1, x :: xs, c, h => by
    simp only [VRels] at h
    obtain ⟨u, us, rfl, h2, h3⟩ := h
    simpa using VRels.drop n h3

theorem VRels.of_get {θ : Th} : ∀ {v : List AVal} {c : List Value}, v.length = c.length → (∀ (j : Nat) (x : AVal), v[j]? = some x → ∃ u, c[j]? = some u ∧ VRel θ x u) → VRels θ v c
  | [], c, hl, h => by
    cases c with
    | nil => simp [VRels]
    | cons a b => simp at hl
  | x :: xs, c, hl, h => by
    cases c with
    | nil => simp at hl
    | cons u us =>
      simp only [VRels]
      refine ⟨u, us, rfl, ?_, VRels.of_get (by simpa using hl) fun j y hy => ?_⟩
      · obtain ⟨u', e, r⟩ := h 0 x (by simp)
        simp at e; subst e; exact r
      · simpa using h (j + 1) y (by simpa using hy)

theorem VRels.nil {θ : Th} : VRels θ [] [] := by simp [VRels]
theorem VRels.cons {θ : Th} {x : AVal} {u : Value} {xs : List AVal} {us : List Value} (h : VRel θ x u) (hs : VRels θ xs us) : VRels θ (x :: xs) (u :: us) := by
  simp only [VRels]; exact ⟨u, us, rfl, h, hs⟩

/-- The cells of a value that can be stored. -/
def AVal.cells? : AVal → Option (List AVal)
  | .agg cs => some cs
  | .tup _ => none
  | v => some [v]

theorem VRel.cells {θ : Th} {v : AVal} {u : Value} {cs : List AVal} (h : VRel θ v u) (hc : v.cells? = some cs) : VRels θ cs u.cells.toList ∧ ∀ x ∈ u.cells.toList, x.oneCell' = true := by
  cases v <;> simp only [AVal.cells?, Option.some.injEq, reduceCtorEq] at hc <;> (first | exact hc.elim | subst hc) <;> simp only [VRel] at h
  case agg cs =>
    obtain ⟨us, rfl, h2, h3⟩ := h
    exact ⟨h2, h3⟩
  case s l => obtain ⟨s, rfl, h2⟩ := h; exact ⟨by simp [Value.cells, VRels, VRel, h2], by simp [Value.cells, Value.oneCell']⟩
  case p i o => obtain ⟨l, h1, rfl⟩ := h; exact ⟨by simp [Value.cells, VRels, VRel, h1], by simp [Value.cells, Value.oneCell']⟩
  case sl i o n k e =>
    obtain ⟨l, a, c, h1, rfl, h3⟩ := h
    refine ⟨?_, by simp [Value.cells, Value.oneCell']⟩
    simp only [Value.cells]
    exact VRels.cons (by simp only [VRel]; exact ⟨l, a, c, h1, rfl, h3⟩) VRels.nil
  case m i => obtain ⟨l, h1, rfl⟩ := h; exact ⟨by simp [Value.cells, VRels, VRel, h1], by simp [Value.cells, Value.oneCell']⟩
  case f fn caps => obtain ⟨us, rfl, h2⟩ := h; exact ⟨by simp [Value.cells, VRels, VRel, h2], by simp [Value.cells, Value.oneCell']⟩
  case ifc t x => obtain ⟨us, rfl, h2⟩ := h; exact ⟨by simp [Value.cells, VRels, VRel, h2], by simp [Value.cells, Value.oneCell']⟩
  all_goals (subst h; exact ⟨by simp [Value.cells, VRels, VRel], by simp [Value.cells, Value.oneCell']⟩)

/-! ### Equality, decided -/
mutual
def AVal.same : AVal → AVal → Bool
  | .b x, .b y => x == y
  | .i k n, .i k1 n1 => decide (k = k1) && n == n1
  | .s l, .s l1 => l == l1
  | .np, .np => true
  | .p a o, .p a1 o1 => a == a1 && o == o1
  | .nsl, .nsl => true
  | .sl a o n k e, .sl a1 o1 n1 k1 e1 => a == a1 && o == o1 && n == n1 && k == k1 && e == e1
  | .nm, .nm => true
  | .m a, .m a1 => a == a1
  | .nf, .nf => true
  | .f fn cs, .f fn1 cs1 => fn == fn1 && AVal.sames cs cs1
  | .ni, .ni => true
  | .ifc t v, .ifc t1 v1 => t == t1 && AVal.same v v1
  | .agg cs, .agg cs1 => AVal.sames cs cs1
  | .tup cs, .tup cs1 => AVal.sames cs cs1
  | _, _ => false
def AVal.sames : List AVal → List AVal → Bool
  | [], [] => true
  | x :: xs, y :: ys => AVal.same x y && AVal.sames xs ys
  | _, _ => false
end

mutual
theorem AVal.same_eq : ∀ (x y : AVal), AVal.same x y = true → x = y
  | .b _, y, h => by cases y <;> simp [AVal.same] at h; rw [h]
  | .i _ _, y, h => by cases y <;> simp [AVal.same] at h; rw [h.1, h.2]
  | .s _, y, h => by cases y <;> simp [AVal.same] at h; rw [h]
  | .np, y, h => by cases y <;> simp [AVal.same] at h; rfl
  | .p _ _, y, h => by cases y <;> simp [AVal.same] at h; rw [h.1, h.2]
  | .nsl, y, h => by cases y <;> simp [AVal.same] at h; rfl
  | .sl _ _ _ _ _, y, h => by cases y <;> simp [AVal.same] at h; rw [h.1.1.1.1, h.1.1.1.2, h.1.1.2, h.1.2, h.2]
  | .nm, y, h => by cases y <;> simp [AVal.same] at h; rfl
  | .m _, y, h => by cases y <;> simp [AVal.same] at h; rw [h]
  | .nf, y, h => by cases y <;> simp [AVal.same] at h; rfl
  | .f _ cs, y, h => by cases y <;> simp [AVal.same] at h; rw [h.1, AVal.sames_eq cs _ h.2]
  | .ni, y, h => by cases y <;> simp [AVal.same] at h; rfl
  | .ifc _ v, y, h => by cases y <;> simp [AVal.same] at h; rw [h.1, AVal.same_eq v _ h.2]
  | .agg cs, y, h => by cases y <;> simp only [AVal.same, Bool.false_eq_true] at h; rw [AVal.sames_eq cs _ h]
  | .tup cs, y, h => by cases y <;> simp only [AVal.same, Bool.false_eq_true] at h; rw [AVal.sames_eq cs _ h]
theorem AVal.sames_eq : ∀ (x y : List AVal), AVal.sames x y = true → x = y
  | [], y, h => by cases y <;> simp [AVal.sames] at h; rfl
  | x :: xs, y, h => by
    cases y with
    | nil => simp [AVal.sames] at h
    | cons z zs =>
      simp [AVal.sames] at h
      rw [AVal.same_eq x _ h.1, AVal.sames_eq xs _ h.2]
end
mutual
theorem AVal.same_refl : ∀ (x : AVal), AVal.same x x = true
  | .b _ => by simp [AVal.same]
  | .i _ _ => by simp [AVal.same]
  | .s _ => by simp [AVal.same]
  | .np => rfl
  | .p _ _ => by simp [AVal.same]
  | .nsl => rfl
  | .sl _ _ _ _ _ => by simp [AVal.same]
  | .nm => rfl
  | .m _ => by simp [AVal.same]
  | .nf => rfl
  | .f _ cs => by simp [AVal.same, AVal.sames_refl cs]
  | .ni => rfl
  | .ifc _ v => by simp [AVal.same, AVal.same_refl v]
  | .agg cs => by simp only [AVal.same]; exact AVal.sames_refl cs
  | .tup cs => by simp only [AVal.same]; exact AVal.sames_refl cs
theorem AVal.sames_refl : ∀ (x : List AVal), AVal.sames x x = true
  | [] => rfl
  | x :: xs => by simp [AVal.sames, AVal.same_refl x, AVal.sames_refl xs]
end

/-! ### Memory -/
inductive AObj where
  | row (cs : List AVal) (own : Bool)
  | map (es : List (AVal × AVal))
  | dead

structure Heap where
  nx : Nat
  t : Tr AObj

def Heap.get (H : Heap) (i : Nat) : Option AObj := H.t.get i
def Heap.put (H : Heap) (i : Nat) (o : AObj) : Heap := ⟨H.nx, H.t.put i o⟩
def Heap.push (H : Heap) (o : AObj) : Heap := ⟨H.nx + 1, H.t.put H.nx o⟩
theorem Heap.get_put (H : Heap) (i : Nat) (o : AObj) (j : Nat) : (H.put i o).get j = if j = i then some o else H.get j := Tr.get_put _ _ _ _
theorem Heap.get_push (H : Heap) (o : AObj) (j : Nat) : (H.push o).get j = if j = H.nx then some o else H.get j := Tr.get_put _ _ _ _
theorem Heap.nx_put (H : Heap) (i : Nat) (o : AObj) : (H.put i o).nx = H.nx := rfl
theorem Heap.nx_push (H : Heap) (o : AObj) : (H.push o).nx = H.nx + 1 := rfl

def AObj.isOwn : AObj → Bool
  | .row _ own => own
  | .map _ => true
  | .dead => false
def AObj.alive : AObj → Bool
  | .dead => false
  | _ => true

/-- What stays as it is: blocks, the outside, the tape. -/
structure Kept where
  blk : Nat → Option Obj
  os : Os
  tape : Nat → Question → Nat
  output : Array (Nat × ByteArray)

/-- The library's table of powers lies where the program's variables lie. -/
def KOk (K : Kept) : Prop := ∃ e fr, K.blk 1 = some (.cells (Lib.pow10Tab.map fun z => Value.int .u64 z).toArray e fr)

def ERels (θ : Th) : List (AVal × AVal) → List MapEntry → Prop
  | [], l => l = []
  | x :: xs, l => ∃ u us, l = u :: us ∧ VRel θ x.1 u.key ∧ VRel θ x.2 u.val ∧ ERels θ xs us

theorem ERels.mono {θ θ' : Th} (h : θ.Le θ') : ∀ (v : List (AVal × AVal)) (c : List MapEntry), ERels θ v c → ERels θ' v c
  | [], _, r => r
  | x :: xs, _, r => by
    obtain ⟨u, us, h1, h2, h3, h4⟩ := r
    exact ⟨u, us, h1, VRel.mono h _ _ h2, VRel.mono h _ _ h3, ERels.mono h xs _ h4⟩

/-- What an abstract object says of a block. -/
def ObjRel (θ : Th) (l : Loc) : AObj → Obj → Prop
  | .row cs own, o => ∃ (c : Array Value) (e : TypeId) (fr : Nat × Nat), o = .cells c e fr ∧ l.sz = c.size ∧ l.d + cs.length ≤ c.size ∧
      (∀ j x, cs[j]? = some x → ∃ u, c[l.d + j]? = some u ∧ VRel θ x u ∧ u.oneCell' = true) ∧ (own = true → fr = (0, 0))
  | .map es, o => ∃ (ms : Array MapEntry) (clk : Nat), o = .map ms clk ∧ ERels θ es ms.toList
  | .dead, _ => True

theorem ObjRel.mono {θ θ' : Th} (h : θ.Le θ') {l : Loc} {o : AObj} {c : Obj} (r : ObjRel θ l o c) : ObjRel θ' l o c := by
  cases o with
  | row cs own =>
    obtain ⟨c, e, fr, h1, h3, h4, h5, h6⟩ := r
    refine ⟨c, e, fr, h1, h3, h4, fun j x hx => ?_, h6⟩
    obtain ⟨u, g1, g2, g3⟩ := h5 j x hx
    exact ⟨u, g1, VRel.mono h _ _ g2, g3⟩
  | map es =>
    obtain ⟨ms, clk, h1, h2⟩ := r
    exact ⟨ms, clk, h1, ERels.mono h _ _ h2⟩
  | dead => trivial

structure WRel (K : Kept) (θ : Th) (H : Heap) (w : World) : Prop where
  os : w.os = K.os
  tape : w.tape = K.tape
  output : w.output = K.output
  good : KOk K
  kept : ∀ b o, K.blk b = some o → w.heap[b]? = some o
  fresh : ∀ i, H.nx ≤ i → θ i = none ∧ H.get i = none
  obj : ∀ i l, θ i = some l → l.b < w.heap.size ∧ ∀ o, H.get i = some o → ∃ c, w.heap[l.b]? = some c ∧ ObjRel θ l o c
  own : ∀ i l o, θ i = some l → H.get i = some o → o.isOwn = true → K.blk l.b = none ∧ ∀ j l' o', θ j = some l' → H.get j = some o' → o'.alive = true → l'.b = l.b → j = i

theorem WRel.drew {K : Kept} {θ : Th} {H : Heap} {w : World} (h : WRel K θ H w) (n : Nat) : WRel K θ H { w with drawn := n } :=
  ⟨h.os, h.tape, h.output, h.good, h.kept, h.fresh, h.obj, h.own⟩

def Th.ext (θ : Th) (i : Nat) (l : Loc) : Th := fun j => if j = i then some l else θ j
theorem Th.ext_le {θ : Th} {i : Nat} {l : Loc} (h : θ i = none) : θ.Le (θ.ext i l) := by
  intro j l' hj
  unfold Th.ext
  split
  · subst_vars; rw [h] at hj; cases hj
  · exact hj
theorem Th.ext_same (θ : Th) (i : Nat) (l : Loc) : θ.ext i l i = some l := by simp [Th.ext]
theorem Th.ext_other {θ : Th} {i j : Nat} {l : Loc} (h : j ≠ i) : θ.ext i l j = θ j := by simp [Th.ext, h]

/-- A new block for an object that the abstract memory has already (its number has no place yet). -/
theorem WRel.place {K : Kept} {θ : Th} {H : Heap} {w : World} (h : WRel K θ H w) {i : Nat} (hi : θ i = none) (hlt : i < H.nx) {l : Loc} (hl : l.b = w.heap.size) {c : Obj}
    (ho : ∀ o, H.get i = some o → ObjRel θ l o c) : WRel K (θ.ext i l) H (w.alloc c) := by
  have hle := Th.ext_le (l := l) hi
  refine ⟨h.os, h.tape, h.output, h.good, fun b o hb => ?_, fun j hj => ?_, fun j l' hj => ?_, fun j l' o hj ho' hown => ?_⟩
  · have hk := h.kept b o hb
    have hb' : b < w.heap.size := (Array.getElem?_eq_some_iff.1 hk).1
    show (w.heap.push c)[b]? = some o
    rw [Array.getElem?_push, if_neg (by omega)]; exact hk
  · have := h.fresh j hj
    rw [Th.ext_other (by omega)]; exact this
  · by_cases he : j = i
    · subst he
      rw [Th.ext_same] at hj
      obtain rfl := Option.some.inj hj
      refine ⟨by rw [World.size_alloc]; omega, fun o hob => ⟨c, ?_, (ho o hob).mono hle⟩⟩
      show (w.heap.push c)[l.b]? = some c
      rw [hl]; simp
    · rw [Th.ext_other he] at hj
      obtain ⟨h1, h2⟩ := h.obj j l' hj
      refine ⟨by rw [World.size_alloc]; omega, fun o hob => ?_⟩
      obtain ⟨c', h3, h4⟩ := h2 o hob
      refine ⟨c', ?_, h4.mono hle⟩
      show (w.heap.push c)[l'.b]? = some c'
      rw [Array.getElem?_push, if_neg (by omega)]; exact h3
  · have old : ∀ (b : Nat), w.heap.size ≤ b → K.blk b = none := by
      intro b hb
      cases hk : K.blk b with
      | none => rfl
      | some o' =>
        have := (Array.getElem?_eq_some_iff.1 (h.kept b o' hk)).1
        omega
    by_cases he : j = i
    · subst he
      rw [Th.ext_same] at hj
      obtain rfl := Option.some.inj hj
      refine ⟨old _ (by omega), fun j' l'' o' hj' _ _ hb => ?_⟩
      by_cases he' : j' = j
      · exact he'
      · rw [Th.ext_other he'] at hj'
        have := (h.obj j' l'' hj').1
        omega
    · rw [Th.ext_other he] at hj
      obtain ⟨h1, h2⟩ := h.own j l' o hj ho' hown
      refine ⟨h1, fun j' l'' o' hj' ho'' ha hb => ?_⟩
      by_cases he' : j' = i
      · subst he'
        rw [Th.ext_same] at hj'
        obtain rfl := Option.some.inj hj'
        have := (h.obj j l' hj).1
        omega
      · rw [Th.ext_other he'] at hj'
        exact h2 j' l'' o' hj' ho'' ha hb

/-- An object more in the abstract memory, with no place yet. -/
theorem WRel.vague {K : Kept} {θ : Th} {H : Heap} {w : World} (h : WRel K θ H w) (o : AObj) : WRel K θ (H.push o) w := by
  have hn : θ H.nx = none := (h.fresh _ (Nat.le_refl _)).1
  refine ⟨h.os, h.tape, h.output, h.good, h.kept, fun j hj => ?_, fun j l hj => ?_, fun j l o' hj ho hown => ?_⟩
  · rw [Heap.nx_push] at hj
    refine ⟨(h.fresh j (by omega)).1, ?_⟩
    rw [Heap.get_push, if_neg (by omega)]; exact (h.fresh j (by omega)).2
  · have hne : j ≠ H.nx := by intro e; subst e; rw [hn] at hj; cases hj
    obtain ⟨h1, h2⟩ := h.obj j l hj
    refine ⟨h1, fun o' ho => ?_⟩
    rw [Heap.get_push, if_neg hne] at ho
    exact h2 o' ho
  · have hne : j ≠ H.nx := by intro e; subst e; rw [hn] at hj; cases hj
    rw [Heap.get_push, if_neg hne] at ho
    obtain ⟨h1, h2⟩ := h.own j l o' hj ho hown
    refine ⟨h1, fun j' l' o'' hj' ho' ha hb => ?_⟩
    have hne' : j' ≠ H.nx := by intro e; subst e; rw [hn] at hj'; cases hj'
    rw [Heap.get_push, if_neg hne'] at ho'
    exact h2 j' l' o'' hj' ho' ha hb

theorem WRel.push {K : Kept} {θ : Th} {H : Heap} {w : World} (h : WRel K θ H w) {o : AObj} {l : Loc} (hl : l.b = w.heap.size) {c : Obj} (ho : ObjRel θ l o c) :
    WRel K (θ.ext H.nx l) (H.push o) (w.alloc c) :=
  (h.vague o).place (h.fresh _ (Nat.le_refl _)).1 (by simp [Heap.nx_push]) hl fun o' ho' => by
    rw [Heap.get_push, if_pos rfl] at ho'
    obtain rfl := Option.some.inj ho'
    exact ho

/-- An object of our own turned: its block is another object now. -/
theorem WRel.turn {K : Kept} {θ : Th} {H : Heap} {w w' : World} (h : WRel K θ H w) {i : Nat} {l : Loc} (hi : θ i = some l) {o o' : AObj} (hg : H.get i = some o) (hown : o.isOwn = true) {c : Obj}
    (hw : w'.os = w.os ∧ w'.tape = w.tape ∧ w'.output = w.output) (hs : w'.heap.size = w.heap.size) (hb : w'.heap[l.b]? = some c) (hr : ∀ b, b ≠ l.b → w'.heap[b]? = w.heap[b]?) (ho : ObjRel θ l o' c) :
    WRel K θ (H.put i o') w' := by
  obtain ⟨hk, hinj⟩ := h.own i l o hi hg hown
  have hia : o.alive = true := by cases o <;> simp_all [AObj.isOwn, AObj.alive]
  refine ⟨hw.1.trans h.os, hw.2.1.trans h.tape, hw.2.2.trans h.output, h.good, fun b ob hob => ?_, fun j hj => ?_, fun j l' hj => ?_, fun j l' ob hj hob hown' => ?_⟩
  · have hne : b ≠ l.b := by intro e; subst e; rw [hk] at hob; cases hob
    rw [hr b hne]; exact h.kept b ob hob
  · rw [Heap.nx_put] at hj
    refine ⟨(h.fresh j hj).1, ?_⟩
    rw [Heap.get_put, if_neg (by intro e; subst e; rw [(h.fresh j hj).1] at hi; cases hi)]
    exact (h.fresh j hj).2
  · obtain ⟨h1, h2⟩ := h.obj j l' hj
    refine ⟨by omega, fun ob hob => ?_⟩
    rw [Heap.get_put] at hob
    split at hob
    · subst_vars
      rw [hi] at hj
      obtain rfl := Option.some.inj hj
      obtain rfl := Option.some.inj hob
      exact ⟨c, hb, ho⟩
    · rename_i hne
      obtain ⟨c', h3, h4⟩ := h2 ob hob
      cases ob with
      | dead =>
        by_cases hbb : l'.b = l.b
        · exact ⟨c, by rw [hbb]; exact hb, trivial⟩
        · exact ⟨c', by rw [hr _ hbb]; exact h3, h4⟩
      | row cs own =>
        have hbb : l'.b ≠ l.b := fun e => hne (hinj j l' _ hj hob rfl e)
        exact ⟨c', by rw [hr _ hbb]; exact h3, h4⟩
      | map es =>
        have hbb : l'.b ≠ l.b := fun e => hne (hinj j l' _ hj hob rfl e)
        exact ⟨c', by rw [hr _ hbb]; exact h3, h4⟩
  · rw [Heap.get_put] at hob
    have key : ∀ j' l'' o'', θ j' = some l'' → (H.put i o').get j' = some o'' → o''.alive = true → ∃ q, H.get j' = some q ∧ q.alive = true := by
      intro j' l'' o'' _ hg' ha
      rw [Heap.get_put] at hg'
      split at hg'
      · subst_vars; exact ⟨o, hg, hia⟩
      · exact ⟨o'', hg', ha⟩
    split at hob
    · subst_vars
      rw [hi] at hj
      obtain rfl := Option.some.inj hj
      refine ⟨hk, fun j' l'' o'' hj' ho'' ha hb' => ?_⟩
      obtain ⟨q, hq, hqa⟩ := key j' l'' o'' hj' ho'' ha
      exact hinj j' l'' q hj' hq hqa hb'
    · obtain ⟨h1, h2⟩ := h.own j l' ob hj hob hown'
      refine ⟨h1, fun j' l'' o'' hj' ho'' ha hb' => ?_⟩
      obtain ⟨q, hq, hqa⟩ := key j' l'' o'' hj' ho'' ha
      exact h2 j' l'' q hj' hq hqa hb'

/-- An object forgotten. -/
theorem WRel.kill {K : Kept} {θ : Th} {H : Heap} {w : World} (h : WRel K θ H w) {i : Nat} (hlt : i < H.nx) : WRel K θ (H.put i .dead) w := by
  refine ⟨h.os, h.tape, h.output, h.good, h.kept, fun j hj => ?_, fun j l hj => ?_, fun j l o hj ho hown => ?_⟩
  · rw [Heap.nx_put] at hj
    refine ⟨(h.fresh j hj).1, ?_⟩
    rw [Heap.get_put, if_neg (by omega)]
    exact (h.fresh j hj).2
  · obtain ⟨h1, h2⟩ := h.obj j l hj
    refine ⟨h1, fun o ho => ?_⟩
    rw [Heap.get_put] at ho
    split at ho
    · obtain rfl := Option.some.inj ho
      exact ⟨w.heap[l.b], Array.getElem?_eq_getElem h1, trivial⟩
    · exact h2 o ho
  · rw [Heap.get_put] at ho
    split at ho
    · obtain rfl := Option.some.inj ho; simp [AObj.isOwn] at hown
    · obtain ⟨h1, h2⟩ := h.own j l o hj ho hown
      refine ⟨h1, fun j' l' o' hj' ho' ha hb => ?_⟩
      rw [Heap.get_put] at ho'
      split at ho'
      · obtain rfl := Option.some.inj ho'; simp [AObj.alive] at ha
      · exact h2 j' l' o' hj' ho' ha hb

end
end AM
end Go.Proofs.YtlgbgbngdhhjaaaGreatDoor

set_option linter.unusedSimpArgs false
set_option linter.unusedVariables false
namespace Go.Proofs.YtlgbgbngdhhjaaaGreatDoor
namespace AM
noncomputable section
open Go

/-! ### Operands -/
inductive AOpd where
  | t (n : Nat)
  | c (v : AVal)
  deriving Inhabited

abbrev Tm := Tr AVal

def ev (T : Tm) : AOpd → Option AVal
  | .t n => T.get n
  | .c v => some v

def strNats (s : ByteArray) : List Nat := s.data.toList.map UInt8.toNat

def absC : Value → Option AVal
  | .bool b => some (.b b)
  | .int k n => some (.i k n)
  | .string s => some (.s (strNats s))
  | .pointer none => some .np
  | .slice none 0 0 => some .nsl
  | .map none => some .nm
  | .nilFunc => some .nf
  | .nilIface => some .ni
  | _ => none

theorem absC_rel {v : Value} {x : AVal} (h : absC v = some x) (θ : Th) : VRel θ x v ∧ v.oneCell' = true := by
  unfold absC at h
  split at h <;> simp only [Option.some.injEq, reduceCtorEq] at h <;> subst h <;> simp [VRel, Value.oneCell', strNats]

def absCs : List Value → Option (List AVal)
  | [] => some []
  | v :: vs => match absC v, absCs vs with
    | some x, some xs => some (x :: xs)
    | _, _ => none

theorem absCs_rel (θ : Th) : ∀ {vs : List Value} {xs : List AVal}, absCs vs = some xs → VRels θ xs vs ∧ ∀ u ∈ vs, u.oneCell' = true
  | [], xs, h => by simp [absCs] at h; subst h; simp [VRels]
  | v :: vs, xs, h => by
    simp only [absCs] at h
    split at h
    · rename_i x xs' h1 h2
      simp only [Option.some.injEq] at h; subst h
      have r1 := absC_rel h1 θ
      have r2 := absCs_rel θ h2
      refine ⟨VRels.cons r1.1 r2.1, fun u hu => ?_⟩
      rcases List.mem_cons.1 hu with rfl | hu
      · exact r1.2
      · exact r2.2 u hu
    · cases h

def cOpd : Operand → Option AOpd
  | .tmp t => some (.t t)
  | .const v => (absC v).map .c
  | .func f => some (.c (.f f []))
  | .global _ => none

/-- The slots. -/
def ARel (θ : Th) (N : Nat) (T : Tm) (a : Act) : Prop := a.tmps.size = N ∧ ∀ t v, T.get t = some v → VRel θ v (a.tmps.getD t undef)

theorem ARel.mono {θ θ' : Th} {N : Nat} {T : Tm} {a : Act} (h : ARel θ N T a) (hl : θ.Le θ') : ARel θ' N T a := ⟨h.1, fun t v ht => (h.2 t v ht).mono hl⟩

theorem ARel.ev {θ : Th} {N : Nat} {T : Tm} {a : Act} (h : ARel θ N T a) {x : Operand} {y : AOpd} (hc : cOpd x = some y) {v : AVal} (he : ev T y = some v) : VRel θ v (a.eval x) := by
  cases x with
  | tmp t => simp only [cOpd, Option.some.injEq] at hc; subst hc; exact h.2 t v he
  | const c =>
    simp only [cOpd, Option.map_eq_some_iff] at hc
    obtain ⟨z, hz, rfl⟩ := hc
    simp only [AM.ev, Option.some.injEq] at he; subst he
    exact (absC_rel hz θ).1
  | func f =>
    simp only [cOpd, Option.some.injEq] at hc; subst hc
    simp only [AM.ev, Option.some.injEq] at he; subst he
    simp [VRel, VRels, Act.eval]
  | global g => simp [cOpd] at hc

theorem ARel.put {θ : Th} {N : Nat} {T : Tm} {a : Act} (h : ARel θ N T a) {d : Nat} (hd : d < N) {v : AVal} {u : Value} (hv : VRel θ v u) : ARel θ N (T.put d v) (a.put (some d) u) := by
  refine ⟨by simp [Act.put, h.1], fun t x ht => ?_⟩
  rw [Tr.get_put] at ht
  by_cases he : t = d
  · subst he
    simp only [if_true, Option.some.injEq] at ht; subst ht
    simp only [Act.put, Array.getD_eq_getD_getElem?, Array.getElem?_setIfInBounds]
    have hd' : t < a.tmps.size := by rw [h.1]; exact hd
    simpa [hd'] using hv
  · rw [if_neg he] at ht
    have := h.2 t x ht
    simp only [Act.put, Array.getD_eq_getD_getElem?, Array.getElem?_setIfInBounds]
    rw [if_neg (fun e => he e.symm)]
    simpa [Array.getD_eq_getD_getElem?] using this

theorem ARel.defers {θ : Th} {N : Nat} {T : Tm} {a : Act} (h : ARel θ N T a) (D : List Deferred) : ARel θ N T { a with defers := D } := h

/-! ### What the operations compute -/
def natsLess : List Nat → List Nat → Bool
  | _, [] => false
  | [], _ :: _ => true
  | a :: x, b :: y => decide (a < b) || (a == b && natsLess x y)

theorem natsLess_map : ∀ (x y : List UInt8), natsLess (x.map UInt8.toNat) (y.map UInt8.toNat) = Op.bytesLess x y
  | _, [] => by cases ‹List UInt8› <;> simp [natsLess, Op.bytesLess]
  | [], _ :: _ => by simp [natsLess, Op.bytesLess]
  | a :: x, b :: y => by
    simp only [List.map_cons, natsLess, Op.bytesLess, natsLess_map x y]
    congr 1
    congr 1
    rw [Bool.eq_iff_iff]
    simp [← UInt8.toNat_inj]

theorem beq_map (x y : List UInt8) : (x.map UInt8.toNat == y.map UInt8.toNat) = (x == y) := by
  rw [Bool.eq_iff_iff]
  simp only [beq_iff_eq]
  constructor
  · intro h
    exact List.map_inj_right (fun a b e => UInt8.toNat_inj.1 e) |>.1 h
  · rintro rfl; rfl

/-- Where nothing is cut off. -/
def lim : IntKind → Nat
  | .i8 => 128 | .i16 => 32768 | .i32 => 2147483648 | .i64 => 9223372036854775808
  | .u8 => 256 | .u16 => 65536 | .u32 => 4294967296 | .u64 => 18446744073709551616

/-- 'wrap', without its work where nothing is cut off. -/
def wrapF (k : IntKind) (n : Int) : Int :=
  match n with
  | .ofNat m => cond (Nat.blt m (lim k)) n (k.wrap n)
  | .negSucc m => cond (k.signed && Nat.blt m (lim k)) n (k.wrap n)

theorem wrap_lim (k : IntKind) (n : Int) (h0 : (0 ≤ n ∧ n < lim k) ∨ (k.signed = true ∧ -(lim k : Int) ≤ n ∧ n < 0)) : k.wrap n = n := by
  rcases h0 with ⟨h1, h2⟩ | ⟨hs, h1, h2⟩
  · cases k <;> simp only [lim] at h2 <;> simp [IntKind.wrap, IntKind.bits, IntKind.signed] <;> omega
  · cases k <;> simp only [lim] at h1 <;> simp only [IntKind.signed, reduceCtorEq, Bool.false_eq_true] at hs <;> simp [IntKind.wrap, IntKind.bits, IntKind.signed] <;> omega

theorem wrapF_eq (k : IntKind) (n : Int) : wrapF k n = k.wrap n := by
  cases n with
  | ofNat m =>
    simp only [wrapF]
    cases h : Nat.blt m (lim k) with
    | false => rfl
    | true =>
      have hm : m < lim k := by simpa [Nat.blt_eq] using h
      exact (wrap_lim k (Int.ofNat m) (.inl ⟨by simp, by simpa using hm⟩)).symm
  | negSucc m =>
    simp only [wrapF]
    cases h : k.signed && Nat.blt m (lim k) with
    | false => rfl
    | true =>
      simp only [Bool.and_eq_true] at h
      have hm : m < lim k := by simpa [Nat.blt_eq] using h.2
      exact (wrap_lim k (Int.negSucc m) (.inr ⟨h.1, by rw [Int.negSucc_eq]; omega, by rw [Int.negSucc_eq]; omega⟩)).symm

def aBin0 (op : BinOp) : AVal → AVal → Option AVal
  | .i k a, .i k' b =>
    match op with
    | .shl => if b < 0 then none else some (.i k (wrapF k (a * 2 ^ (min b.toNat k.bits))))
    | .shr => if b < 0 then none else some (.i k (a.fdiv (2 ^ (min b.toNat k.bits))))
    | .add => if k = k' then some (.i k (wrapF k (a + b))) else none
    | .sub => if k = k' then some (.i k (wrapF k (a - b))) else none
    | .mul => if k = k' then some (.i k (wrapF k (a * b))) else none
    | .quo => if k = k' ∧ b ≠ 0 then some (.i k (wrapF k (a.tdiv b))) else none
    | .rem => if k = k' ∧ b ≠ 0 then some (.i k (a.tmod b)) else none
    | .eql => if k = k' then some (.b (a == b)) else none
    | .neq => if k = k' then some (.b (a != b)) else none
    | .lss => if k = k' then some (.b (decide (a < b))) else none
    | .leq => if k = k' then some (.b (decide (a ≤ b))) else none
    | .gtr => if k = k' then some (.b (decide (a > b))) else none
    | .geq => if k = k' then some (.b (decide (a ≥ b))) else none
    | .and => if k = k' then some (.i k (wrapF k ((BitVec.ofInt k.bits a &&& BitVec.ofInt k.bits b).toNat))) else none
    | .or => if k = k' then some (.i k (wrapF k ((BitVec.ofInt k.bits a ||| BitVec.ofInt k.bits b).toNat))) else none
    | _ => none
  | .s x, .s y =>
    match op with
    | .add => if x.length + y.length < 1099511627776 then some (.s (x ++ y)) else none
    | .eql => some (.b (x == y))
    | .neq => some (.b !(x == y))
    | .lss => some (.b (natsLess x y))
    | .leq => some (.b (natsLess x y || x == y))
    | .gtr => some (.b !(natsLess x y || x == y))
    | .geq => some (.b !(natsLess x y))
    | _ => none
  | _, _ => none

/-! The same, with less work for the kernel. -/
def ikN : IntKind → Nat
  | .i8 => 0 | .i16 => 1 | .i32 => 2 | .i64 => 3 | .u8 => 4 | .u16 => 5 | .u32 => 6 | .u64 => 7

def ikEq (k k' : IntKind) : Bool := Nat.beq (ikN k) (ikN k')

theorem ikEq_eq (k k' : IntKind) : ikEq k k' = decide (k = k') := by cases k <;> cases k' <;> rfl

def ltI : Int → Int → Bool
  | .ofNat m, .ofNat n => Nat.blt m n
  | .ofNat _, .negSucc _ => false
  | .negSucc _, .ofNat _ => true
  | .negSucc m, .negSucc n => Nat.blt n m

theorem ltI_eq (a b : Int) : ltI a b = decide (a < b) := by
  cases a with
  | ofNat m =>
    cases b with
    | ofNat n =>
      simp only [ltI]
      rw [Bool.eq_iff_iff]
      simp [Nat.blt_eq]
    | negSucc n =>
      simp only [ltI]
      have : ¬ (Int.ofNat m < Int.negSucc n) := by rw [Int.negSucc_eq]; simp; omega
      exact (decide_eq_false this).symm
  | negSucc m =>
    cases b with
    | ofNat n =>
      simp only [ltI]
      have : Int.negSucc m < Int.ofNat n := by rw [Int.negSucc_eq]; simp; omega
      exact (decide_eq_true this).symm
    | negSucc n =>
      simp only [ltI]
      rw [Bool.eq_iff_iff]
      simp only [Nat.blt_eq, decide_eq_true_eq, Int.negSucc_eq]
      omega

def eqI : Int → Int → Bool
  | .ofNat m, .ofNat n => Nat.beq m n
  | .negSucc m, .negSucc n => Nat.beq m n
  | _, _ => false

theorem eqI_eq (a b : Int) : eqI a b = (a == b) := by
  rw [Bool.eq_iff_iff]
  cases a <;> cases b <;> simp [eqI]
  omega

def aBinI (op : BinOp) (k : IntKind) (a : Int) (k' : IntKind) (b : Int) : Option AVal :=
  match op with
  | .add => cond (ikEq k k') (some (.i k (wrapF k (Int.add a b)))) none
  | .sub => cond (ikEq k k') (some (.i k (wrapF k (Int.sub a b)))) none
  | .eql => cond (ikEq k k') (some (.b (eqI a b))) none
  | .neq => cond (ikEq k k') (some (.b (not (eqI a b)))) none
  | .lss => cond (ikEq k k') (some (.b (ltI a b))) none
  | .leq => cond (ikEq k k') (some (.b (not (ltI b a)))) none
  | .gtr => cond (ikEq k k') (some (.b (ltI b a))) none
  | .geq => cond (ikEq k k') (some (.b (not (ltI a b)))) none
  | op => aBin0 op (.i k a) (.i k' b)

def aBin (op : BinOp) (x y : AVal) : Option AVal :=
  match x with
  | .i k a => (match y with
    | .i k' b => aBinI op k a k' b
    | _ => none)
  | .s l => aBin0 op (.s l) y
  | _ => none

theorem aBin_eq (op : BinOp) (x y : AVal) : aBin op x y = aBin0 op x y := by
  cases x <;> (try (simp [aBin, aBin0]; done))
  cases y <;> (try (simp [aBin, aBin0]; done))
  rename_i k a k' b
  simp only [aBin]
  cases op <;> simp only [aBinI, aBin0, ikEq_eq, ltI_eq, eqI_eq, Bool.cond_decide]
  all_goals (by_cases h : k = k')
  all_goals (simp only [h, if_true, if_false])
  all_goals (first | rfl | (congr 2; rw [Bool.eq_iff_iff]; simp <;> omega))

theorem VRel.int {θ : Th} {k : IntKind} {n : Int} {u : Value} : VRel θ (.i k n) u ↔ u = .int k n := by simp [VRel]
theorem VRel.bool {θ : Th} {x : Bool} {u : Value} : VRel θ (.b x) u ↔ u = .bool x := by simp [VRel]

theorem aBin_sound {θ : Th} {op : BinOp} {x y z : AVal} {u v : Value} (t : TypeId) (ox oy : Operand) (hx : VRel θ x u) (hy : VRel θ y v) (h : aBin op x y = some z) (P : Program) (w : World) :
    ∃ r, (do eqGuard op t ox oy u v; binOp op t u v : Sem Value).run P w = .ok r w ∧ VRel θ z r := by
  rw [aBin_eq] at h
  unfold aBin0 at h
  split at h
  · rename_i k a k' b
    rw [VRel.int] at hx hy
    subst hx hy
    have hg : eqGuard op t ox oy (.int k a) (.int k' b) = pure () := eqGuard_at_int op t ox oy _ _ _
    rw [hg]
    split at h <;> (first | (split at h <;> simp only [Option.some.injEq, reduceCtorEq] at h; subst h) | cases h)
    all_goals (try (rename_i hk; first | subst hk | (obtain ⟨hk, hb⟩ := hk; subst hk)))
    all_goals (refine ⟨_, ?_, rfl⟩)
    all_goals simp [binOp, wrapF_eq, Op.shift, Op.intArith, Op.intDiv, Op.intCmp, Op.intBits, *]
  · rename_i x y
    simp only [VRel] at hx hy
    obtain ⟨s, rfl, rfl⟩ := hx
    obtain ⟨s', rfl, rfl⟩ := hy
    have hg : eqGuard op t ox oy (.string s) (.string s') = pure () := eqGuard_at_string op t ox oy _ _
    rw [hg]
    have hlen : s.data.toList.length = s.size := by rw [Array.length_toList]; rfl
    have hlen' : s'.data.toList.length = s'.size := by rw [Array.length_toList]; rfl
    simp only [natsLess_map, beq_map, ← ByteArray.toList_eq] at h
    split at h <;> (first | (split at h <;> simp only [Option.some.injEq, reduceCtorEq] at h; subst h) | (simp only [Option.some.injEq] at h; subst h) | cases h)
    case h_1.isTrue hs =>
      refine ⟨.string (s ++ s'), ?_, ?_⟩
      · simp only [List.length_map, ByteArray.toList_eq, hlen, hlen'] at hs
        simp only [pure_bind, binOp, Op.stringOp, IntKind.max_i64]
        rw [if_neg (by omega)]
        rfl
      · simp [VRel, ByteArray.toList_eq]
    all_goals (refine ⟨_, ?_, rfl⟩; simp [binOp, Op.stringOp])
  · cases h

inductive EqK where
  | bool | ptr | sl
  deriving DecidableEq

def aEq : EqK → AVal → AVal → Option Bool
  | .bool, .b x, .b y => some (x == y)
  | .ptr, .np, .np => some true
  | .ptr, .np, .p _ _ => some false
  | .ptr, .p _ _, .np => some false
  | .sl, .nsl, .nsl => some true
  | .sl, .nsl, .sl _ _ _ _ _ => some false
  | .sl, .sl _ _ _ _ _, .nsl => some false
  | _, _, _ => none

def eqKOf (P : Program) (t : TypeId) : Option EqK :=
  match P.underlying t with
  | some .bool => some .bool
  | some (.pointer _) => some .ptr
  | some (.slice _) => some .sl
  | _ => none

theorem aEq_sound {θ : Th} {P : Program} {t : TypeId} {k : EqK} (hk : eqKOf P t = some k) {x y : AVal} {z : Bool} {u v : Value} (hx : VRel θ x u) (hy : VRel θ y v) (h : aEq k x y = some z) :
    (∀ d w, (Op.equalIn (d + 1) t u v).run P w = .ok z w) ∧ (∀ op ox oy, eqGuard op t ox oy u v = pure ()) ∧ (∀ w, (binOp .eql t u v).run P w = .ok (.bool z) w) ∧ (∀ w, (binOp .neq t u v).run P w = .ok (.bool !z) w) := by
  have key : (∀ d w, (Op.equalIn (d + 1) t u v).run P w = .ok z w) ∧ (∀ op ox oy, eqGuard op t ox oy u v = pure ()) ∧ binOp .eql t u v = (do pure (.bool (← Op.equal t u v))) ∧ binOp .neq t u v = (do pure (.bool (!(← Op.equal t u v)))) := by
    unfold eqKOf at hk
    split at hk <;> simp only [Option.some.injEq, reduceCtorEq] at hk <;> subst hk
    · rename_i hu
      cases x <;> cases y <;> simp only [aEq, Option.some.injEq, reduceCtorEq] at h
      rw [VRel.bool] at hx hy
      subst hx hy h
      exact ⟨fun d w => by simp [Op.equalIn, run_underlying hu], fun op ox oy => eqGuard_at_bool _ _ _ _ _ _, rfl, rfl⟩
    · rename_i e hu
      cases x <;> cases y <;> simp only [aEq, Option.some.injEq, reduceCtorEq] at h <;> subst h <;> simp only [VRel] at hx hy <;> (try obtain ⟨l, _, rfl⟩ := hx) <;> (try obtain ⟨l, _, rfl⟩ := hy) <;> (try subst hx) <;> (try subst hy)
      all_goals exact ⟨fun d w => by simp [Op.equalIn, run_underlying hu], fun op ox oy => eqGuard_at_pointer _ _ _ _ _ _, rfl, rfl⟩
    · rename_i e hu
      cases x <;> cases y <;> simp only [aEq, Option.some.injEq, reduceCtorEq] at h <;> subst h <;> simp only [VRel] at hx hy <;> (try obtain ⟨l, a, c, _, rfl, _⟩ := hx) <;> (try obtain ⟨l, a, c, _, rfl, _⟩ := hy) <;> (try subst hx) <;> (try subst hy)
      all_goals exact ⟨fun d w => by simp [Op.equalIn, run_underlying hu], fun op ox oy => eqGuard_at_slice _ _ _ _ _ _ _ _, rfl, rfl⟩
  obtain ⟨h1, h2, h3, h4⟩ := key
  have h1' : ∀ w, (Op.equal t u v).run P w = .ok z w := fun w => h1 9999 w
  refine ⟨h1, h2, fun w => ?_, fun w => ?_⟩
  · rw [h3, Sem.run_bind, h1']; rfl
  · rw [h4, Sem.run_bind, h1']; rfl

end
end AM
end Go.Proofs.YtlgbgbngdhhjaaaGreatDoor

set_option linter.unusedSimpArgs false
set_option linter.unusedVariables false
namespace Go.Proofs.YtlgbgbngdhhjaaaGreatDoor
namespace AM
noncomputable section
open Go

/-- How keys of a map are told apart. -/
inductive KeyK where
  | int (k : IntKind)
  | str
  | part
  deriving DecidableEq

inductive AOp where
  | mov (x : AOpd)
  | pick (c a b : AOpd)
  | nilck (x : AOpd)
  | bin (op : BinOp) (x y : AOpd)
  | eqt (k : EqK) (neg : Bool) (x y : AOpd)
  | not (x : AOpd)
  | convI (k : IntKind) (x : AOpd)
  | convSS (x : AOpd)
  | convIS (x : AOpd)
  | mkifc (t : TypeId) (x : AOpd)
  | mkfn (f : FuncId) (caps : List AOpd)
  | build (zero : List AVal) (parts : List (Nat × Nat × AOpd))
  | len (x : AOpd)
  | lenS (x : AOpd)
  | lenM (x : AOpd)
  | fieldA (off : Nat) (x : AOpd)
  | field (off size : Nat) (agg : Bool) (x : AOpd)
  | idxA (es : Nat) (x i : AOpd)
  | idxS (x i : AOpd)
  | slcS (x : AOpd) (lo hi : Option AOpd)
  | slc (es : Nat) (x : AOpd) (lo hi mx : Option AOpd)
  | ext (n : Nat) (x : AOpd)
  | load (n : Nat) (agg : Bool) (a : AOpd)
  | look (kk : KeyK) (zero : AVal) (ok : Bool) (m k : AOpd)
  | bts (x : AOpd)
  | box (x : AOpd)
  | alloc (z : List AVal)
  | mkmap
  | mksl (es bytes : Nat) (zero : List AVal) (l c : AOpd)
  | bsl (es n : Nat) (zero : List AVal) (parts : List (Nat × AOpd))
  | store (n : Nat) (a v : AOpd)
  | app (es bytes : Nat) (s x : AOpd)
  | upd (kk : KeyK) (m k v : AOpd)
  | stb (x : AOpd)
  | clr (es : Nat) (zero : List AVal) (x : AOpd)
  | call (f : FuncId) (args : List AOpd)
  | callv (f : AOpd) (args : List AOpd)
  | inv (recv : AOpd) (tbl : List (TypeId × FuncId)) (args : List AOpd)
  | dfr (f : FuncId) (args : List AOpd)

/-! ### Lists -/
def splice {α : Type} (l : List α) (o : Nat) (xs : List α) : List α := l.take o ++ xs ++ l.drop (o + xs.length)

theorem splice_length {α : Type} (l : List α) (o : Nat) (xs : List α) (h : o + xs.length ≤ l.length) : (splice l o xs).length = l.length := by
  simp [splice]; omega

theorem splice_nil {α : Type} (l : List α) (o : Nat) : splice l o [] = l := by simp [splice]

theorem splice_cons (l : List Value) (o : Nat) (x : Value) (xs : List Value) (h : o + (xs.length + 1) ≤ l.length) : splice (l.set o x) (o + 1) xs = splice l o (x :: xs) := by
  have := list_seg_step l o x xs (by omega)
  simpa [splice, Nat.add_assoc, Nat.add_comm 1] using this

theorem VRels.splice {θ : Th} {l xs : List AVal} {c us : List Value} (o : Nat) (h : VRels θ l c) (hx : VRels θ xs us) : VRels θ (AM.splice l o xs) (AM.splice c o us) := by
  unfold AM.splice
  rw [hx.length]
  exact ((h.take o).append hx).append (h.drop _)

theorem fold_set (off : Nat) : ∀ (us : List Value) (k : Nat) (cells : Array Value), off + k + us.length ≤ cells.size →
    ((us.zipIdx k).foldl (fun cs (p : Value × Nat) => cs.setIfInBounds (off + p.2) p.1) cells).toList = splice cells.toList (off + k) us
  | [], k, cells, _ => by simp [splice_nil]
  | u :: us, k, cells, h => by
    simp only [List.zipIdx_cons, List.foldl_cons]
    rw [fold_set off us (k + 1) _ (by simp at h ⊢; omega)]
    rw [Array.toList_setIfInBounds, ← splice_cons _ _ _ _ (by simp at h ⊢; omega)]
    rfl

/-! ### Parts of a struct -/
def aFill (ps : List (Nat × Nat × AVal)) (acc : List AVal) : Option (List AVal) :=
  match ps with
  | [] => some acc
  | (off, size, v) :: rest =>
    match v.cells? with
    | none => none
    | some cs => if cs.length = size ∧ off + size ≤ acc.length then aFill rest (splice acc off cs) else none

theorem aFill_sound {θ : Th} (place : Nat → Option (Nat × Nat)) : ∀ (ps : List (Nat × Nat × AVal)) (us : List (Nat × Value)) (acc out : List AVal) (cells : Array Value),
    List.length ps = us.length → (∀ (j : Nat) (p : Nat × Nat × AVal) (u : Nat × Value), ps[j]? = some p → us[j]? = some u → place u.1 = some (p.1, p.2.1) ∧ VRel θ p.2.2 u.2) →
    VRels θ acc cells.toList → (∀ u ∈ cells.toList, u.oneCell' = true) → aFill ps acc = some out →
    ∃ res : Array Value, Instr.fill place cells us = some res ∧ VRels θ out res.toList ∧ ∀ u ∈ res.toList, u.oneCell' = true
  | [], [], acc, out, cells, _, _, ha, h1, h => by
    simp only [aFill, Option.some.injEq] at h; subst h
    exact ⟨cells, rfl, ha, h1⟩
  | [], _ :: _, _, _, _, hl, _, _, _, _ => by simp at hl
  | _ :: _, [], _, _, _, hl, _, _, _, _ => by simp at hl
  | (off, size, v) :: ps, (i, u) :: us, acc, out, cells, hl, hp, ha, h1, h => by
    obtain ⟨hpl, hv⟩ := hp 0 (off, size, v) (i, u) rfl rfl
    simp only [aFill] at h
    split at h
    · cases h
    · rename_i cs hcs
      split at h
      · rename_i hc
        obtain ⟨hc1, hc2⟩ := hc
        have hcells := hv.cells hcs
        have hlen := hcells.1.length
        have hal := ha.length
        have hsz : u.cells.size = size := by rw [← hc1, hlen, Array.length_toList]
        have hcs' : cells.size = acc.length := by rw [hal, Array.length_toList]
        have hfold : (u.cells.zipIdx.foldl (fun cs (p : Value × Nat) => cs.setIfInBounds (off + p.2) p.1) cells).toList = splice cells.toList off u.cells.toList := by
          have := fold_set off u.cells.toList 0 cells (by simp; omega)
          rw [← Array.foldl_toList, Array.toList_zipIdx]
          simpa using this
        obtain ⟨res, hr1, hr2, hr3⟩ := aFill_sound place ps us (splice acc off cs) out _ (by simpa using hl)
          (fun j p q hj hq => hp (j + 1) p q (by simpa using hj) (by simpa using hq)) (by rw [hfold]; exact VRels.splice off ha hcells.1)
          (by
            intro x hx
            rw [hfold] at hx
            simp only [splice, List.mem_append] at hx
            rcases hx with (hx | hx) | hx
            · exact h1 x (List.mem_of_mem_take hx)
            · exact hcells.2 x hx
            · exact h1 x (List.mem_of_mem_drop hx)) h
        refine ⟨res, ?_, hr2, hr3⟩
        simp only [Instr.fill]
        simp only at hpl
        rw [hpl]
        simp only [hsz]
        rw [if_neg (by simp; omega)]
        exact hr1
      · cases h

def placesOf (P : Program) : List Field → Option (List (Nat × Nat))
  | [] => some []
  | f :: fs => match P.info? f.type, placesOf P fs with
    | some i, some r => some ((f.offset, i.size) :: r)
    | _, _ => none

theorem run_places (P : Program) (w : World) : ∀ (fs : List Field) (r : List (Nat × Nat)), placesOf P fs = some r →
    (fs.mapM (fun f => do pure (f.offset, ← sizeOf f.type) : Field → Sem (Nat × Nat))).run P w = .ok r w
  | [], r, h => by simp [placesOf] at h; subst h; simp
  | f :: fs, r, h => by
    simp only [placesOf] at h
    split at h
    · rename_i i r' hi hr
      simp only [Option.some.injEq] at h; subst h
      have ih := run_places P w fs r' hr
      have h0 : ((do pure (f.offset, ← sizeOf f.type)) : Sem (Nat × Nat)).run P w = .ok (f.offset, i.size) w := by simp [sizeOf, typeInfo, hi]
      rw [List.mapM_cons, Sem.run_bind, h0, Result.andThen_ok, Sem.run_bind, ih]
      rfl
    · cases h

/-! ### Compiling -/
def cOpds : List Operand → Option (List AOpd)
  | [] => some []
  | x :: xs => match cOpd x, cOpds xs with
    | some y, some ys => some (y :: ys)
    | _, _ => none

def evs (T : Tm) : List AOpd → Option (List AVal)
  | [] => some []
  | x :: xs => match ev T x, evs T xs with
    | some y, some ys => some (y :: ys)
    | _, _ => none

theorem ARel.evs {θ : Th} {N : Nat} {T : Tm} {a : Act} (h : ARel θ N T a) : ∀ {xs : List Operand} {ys : List AOpd}, cOpds xs = some ys → ∀ {vs : List AVal}, evs T ys = some vs → VRels θ vs (xs.map a.eval)
  | [], ys, hc, vs, he => by
    simp [cOpds] at hc; subst hc; simp [AM.evs] at he; subst he; simp [VRels]
  | x :: xs, ys, hc, vs, he => by
    simp only [cOpds] at hc
    split at hc
    · rename_i y ys' h1 h2
      simp only [Option.some.injEq] at hc; subst hc
      simp only [AM.evs] at he
      split at he
      · rename_i v vs' h3 h4
        simp only [Option.some.injEq] at he; subst he
        exact VRels.cons (h.ev h1 h3) (h.evs h2 h4)
      · cases he
    · cases hc

def cOpdO : Option Operand → Option (Option AOpd)
  | none => some none
  | some x => (cOpd x).map some

def evO (T : Tm) : Option AOpd → Option (Option AVal)
  | none => some none
  | some x => (ev T x).map some

def aggOf (P : Program) (t : TypeId) : Option Bool := (P.underlying t).map fun | .struct _ | .array .. => true | _ => false

theorem run_isAgg_of {P : Program} {t : TypeId} {b : Bool} (h : aggOf P t = some b) (w : World) : (isAgg t).run P w = .ok b w := by
  unfold aggOf at h
  simp only [Option.map_eq_some_iff] at h
  obtain ⟨d, hd, rfl⟩ := h
  simp only [isAgg, Sem.run_bind, run_underlying hd, Result.andThen_ok]
  cases d <;> rfl

def cParts (pl : List (Nat × Nat)) : List (Nat × Operand) → Option (List (Nat × Nat × AOpd))
  | [] => some []
  | (i, x) :: r => match pl[i]?, cOpd x, cParts pl r with
    | some p, some y, some ys => some ((p.1, p.2, y) :: ys)
    | _, _, _ => none

def evParts (T : Tm) : List (Nat × Nat × AOpd) → Option (List (Nat × Nat × AVal))
  | [] => some []
  | (a, b, x) :: r => match ev T x, evParts T r with
    | some y, some ys => some ((a, b, y) :: ys)
    | _, _ => none

def sizeOf? (P : Program) (t : TypeId) : Option Nat := (P.info? t).map (·.size)

theorem run_sizeOf? {P : Program} {t : TypeId} {n : Nat} (h : sizeOf? P t = some n) (w : World) : (sizeOf t).run P w = .ok n w := by
  simp only [sizeOf?, Option.map_eq_some_iff] at h
  obtain ⟨i, hi, rfl⟩ := h
  simp [sizeOf, typeInfo, hi]

def zero? (P : Program) (t : TypeId) : Option Value := (P.info? t).bind (·.zero)

theorem run_zero? {P : Program} {t : TypeId} {z : Value} (h : zero? P t = some z) (w : World) : (zeroValue t).run P w = .ok z w := by
  simp only [zero?, Option.bind_eq_some_iff] at h
  obtain ⟨i, hi, hz⟩ := h
  simp [zeroValue, typeInfo, hi, hz]

def cZero (P : Program) (t : TypeId) : Option (List AVal) := (zero? P t).bind fun z => absCs z.cells.toList

/-- The operations that touch no memory. -/
def cPure (P : Program) (o : Op) : Option AOp :=
  match o with
  | .move x | .assign x => (cOpd x).map .mov
  | .pick c a b => match cOpd c, cOpd a, cOpd b with
    | some c, some a, some b => some (.pick c a b)
    | _, _, _ => none
  | .nilCheck x => (cOpd x).map .nilck
  | .binOp op t x y _ => match cOpd x, cOpd y with
    | some x, some y => match eqKOf P t, op with
      | some k, .eql => some (.eqt k false x y)
      | some k, .neq => some (.eqt k true x y)
      | _, _ => some (.bin op x y)
    | _, _ => none
  | .unOp .not _ x => (cOpd x).map .not
  | .convert s d x => match cOpd x, P.underlying s, P.underlying d with
    | some x, some (.int _), some (.int k) => some (.convI k x)
    | some x, some .string, some .string => some (.convSS x)
    | some x, some (.int _), some .string => some (.convIS x)
    | _, _, _ => none
  | .makeInterface t x => if P.concrete t then (cOpd x).map (.mkifc t) else none
  | .makeFunc (.func f) first caps => if first.size = 0 then (cOpds caps.toList).map (.mkfn f) else none
  | .build t parts => match P.underlying t, cZero P t with
    | some (.struct fs), some z => (placesOf P fs.toList).bind fun pl => (cParts pl parts.toList).map (.build z)
    | _, _ => none
  | .call { callee := .builtin .len, args := xs, argTypes := ts } => match xs.toList, ts.toList with
    | [x], [t] => match P.underlying t with
      | some (.slice _) => (cOpd x).map .len
      | some .string => (cOpd x).map .lenS
      | _ => none
    | _, _ => none
  | .fieldAddr s x n => match P.underlying s with
    | some (.struct fs) => match fs[n]? with
      | some f => match sizeOf? P f.type with
        | some (_ + 1) => (cOpd x).map (.fieldA f.offset)
        | _ => none
      | none => none
    | _ => none
  | .field s x n => match P.underlying s with
    | some (.struct fs) => match fs[n]? with
      | some f => match aggOf P f.type, sizeOf? P f.type with
        | some b, some n => (cOpd x).map (.field f.offset n b)
        | _, _ => none
      | none => none
    | _ => none
  | .indexAddr t x i => match P.underlying t with
    | some (.slice e) => match sizeOf? P e, cOpd x, cOpd i with
      | some n, some x, some i => some (.idxA n x i)
      | _, _, _ => none
    | _ => none
  | .index t x i => match P.underlying t with
    | some .string => match cOpd x, cOpd i with
      | some x, some i => some (.idxS x i)
      | _, _ => none
    | _ => none
  | .slice t x lo hi mx => match P.underlying t with
    | some .string => match cOpd x, cOpdO lo, cOpdO hi, mx with
      | some x, some lo, some hi, none => some (.slcS x lo hi)
      | _, _, _, _ => none
    | some (.slice e) => match sizeOf? P e, cOpd x, cOpdO lo, cOpdO hi, cOpdO mx with
      | some n, some x, some lo, some hi, some mx => some (.slc n x lo hi mx)
      | _, _, _, _, _ => none
    | _ => none
  | .extract x n => (cOpd x).map (.ext n)
  | _ => none

/-! ### What they compute -/
def aBound (x : Option AVal) (dflt most : Nat) : Option Nat :=
  match x with
  | none => some dflt
  | some (.i _ (.ofNat n)) => cond (Nat.ble n most) (some n) none
  | some _ => none

def aSlc (es : Nat) (x : AVal) (lo hi mx : Option AVal) : Option AVal :=
  match x with
  | .nsl => match aBound mx 0 0, aBound hi 0 0, aBound lo 0 0 with
    | some _, some _, some _ => if mx.isSome && hi.isNone then none else some .nsl
    | _, _, _ => none
  | .sl id o n k e =>
    if e = es then
    let m? := match k with
      | some kk => (aBound mx kk kk).map some
      | none => match mx with
        | none => some none
        | some _ => (aBound mx 0 n).map some
    match m? with
    | none => none
    | some m =>
      match aBound hi n (m.getD n) with
      | none => none
      | some h => match aBound lo 0 h with
        | none => none
        | some l => if mx.isSome && hi.isNone then none else some (.sl id (o + l * es) (h - l) (m.map (· - l)) es)
    else none
  | _ => none

def aSlcS (x : AVal) (lo hi : Option AVal) : Option AVal :=
  match x with
  | .s l => match aBound hi l.length l.length with
    | none => none
    | some h => match aBound lo 0 h with
      | none => none
      | some a => some (.s ((l.drop a).take (h - a)))
  | _ => none

def aPure (T : Tm) : AOp → Option AVal
  | .mov x => ev T x
  | .pick c a b => match ev T c with
    | some (.b t) => if t then ev T a else ev T b
    | _ => none
  | .nilck x => match ev T x with
    | some (.p i o) => some (.p i o)
    | _ => none
  | .bin op x y => match ev T x, ev T y with
    | some x, some y => aBin op x y
    | _, _ => none
  | .eqt k neg x y => match ev T x, ev T y with
    | some x, some y => (aEq k x y).map fun z => .b (if neg then !z else z)
    | _, _ => none
  | .not x => match ev T x with
    | some (.b t) => some (.b !t)
    | _ => none
  | .convI k x => match ev T x with
    | some (.i _ n) => some (.i k (wrapF k n))
    | _ => none
  | .convSS x => match ev T x with
    | some (.s l) => some (.s l)
    | _ => none
  | .convIS x => match ev T x with
    | some (.i _ n) => if 0 ≤ n ∧ n < 128 then some (.s [n.toNat]) else none
    | _ => none
  | .mkifc t x => (ev T x).map (.ifc t)
  | .mkfn f caps => (evs T caps).map (.f f)
  | .build z parts => (evParts T parts).bind fun ps => (aFill ps z).map .agg
  | .len x => match ev T x with
    | some .nsl => some (.i .i64 0)
    | some (.sl _ _ n _ _) => some (.i .i64 n)
    | _ => none
  | .lenS x => match ev T x with
    | some (.s l) => some (.i .i64 l.length)
    | _ => none
  | .fieldA off x => match ev T x with
    | some (.p i o) => some (.p i (o + off))
    | _ => none
  | .field off size agg x => match ev T x with
    | some (.agg cs) => if agg then (if off + size ≤ cs.length then some (.agg ((cs.drop off).take size)) else none) else cs[off]?
    | _ => none
  | .idxA es x i => match ev T x, ev T i with
    | some (.sl id o n _ _), some (.i _ (.ofNat j)) => cond (Nat.blt j n) (some (.p id (o + j * es))) none
    | _, _ => none
  | .idxS x i => match ev T x, ev T i with
    | some (.s l), some (.i _ (.ofNat j)) => (match l[j]? with | some (c : Nat) => some (.i .u8 (Int.ofNat c)) | none => none)
    | _, _ => none
  | .slcS x lo hi => match ev T x, evO T lo, evO T hi with
    | some x, some lo, some hi => aSlcS x lo hi
    | _, _, _ => none
  | .slc es x lo hi mx => match ev T x, evO T lo, evO T hi, evO T mx with
    | some x, some lo, some hi, some mx => aSlc es x lo hi mx
    | _, _, _, _ => none
  | .ext n x => match ev T x with
    | some (.tup vs) => vs[n]?
    | _ => none
  | _ => none

end
end AM
end Go.Proofs.YtlgbgbngdhhjaaaGreatDoor

set_option linter.unusedSimpArgs false
set_option linter.unusedVariables false
namespace Go.Proofs.YtlgbgbngdhhjaaaGreatDoor
namespace AM
noncomputable section
open Go

/-- The value of an operation that leaves the world alone. -/
def Gives (P : Program) (s : Sem Next) (θ : Th) (v : AVal) : Prop := ∀ w, ∃ u, s.run P w = .ok (.value u) w ∧ VRel θ v u

theorem Gives.of {P : Program} {s : Sem Value} {θ : Th} {v : AVal} {u : Value} (h : ∀ w, s.run P w = .ok u w) (hv : VRel θ v u) : Gives P (do pure (.value (← s))) θ v := by
  intro w
  exact ⟨u, by rw [Sem.run_bind, h]; rfl, hv⟩

theorem parts_rel {θ : Th} {N : Nat} {T : Tm} {a : Act} (hT : ARel θ N T a) (pl : List (Nat × Nat)) : ∀ (ps : List (Nat × Operand)) (qs : List (Nat × Nat × AOpd)) (vs : List (Nat × Nat × AVal)),
    cParts pl ps = some qs → evParts T qs = some vs → vs.length = (ps.map fun x => (x.1, a.eval x.2)).length ∧
      ∀ (j : Nat) (p : Nat × Nat × AVal) (u : Nat × Value), vs[j]? = some p → (ps.map fun x => (x.1, a.eval x.2))[j]? = some u → pl[u.1]? = some (p.1, p.2.1) ∧ VRel θ p.2.2 u.2
  | [], qs, vs, h1, h2 => by
    simp [cParts] at h1; subst h1; simp [evParts] at h2; subst h2; simp
  | (i, x) :: ps, qs, vs, h1, h2 => by
    simp only [cParts] at h1
    split at h1
    · rename_i p y ys hp hy hys
      simp only [Option.some.injEq] at h1; subst h1
      simp only [evParts] at h2
      split at h2
      · rename_i v vs' hv hvs
        simp only [Option.some.injEq] at h2; subst h2
        obtain ⟨r1, r2⟩ := parts_rel hT pl ps ys vs' hys hvs
        refine ⟨by simpa using r1, fun j q u hq hu => ?_⟩
        cases j with
        | zero =>
          simp at hq hu; subst hq hu
          exact ⟨hp, hT.ev hy hv⟩
        | succ j => exact r2 j q u (by simpa using hq) (by simpa using hu)
      · cases h2
    · cases h1

theorem aBound_int {x : AVal} {d n most : Nat} (h : aBound (some x) d most = some n) : ∃ k, x = .i k (n : Int) ∧ n ≤ most := by
  unfold aBound at h
  split at h
  · contradiction
  · rename_i k m he
    cases hc : Nat.ble m most with
    | false => rw [hc] at h; simp at h
    | true =>
      rw [hc] at h
      simp only [cond_true, Option.some.injEq] at h he
      subst h he
      exact ⟨k, rfl, Nat.le_of_ble_eq_true hc⟩
  · cases h

theorem run_bound {P : Program} {w : World} {k : IntKind} {n most : Nat} (h : n ≤ most) (code : BoundsCode) : (Instr.sliceBound (.int k n) most code).run P w = .ok n w := by
  simp [Instr.sliceBound, asIntOf]
  omega

/-- An optional bound, in both worlds. -/
theorem opt_bound {θ : Th} {N : Nat} {T : Tm} {a : Act} (hT : ARel θ N T a) {x : Option Operand} {y : Option AOpd} (hc : cOpdO x = some y) {v : Option AVal} (he : evO T y = some v) :
    (x.map a.eval = none ∧ v = none) ∨ ∃ p q, x.map a.eval = some p ∧ v = some q ∧ VRel θ q p := by
  cases x with
  | none =>
    simp [cOpdO] at hc; subst hc; simp [evO] at he; exact .inl ⟨rfl, he.symm⟩
  | some p =>
    simp only [cOpdO, Option.map_eq_some_iff] at hc
    obtain ⟨z, hz, rfl⟩ := hc
    simp only [evO, Option.map_eq_some_iff] at he
    obtain ⟨q, hq, rfl⟩ := he
    exact .inr ⟨a.eval p, q, rfl, rfl, hT.ev hz hq⟩

theorem run_sliceBounds {P : Program} {w : World} (isS : Bool) {len cap : Nat} {lo hi mx : Option Value} {l h m : Nat}
    (hm : (mx = none ∧ m = cap) ∨ (∃ k, mx = some (.int k m)) ∧ m ≤ cap) (hh : (hi = none ∧ h = len ∧ mx = none) ∨ (∃ k, hi = some (.int k h)) ∧ h ≤ m) (hl : (lo = none ∧ l = 0) ∨ (∃ k, lo = some (.int k l)) ∧ l ≤ h) :
    (Instr.sliceBounds isS len cap lo hi mx).run P w = .ok (l, h, m) w := by
  unfold Instr.sliceBounds
  rcases hm with ⟨rfl, rfl⟩ | ⟨⟨km, rfl⟩, hm⟩
  · rcases hh with ⟨rfl, rfl, _⟩ | ⟨⟨kh, rfl⟩, hh⟩
    · rcases hl with ⟨rfl, rfl⟩ | ⟨⟨kl, rfl⟩, hl⟩
      · simp
      · simp [run_bound hl]
    · rcases hl with ⟨rfl, rfl⟩ | ⟨⟨kl, rfl⟩, hl⟩
      · simp [run_bound hh]
      · simp [run_bound hh, run_bound hl]
  · rcases hh with ⟨rfl, rfl, he⟩ | ⟨⟨kh, rfl⟩, hh⟩
    · cases he
    · rcases hl with ⟨rfl, rfl⟩ | ⟨⟨kl, rfl⟩, hl⟩
      · simp [run_bound hm, run_bound hh]
      · simp [run_bound hm, run_bound hh, run_bound hl]

theorem aBound_rel {θ : Th} {x : Option Value} {v : Option AVal} {d most n : Nat} (h : (x = none ∧ v = none) ∨ ∃ p q, x = some p ∧ v = some q ∧ VRel θ q p) (hb : aBound v d most = some n) :
    (x = none ∧ n = d) ∨ (∃ k, x = some (.int k n)) ∧ n ≤ most := by
  rcases h with ⟨rfl, rfl⟩ | ⟨p, q, rfl, rfl, hv⟩
  · simp [aBound] at hb; exact .inl ⟨rfl, hb.symm⟩
  · obtain ⟨k, rfl, hn⟩ := aBound_int hb
    rw [VRel.int] at hv; subst hv
    exact .inr ⟨⟨k, rfl⟩, hn⟩

theorem strNats_extract (s : ByteArray) (l h : Nat) : strNats (s.extract l h) = ((strNats s).drop l).take (h - l) := by
  simp [strNats, List.map_take, List.map_drop, ByteArray.data_extract, Array.toList_extract, List.extract_eq_take_drop]

theorem strNats_length (s : ByteArray) : (strNats s).length = s.size := by
  simp [strNats]

theorem run_conv_int {P : Program} {w : World} {s d : TypeId} {sd : TypeDesc} {k : IntKind} (hs : P.underlying s = some sd) (hd : P.underlying d = some (.int k)) (kk : IntKind) (n : Int) :
    (convert s d (.int kk n)).run P w = .ok (.int k (k.wrap n)) w := by
  simp [convert, run_underlying hs, run_underlying hd, Conv.intToInt]
theorem run_conv_is {P : Program} {w : World} {s d : TypeId} {sd : TypeDesc} (hs : P.underlying s = some sd) (hd : P.underlying d = some .string) (kk : IntKind) (n : Int) :
    (convert s d (.int kk n)).run P w = .ok (.string (Utf8.encode n)) w := by
  simp [convert, run_underlying hs, run_underlying hd, Conv.intToString]
theorem run_conv_ss {P : Program} {w : World} {s d : TypeId} {sd : TypeDesc} (hs : P.underlying s = some sd) (hd : P.underlying d = some .string) (x : ByteArray) :
    (convert s d (.string x)).run P w = .ok (.string x) w := by
  simp [convert, run_underlying hs, run_underlying hd]

theorem encode_ascii {n : Int} (h : 0 ≤ n) (h' : n < 128) : strNats (Utf8.encode n) = [n.toNat] := by
  have hv : Utf8.valid n = true := by simp [Utf8.valid]; omega
  simp only [Utf8.encode, hv, if_true]
  rw [if_pos (by omega)]
  simp [strNats]
  omega

set_option maxHeartbeats 1000000 in
theorem aPure_sound {P : Program} {θ : Th} {N : Nat} {T : Tm} {a : Act} {o : Oper} {ao : AOp} {v : AVal} (hc : cPure P o.op = some ao) (hT : ARel θ N T a) (h : aPure T ao = some v) : Gives P (execOp a.eval o) θ v := by
  obtain ⟨dst, op, ty, pos, aft, gd⟩ := o
  simp only at hc
  cases op with
  | move x =>
    simp only [cPure, Option.map_eq_some_iff] at hc; obtain ⟨y, hy, rfl⟩ := hc
    exact fun w => ⟨_, rfl, hT.ev hy h⟩
  | assign x =>
    simp only [cPure, Option.map_eq_some_iff] at hc; obtain ⟨y, hy, rfl⟩ := hc
    exact fun w => ⟨_, rfl, hT.ev hy h⟩
  | pick c x y =>
    simp only [cPure] at hc
    split at hc <;> (try simp only [Option.some.injEq, reduceCtorEq] at hc)
    rename_i c' x' y' h1 h2 h3
    subst hc
    simp only [aPure] at h
    split at h <;> (try simp only [Option.some.injEq, reduceCtorEq] at h)
    rename_i t ht
    have r := hT.ev h1 ht
    rw [VRel.bool] at r
    intro w
    cases t
    · refine ⟨a.eval y, ?_, hT.ev h3 (by simpa using h)⟩
      simp [execOp, r, asBool]
    · refine ⟨a.eval x, ?_, hT.ev h2 (by simpa using h)⟩
      simp [execOp, r, asBool]
  | nilCheck x =>
    simp only [cPure, Option.map_eq_some_iff] at hc; obtain ⟨y, hy, rfl⟩ := hc
    simp only [aPure] at h
    split at h <;> (try simp only [Option.some.injEq, reduceCtorEq] at h)
    rename_i i o' ht
    subst h
    have r := hT.ev hy ht
    simp only [VRel] at r
    obtain ⟨l, hl, hr⟩ := r
    exact fun w => ⟨.pointer (some ⟨l.b, l.d + o', none⟩), by simp [execOp, hr], by simp only [VRel]; exact ⟨l, hl, rfl⟩⟩
  | binOp op t x y ty2 =>
    simp only [cPure] at hc
    split at hc <;> (try simp only [reduceCtorEq] at hc)
    rename_i x' y' h1 h2
    split at hc <;> (try simp only [Option.some.injEq] at hc) <;> (try subst hc)
    · rename_i k hk
      simp only [aPure] at h
      split at h <;> (try simp only [reduceCtorEq] at h)
      rename_i p q hp hq
      simp only [Option.map_eq_some_iff] at h
      obtain ⟨z, hz, rfl⟩ := h
      obtain ⟨_, e2, e3, _⟩ := aEq_sound hk (hT.ev h1 hp) (hT.ev h2 hq) hz
      exact fun w => ⟨.bool z, by simp [execOp, e2, e3], by simp [VRel]⟩
    · rename_i k hk
      simp only [aPure] at h
      split at h <;> (try simp only [reduceCtorEq] at h)
      rename_i p q hp hq
      simp only [Option.map_eq_some_iff] at h
      obtain ⟨z, hz, rfl⟩ := h
      obtain ⟨_, e2, _, e4⟩ := aEq_sound hk (hT.ev h1 hp) (hT.ev h2 hq) hz
      exact fun w => ⟨.bool !z, by simp [execOp, e2, e4], by simp [VRel]⟩
    · simp only [aPure] at h
      split at h <;> (try simp only [reduceCtorEq] at h)
      rename_i p q hp hq
      intro w
      obtain ⟨r, hr, hv⟩ := aBin_sound t x y (hT.ev h1 hp) (hT.ev h2 hq) h P w
      refine ⟨r, ?_, hv⟩
      simp only [execOp]
      rw [Sem.run_bind, hr]; rfl
  | unOp op t x =>
    cases op <;> (try simp only [cPure, Option.map_eq_some_iff, reduceCtorEq] at hc)
    obtain ⟨y, hy, rfl⟩ := hc
    simp only [aPure] at h
    split at h <;> (try simp only [Option.some.injEq, reduceCtorEq] at h)
    rename_i b hb
    subst h
    have r := hT.ev hy hb
    rw [VRel.bool] at r
    exact fun w => ⟨.bool !b, by simp [execOp, r, Op.unary], by simp [VRel]⟩
  | convert s d x =>
    simp only [cPure] at hc
    split at hc <;> (try simp only [Option.some.injEq, reduceCtorEq] at hc) <;> (try subst hc)
    · rename_i x' _ k h1 hs hd
      simp only [aPure] at h
      split at h <;> (try simp only [Option.some.injEq, reduceCtorEq] at h)
      rename_i kk n hn
      subst h
      have r := hT.ev h1 hn
      rw [VRel.int] at r
      exact fun w => ⟨.int k (k.wrap n), by simp [execOp, r, run_conv_int hs hd], by simp [VRel, wrapF_eq]⟩
    · rename_i x' h1 hs hd
      simp only [aPure] at h
      split at h <;> (try simp only [Option.some.injEq, reduceCtorEq] at h)
      rename_i l hn
      subst h
      have r := hT.ev h1 hn
      simp only [VRel] at r
      obtain ⟨b, hb, hb'⟩ := r
      exact fun w => ⟨.string b, by simp [execOp, hb, run_conv_ss hs hd], by simp only [VRel]; exact ⟨b, rfl, hb'⟩⟩
    · rename_i x' _ h1 hs hd
      simp only [aPure] at h
      split at h <;> (try simp only [Option.some.injEq, reduceCtorEq] at h)
      rename_i kk n hn
      split at h <;> (try simp only [Option.some.injEq, reduceCtorEq] at h)
      rename_i hb
      subst h
      have r := hT.ev h1 hn
      rw [VRel.int] at r
      exact fun w => ⟨.string (Utf8.encode n), by simp [execOp, r, run_conv_is hs hd], by simp only [VRel]; exact ⟨_, rfl, encode_ascii hb.1 hb.2⟩⟩
  | makeInterface t x =>
    simp only [cPure] at hc
    split at hc <;> (try simp only [Option.map_eq_some_iff, reduceCtorEq] at hc)
    rename_i hcon
    obtain ⟨y, hy, rfl⟩ := hc
    simp only [aPure, Option.map_eq_some_iff] at h
    obtain ⟨q, hq, rfl⟩ := h
    exact fun w => ⟨.iface t (a.eval x), by simp [execOp, run_makeInterface, hcon], by simp only [VRel]; exact ⟨_, rfl, hT.ev hy hq⟩⟩
  | makeFunc fn first caps =>
    cases fn <;> (try simp only [cPure, reduceCtorEq] at hc)
    split at hc <;> (try simp only [Option.map_eq_some_iff, reduceCtorEq] at hc)
    rename_i f hf
    obtain ⟨y, hy, rfl⟩ := hc
    simp only [aPure, Option.map_eq_some_iff] at h
    obtain ⟨q, hq, rfl⟩ := h
    have hf' : first = #[] := by simpa using hf
    subst hf'
    refine fun w => ⟨.func (.func f) #[] (caps.map a.eval), by simp [execOp, Instr.makeFunc], ?_⟩
    simp only [VRel]
    exact ⟨_, rfl, by simpa using hT.evs hy hq⟩
  | build t parts =>
    simp only [cPure] at hc
    split at hc <;> (try simp only [Option.bind_eq_some_iff, Option.map_eq_some_iff, reduceCtorEq] at hc)
    rename_i fs z hu hz
    obtain ⟨pl, hpl, qs, hqs, rfl⟩ := hc
    simp only [aPure, Option.bind_eq_some_iff, Option.map_eq_some_iff] at h
    obtain ⟨ps, hps, out, hout, rfl⟩ := h
    simp only [cZero, Option.bind_eq_some_iff] at hz
    obtain ⟨zv, hzv, hza⟩ := hz
    obtain ⟨z1, z2⟩ := absCs_rel θ hza
    obtain ⟨r1, r2⟩ := parts_rel hT pl parts.toList qs ps hqs hps
    obtain ⟨res, f1, f2, f3⟩ := aFill_sound (fun i => pl[i]?) ps (parts.toList.map fun x => (x.1, a.eval x.2)) z out zv.cells r1 r2 z1 z2 hout
    refine Gives.of (u := .agg res) (fun w => ?_) (by simp only [VRel]; exact ⟨res, rfl, f2, f3⟩)
    have hm : (fs.mapM (fun f => do pure (f.offset, ← sizeOf f.type) : Field → Sem (Nat × Nat))).run P w = .ok pl.toArray w := by
      rw [Array.mapM_eq_mapM_toList, Sem.run_map, run_places P w fs.toList pl hpl]; rfl
    simp only [Instr.build, Sem.run_bind, run_zero? hzv, Result.andThen_ok, run_underlying hu, hm]
    have e : Instr.fill (fun x => pl.toArray[x]?) zv.cells (parts.map fun x => (x.1, a.eval x.2)).toList = some res := by
      simpa using f1
    simp only [e]
    rfl
  | call c =>
    obtain ⟨callee, args, ts⟩ := c
    cases callee <;> (try (simp [cPure] at hc; done))
    rename_i bi
    cases bi <;> (try (simp [cPure] at hc; done))
    simp only [cPure] at hc
    split at hc <;> (try simp only [reduceCtorEq] at hc)
    rename_i x t hx ht
    have hargs : args = #[x] := by rw [← Array.toArray_toList (xs := args), hx]
    have hts : ts = #[t] := by rw [← Array.toArray_toList (xs := ts), ht]
    subst hargs hts
    split at hc
    · rename_i e hu
      simp only [Option.map_eq_some_iff] at hc
      obtain ⟨y, hy, rfl⟩ := hc
      simp only [aPure] at h
      split at h
      · rename_i hv
        simp only [Option.some.injEq] at h; subst h
        have r := hT.ev hy hv
        simp only [VRel] at r
        exact fun w => ⟨.int .i64 0, by simp [execOp, resolve, invoke, builtin, r, Builtin.len_, run_underlying hu, goInt], by simp [VRel]⟩
      · rename_i n _ _ hv
        simp only [Option.some.injEq] at h; subst h
        have r := hT.ev hy hv
        simp only [VRel] at r
        obtain ⟨l, ad, c, _, hr, _⟩ := r
        exact fun w => ⟨.int .i64 n, by simp [execOp, resolve, invoke, builtin, hr, Builtin.len_, run_underlying hu, goInt], by simp [VRel]⟩
      · cases h
    · rename_i hu
      simp only [Option.map_eq_some_iff] at hc
      obtain ⟨y, hy, rfl⟩ := hc
      simp only [aPure] at h
      split at h
      · rename_i l hv
        simp only [Option.some.injEq] at h; subst h
        have r := hT.ev hy hv
        simp only [VRel] at r
        obtain ⟨s, hs, hs'⟩ := r
        have hl : l.length = s.size := by rw [← hs']; exact strNats_length s
        exact fun w => ⟨.int .i64 s.size, by simp [execOp, resolve, invoke, builtin, hs, Builtin.len_, run_underlying hu, goInt], by simp [VRel, hl]⟩
      · cases h
    · cases hc
  | fieldAddr s x n =>
    simp only [cPure] at hc
    split at hc <;> (try simp only [reduceCtorEq] at hc)
    rename_i fs hu
    split at hc <;> (try simp only [reduceCtorEq] at hc)
    rename_i f hf
    split at hc <;> (try simp only [Option.map_eq_some_iff, reduceCtorEq] at hc)
    rename_i sz hsz
    obtain ⟨y, hy, rfl⟩ := hc
    simp only [aPure] at h
    split at h <;> (try simp only [Option.some.injEq, reduceCtorEq] at h)
    rename_i i o' hv
    subst h
    have r := hT.ev hy hv
    simp only [VRel] at r
    obtain ⟨l, hl, hr⟩ := r
    refine Gives.of (u := .pointer (some ⟨l.b, l.d + o' + f.offset, none⟩)) (fun w => ?_) (by simp only [VRel]; exact ⟨l, hl, by rw [Nat.add_assoc]⟩)
    simp only [Instr.fieldAt, hr, Sem.run_bind, run_underlying hu, Result.andThen_ok, hf, Instr.sureAddr, Sem.run_pure, fieldPlace, run_sizeOf? hsz]
    simp [Addr.add_lit]
  | field s x n =>
    simp only [cPure] at hc
    split at hc <;> (try simp only [reduceCtorEq] at hc)
    rename_i fs hu
    split at hc <;> (try simp only [reduceCtorEq] at hc)
    rename_i f hf
    split at hc <;> (try simp only [Option.map_eq_some_iff, reduceCtorEq] at hc)
    rename_i b sz hb hsz
    obtain ⟨y, hy, rfl⟩ := hc
    simp only [aPure] at h
    split at h <;> (try simp only [reduceCtorEq] at h)
    rename_i cs hv
    have r := hT.ev hy hv
    simp only [VRel] at r
    obtain ⟨us, hr, r2, r3⟩ := r
    cases b
    · simp only [Bool.false_eq_true, if_false] at h
      obtain ⟨u, hu1, hu2⟩ := r2.get _ _ h
      refine Gives.of (u := u) (fun w => ?_) hu2
      have hu1' : us[f.offset]? = some u := by simpa using hu1
      simp [Instr.field, hr, run_underlying hu, hf, asAgg, part, run_isAgg_of hb, hu1']
    · simp only [if_true] at h
      split at h <;> (try simp only [Option.some.injEq, reduceCtorEq] at h)
      subst h
      refine Gives.of (u := .agg (us.extract f.offset (f.offset + sz))) (fun w => ?_) ?_
      · simp [Instr.field, hr, run_underlying hu, hf, asAgg, part, run_isAgg_of hb, run_sizeOf? hsz]
      · simp only [VRel]
        refine ⟨_, rfl, ?_, fun u hu => ?_⟩
        · have := (r2.drop f.offset).take sz
          simpa [Array.toList_extract, List.extract_eq_take_drop] using this
        · simp only [Array.toList_extract, List.extract_eq_take_drop] at hu
          exact r3 u (List.mem_of_mem_drop (List.mem_of_mem_take hu))
  | indexAddr t x i =>
    simp only [cPure] at hc
    split at hc <;> (try simp only [reduceCtorEq] at hc)
    rename_i e hu
    split at hc <;> (try simp only [Option.some.injEq, reduceCtorEq] at hc)
    rename_i sz x' i' hsz hx hi
    subst hc
    simp only [aPure] at h
    split at h <;> (try simp only [reduceCtorEq] at h)
    rename_i id o' n k es' kk j hv hj
    have hb : j < n := by
      cases hc : Nat.blt j n with
      | false => rw [hc] at h; simp at h
      | true => simpa [Nat.blt_eq] using hc
    rw [show Nat.blt j n = true by simpa [Nat.blt_eq] using hb] at h
    simp only [cond_true, Option.some.injEq] at h
    subst h
    have r := hT.ev hx hv
    simp only [VRel] at r
    obtain ⟨l, ad, c, hl, hr, hnc, _, _, had⟩ := r
    have rj := hT.ev hi hj
    rw [VRel.int] at rj
    have had' := had (by omega)
    subst had'
    refine Gives.of (u := .pointer (some ⟨l.b, l.d + o' + j * sz, none⟩)) (fun w => ?_) (by simp only [VRel]; exact ⟨l, hl, by rw [Nat.add_assoc]⟩)
    simp [Instr.indexAt, hr, rj, asIntOf, run_underlying hu, run_sizeOf? hsz, hb, Addr.add_lit]
  | index t x i =>
    simp only [cPure] at hc
    split at hc <;> (try simp only [reduceCtorEq] at hc)
    rename_i hu
    split at hc <;> (try simp only [Option.some.injEq, reduceCtorEq] at hc)
    rename_i x' i' hx hi
    subst hc
    simp only [aPure] at h
    split at h <;> (try simp only [reduceCtorEq] at h)
    rename_i l kk j hv hj
    split at h <;> (try simp only [Option.some.injEq, reduceCtorEq] at h)
    rename_i ch hch
    subst h
    have r := hT.ev hx hv
    simp only [VRel] at r
    obtain ⟨s, hs, hs'⟩ := r
    have rj := hT.ev hi hj
    rw [VRel.int] at rj
    subst hs'
    rw [List.getElem?_map, Option.map_eq_some_iff] at hch
    obtain ⟨b, hb1, hb2⟩ := hch
    have hb3 : s[j]? = some b := by
      have hlt : j < s.data.toList.length := (List.getElem?_eq_some_iff.1 hb1).1
      have hlt' : j < s.size := by simpa using hlt
      rw [getElem?_pos s j hlt']
      have := (List.getElem?_eq_some_iff.1 hb1).2
      simpa [ByteArray.getElem_eq_getElem_data] using this
    refine Gives.of (u := .int .u8 (b.toNat : Int)) (fun w => ?_) (by simp [VRel, hb2])
    simp [Instr.index, hs, rj, asIntOf, run_underlying hu, hb3]
  | slice t x lo hi mx =>
    simp only [cPure] at hc
    split at hc
    · rename_i hu
      split at hc <;> (try simp only [Option.some.injEq, reduceCtorEq] at hc)
      rename_i x' lo' hi' hx hlo hhi
      subst hc
      simp only [aPure] at h
      split at h <;> (try simp only [reduceCtorEq] at h)
      rename_i xv lov hiv hxv hlov hhiv
      have r := hT.ev hx hxv
      unfold aSlcS at h
      split at h <;> (try simp only [reduceCtorEq] at h)
      rename_i l
      split at h <;> (try simp only [reduceCtorEq] at h)
      rename_i hh hbh
      split at h <;> (try simp only [Option.some.injEq, reduceCtorEq] at h)
      rename_i la hbl
      subst h
      simp only [VRel] at r
      obtain ⟨s, hs, rfl⟩ := r
      have e1 := opt_bound hT hlo hlov
      have e2 := opt_bound hT hhi hhiv
      have b2 := aBound_rel (x := hi.map a.eval) (v := hiv) e2 hbh
      have b1 := aBound_rel (x := lo.map a.eval) (v := lov) e1 hbl
      refine Gives.of (u := .string (s.extract la hh)) (fun w => ?_) (by simp only [VRel]; exact ⟨_, rfl, strNats_extract s la hh⟩)
      have hlen : (s.data.toList.map UInt8.toNat).length = s.size := strNats_length s
      rw [hlen] at b2
      have := run_sliceBounds (P := P) (w := w) false (len := s.size) (cap := s.size) (mx := none) (.inl ⟨rfl, rfl⟩) (by rcases b2 with ⟨q1, q2⟩ | q; exact .inl ⟨q1, q2, rfl⟩; exact .inr q) b1
      simp [Instr.sliceAt, Instr.slice, hs, run_underlying hu, this]
    · rename_i e hu
      split at hc <;> (try simp only [Option.some.injEq, reduceCtorEq] at hc)
      rename_i es x' lo' hi' mx' hes hx hlo hhi hmx
      subst hc
      simp only [aPure] at h
      split at h <;> (try simp only [reduceCtorEq] at h)
      rename_i xv lov hiv mxv hxv hlov hhiv hmxv
      have r := hT.ev hx hxv
      have e1 := opt_bound hT hlo hlov
      have e2 := opt_bound hT hhi hhiv
      have e3 := opt_bound hT hmx hmxv
      have fin : ∀ {u : Value}, (∀ w, (Instr.slice t (a.eval x) (lo.map a.eval) (hi.map a.eval) (mx.map a.eval)).run P w = .ok u w) → VRel θ v u →
          Gives P (execOp a.eval { dst := dst, op := .slice t x lo hi mx, type := ty, pos := pos, after := aft, guard := gd }) θ v := by
        intro u hr hv
        refine Gives.of (u := u) (fun w => ?_) hv
        simp [Instr.sliceAt, run_underlying hu, hr]
      unfold aSlc at h
      split at h <;> (try simp only [reduceCtorEq] at h)
      · simp only [VRel] at r
        split at h <;> (try simp only [reduceCtorEq] at h)
        rename_i m' h' l' hm' hh' hl'
        split at h <;> (try simp only [Option.some.injEq, reduceCtorEq] at h)
        rename_i hno
        subst h
        have b3 := aBound_rel e3 hm'
        have b2 := aBound_rel e2 hh'
        have b1 := aBound_rel e1 hl'
        have q : (Instr.sliceBounds true 0 0 (lo.map a.eval) (hi.map a.eval) (mx.map a.eval)).run P = fun w => .ok (0, 0, 0) w := by
          funext w
          have hm0 : m' = 0 := by rcases b3 with ⟨_, q⟩ | ⟨_, q⟩ <;> omega
          have hh0 : h' = 0 := by rcases b2 with ⟨_, q⟩ | ⟨_, q⟩ <;> omega
          have hl0 : l' = 0 := by rcases b1 with ⟨_, q⟩ | ⟨_, q⟩ <;> omega
          subst hm0 hh0 hl0
          refine run_sliceBounds true b3 ?_ b1
          rcases b2 with ⟨q1, q2⟩ | q
          · refine .inl ⟨q1, q2, ?_⟩
            rcases e3 with ⟨z1, z2⟩ | ⟨p3, q3, z1, z2, _⟩
            · exact z1
            · exfalso
              rcases e2 with ⟨y1, y2⟩ | ⟨p2, q2', y1, y2, _⟩
              · simp [z2, y2] at hno
              · rw [y1] at q1; cases q1
          · exact .inr q
        refine fin (u := .slice none 0 0) (fun w => ?_) (by simp [VRel])
        simp [Instr.slice, r, run_underlying hu, q, run_sizeOf? hes]
      · rename_i id o' n k e'
        split at h <;> (try simp only [reduceCtorEq] at h)
        rename_i hee
        subst hee
        simp only [VRel] at r
        obtain ⟨l, ad, c, hl, hr, hnc, hsz, hk, had⟩ := r
        split at h <;> (try simp only [reduceCtorEq] at h)
        rename_i m? m hm
        split at h <;> (try simp only [reduceCtorEq] at h)
        rename_i hh hbh
        split at h <;> (try simp only [reduceCtorEq] at h)
        rename_i la hbl
        split at h <;> (try simp only [Option.some.injEq, reduceCtorEq] at h)
        rename_i hno
        subst h
        have b2 := aBound_rel e2 hbh
        have b1 := aBound_rel e1 hbl
        have hmx0 : hi.map a.eval = none → mx.map a.eval = none := by
          intro q1
          rcases e3 with ⟨z1, z2⟩ | ⟨p3, q3, z1, z2, _⟩
          · exact z1
          · exfalso
            rcases e2 with ⟨y1, y2⟩ | ⟨p2, q2', y1, y2, _⟩
            · simp [z2, y2] at hno
            · rw [y1] at q1; cases q1
        have hM : ∃ M, (((mx.map a.eval) = none ∧ M = c) ∨ (∃ k, (mx.map a.eval) = some (.int k M)) ∧ M ≤ c) ∧ (∀ m', m = some m' → M = m') ∧ m.getD n ≤ M := by
          cases k with
          | some kk =>
            simp only [Option.map_eq_some_iff] at hm
            obtain ⟨mm, hmm, rfl⟩ := hm
            have hck := hk kk rfl
            subst hck
            have b3 := aBound_rel e3 hmm
            refine ⟨mm, b3, fun m' hm' => Option.some.inj hm', Nat.le_refl _⟩
          | none =>
            cases mxv with
            | none =>
              simp only [Option.some.injEq] at hm
              subst hm
              rcases e3 with ⟨z1, z2⟩ | ⟨p3, q3, z1, z2, _⟩
              · exact ⟨c, .inl ⟨z1, rfl⟩, (fun m' hm' => nomatch hm'), hnc⟩
              · cases z2
            | some q =>
              simp only [Option.map_eq_some_iff] at hm
              obtain ⟨mm, hmm, rfl⟩ := hm
              have b3 := aBound_rel e3 hmm
              rcases b3 with ⟨z1, _⟩ | ⟨z1, z2⟩
              · rcases e3 with ⟨y1, y2⟩ | ⟨p3, q3, y1, y2, _⟩
                · cases y2
                · rw [y1] at z1; cases z1
              · exact ⟨mm, .inr ⟨z1, Nat.le_trans z2 hnc⟩, fun m' hm' => Option.some.inj hm', Nat.le_refl _⟩
        obtain ⟨M, hM1, hM2, hM3⟩ := hM
        have hMc : M ≤ c := by rcases hM1 with ⟨_, q⟩ | ⟨_, q⟩ <;> omega
        have hhM : hh ≤ M := by
          rcases b2 with ⟨q1, q2⟩ | ⟨_, q⟩
          · have z1 := hmx0 q1
            rcases hM1 with ⟨_, q⟩ | ⟨⟨k', q⟩, _⟩
            · omega
            · rw [z1] at q; cases q
          · omega
        have hlh : la ≤ hh := by rcases b1 with ⟨_, q⟩ | ⟨_, q⟩ <;> omega
        have q : ∀ w, (Instr.sliceBounds true n c (lo.map a.eval) (hi.map a.eval) (mx.map a.eval)).run P w = .ok (la, hh, M) w := by
          intro w
          refine run_sliceBounds true hM1 ?_ b1
          rcases b2 with ⟨q1, q2⟩ | ⟨q1, q2⟩
          · exact .inl ⟨q1, q2, hmx0 q1⟩
          · exact .inr ⟨q1, hhM⟩
        refine fin (u := .slice (if M = la then some ad else some (ad.add (la * e'))) (hh - la) (M - la)) (fun w => ?_) ?_
        · simp [Instr.slice, hr, run_underlying hu, q, run_sizeOf? hes]
        · simp only [VRel]
          refine ⟨l, if M = la then ad else ad.add (la * e'), M - la, hl, by split <;> rfl, by omega, ?_, ?_, ?_⟩
          · have h1 : la * e' + (M - la) * e' = M * e' := by rw [← Nat.add_mul]; congr 1; omega
            have h2 : M * e' ≤ c * e' := Nat.mul_le_mul_right _ hMc
            omega
          · intro k' hk'
            simp only [Option.map_eq_some_iff] at hk'
            obtain ⟨m', hm', rfl⟩ := hk'
            rw [hM2 m' hm']
          · intro hpos
            rw [if_neg (by omega)]
            have := had (by omega)
            subst this
            simp [Addr.add_lit, Nat.add_assoc]
    · cases hc
  | extract x n =>
    simp only [cPure, Option.map_eq_some_iff] at hc
    obtain ⟨y, hy, rfl⟩ := hc
    simp only [aPure] at h
    split at h <;> (try simp only [reduceCtorEq] at h)
    rename_i vs hv
    have r := hT.ev hy hv
    simp only [VRel] at r
    obtain ⟨us, hr, r2⟩ := r
    obtain ⟨u, hu1, hu2⟩ := r2.get _ _ h
    have hu1' : us[n]? = some u := by simpa using hu1
    refine Gives.of (u := u) (fun w => ?_) hu2
    simp [Instr.extract, hr, hu1']
  | _ => simp [cPure] at hc

end
end AM
end Go.Proofs.YtlgbgbngdhhjaaaGreatDoor

set_option linter.unusedSimpArgs false
set_option linter.unusedVariables false
namespace Go.Proofs.YtlgbgbngdhhjaaaGreatDoor
namespace AM
noncomputable section
open Go

/-! ### Cells -/
theorem WRel.cellAt {K : Kept} {θ : Th} {H : Heap} {w : World} (h : WRel K θ H w) {i : Nat} {l : Loc} (hi : θ i = some l) {cs : List AVal} {own : Bool} (hg : H.get i = some (.row cs own)) {j : Nat} {x : AVal} (hx : cs[j]? = some x) :
    ∃ u, w.cell? ⟨l.b, l.d + j, none⟩ = some u ∧ VRel θ x u ∧ u.oneCell' = true := by
  obtain ⟨_, h2⟩ := h.obj i l hi
  obtain ⟨c, hc, c', e, fr, rfl, _, _, h5, _⟩ := h2 _ hg
  obtain ⟨u, g1, g2, g3⟩ := h5 j x hx
  exact ⟨u, by simp [World.cell?, hc, g1], g2, g3⟩

theorem WRel.cellsOf {K : Kept} {θ : Th} {H : Heap} {w : World} (h : WRel K θ H w) {i : Nat} {l : Loc} (hi : θ i = some l) {cs : List AVal} {own : Bool} (hg : H.get i = some (.row cs own)) {o n : Nat} (hn : o + n ≤ cs.length) :
    ∃ us : List Value, us.length = n ∧ (∀ (j : Nat) (v : Value), us[j]? = some v → w.cell? ((⟨l.b, l.d + o, none⟩ : Addr).add j) = some v) ∧ VRels θ ((cs.drop o).take n) us ∧ ∀ u ∈ us, u.oneCell' = true := by
  obtain ⟨_, h2⟩ := h.obj i l hi
  obtain ⟨c, hc, c', e, fr, rfl, hsz, hlen, h5, _⟩ := h2 _ hg
  refine ⟨(c'.toList.drop (l.d + o)).take n, by simp; omega, fun j v hv => ?_, ?_, ?_⟩
  · rw [List.getElem?_take] at hv
    split at hv
    · rw [List.getElem?_drop] at hv
      simp [World.cell?, hc, Addr.add_lit]
      simpa using hv
    · cases hv
  · refine VRels.of_get (by simp; omega) fun j x hx => ?_
    rw [List.getElem?_take] at hx ⊢
    split at hx
    · rename_i hj
      rw [if_pos hj]
      rw [List.getElem?_drop] at hx ⊢
      obtain ⟨u, g1, g2, _⟩ := h5 _ x hx
      refine ⟨u, ?_, g2⟩
      rw [← g1]
      simp [Nat.add_assoc]
    · cases hx
  · intro u hu
    obtain ⟨j, hj⟩ := List.mem_iff_getElem?.1 hu
    rw [List.getElem?_take] at hj
    split at hj
    · rename_i hjn
      rw [List.getElem?_drop] at hj
      have hlt : o + j < cs.length := by omega
      obtain ⟨u', g1, _, g3⟩ := h5 (o + j) _ (List.getElem?_eq_getElem hlt)
      have : c'.toList[l.d + o + j]? = some u' := by rw [← g1]; simp [Nat.add_assoc]
      rw [hj] at this
      obtain rfl := Option.some.inj this
      exact g3
    · cases hj

theorem WRel.cellsAt {K : Kept} {θ : Th} {H : Heap} {w : World} (h : WRel K θ H w) {i : Nat} {l : Loc} (hi : θ i = some l) {cs : List AVal} {own : Bool} (hg : H.get i = some (.row cs own)) {o n : Nat} (hn : o + n ≤ cs.length) (P : Program) :
    ∃ us : List Value, us.length = n ∧ (loadCells ⟨l.b, l.d + o, none⟩ n).run P w = .ok us.toArray w ∧ VRels θ ((cs.drop o).take n) us ∧ ∀ u ∈ us, u.oneCell' = true := by
  obtain ⟨us, h1, h2, h3, h4⟩ := h.cellsOf hi hg hn
  have := run_loadCells_list (P := P) w ⟨l.b, l.d + o, none⟩ us h2
  rw [h1] at this
  exact ⟨us, h1, this, h3, h4⟩

/-! ### Keys -/
def isPart (P : Program) (t : TypeId) : Bool :=
  match P.underlying t with
  | some (.struct fs) => match fs.toList with
    | [a, b, c] => (a.name != "_") && (b.name != "_") && (c.name != "_") && a.offset == 0 && b.offset == 1 && c.offset == 2 &&
        (match P.underlying a.type with | some (.int _) => true | _ => false) && (match P.underlying b.type with | some (.int _) => true | _ => false) && (match P.underlying c.type with | some .bool => true | _ => false) && !P.stoodInHeld t
    | _ => false
  | _ => false

theorem isPart_spec {P : Program} {t : TypeId} (h : isPart P t = true) : ∃ a b c ka kb, P.underlying t = some (.struct #[a, b, c]) ∧ a.name ≠ "_" ∧ b.name ≠ "_" ∧ c.name ≠ "_" ∧ a.offset = 0 ∧ b.offset = 1 ∧ c.offset = 2 ∧
    P.underlying a.type = some (.int ka) ∧ P.underlying b.type = some (.int kb) ∧ P.underlying c.type = some .bool ∧ P.stoodInHeld t = false := by
  unfold isPart at h
  split at h
  · rename_i fs hu
    split at h
    · rename_i a b c hl
      have hfs : fs = #[a, b, c] := by rw [← Array.toArray_toList (xs := fs), hl]
      subst hfs
      simp only [Bool.and_eq_true, bne_iff_ne, beq_iff_eq, Bool.not_eq_true'] at h
      obtain ⟨⟨⟨⟨⟨⟨⟨⟨⟨h1, h2⟩, h3⟩, h4⟩, h5⟩, h6⟩, h7⟩, h8⟩, h9⟩, h10⟩ := h
      split at h7 <;> (try cases h7)
      rename_i ka hka
      split at h8 <;> (try cases h8)
      rename_i kb hkb
      split at h9 <;> (try cases h9)
      rename_i hc
      exact ⟨a, b, c, ka, kb, hu, h1, h2, h3, h4, h5, h6, hka, hkb, hc, h10⟩
    · cases h
  · cases h

def keyKOf (P : Program) (t : TypeId) : Option KeyK :=
  match P.underlying t with
  | some (.int k) => some (.int k)
  | some .string => some .str
  | some (.struct _) => if isPart P t then some .part else none
  | _ => none

def aEqInt : AVal → AVal → Option Bool
  | .i k a, .i k' b => if k = k' then some (a == b) else none
  | _, _ => none
def aEqStr : AVal → AVal → Option Bool
  | .s a, .s b => some (a == b)
  | _, _ => none
def aEqPart : AVal → AVal → Option Bool
  | .agg [.i k a, .i l b, .b c], .agg [.i k' a', .i l' b', .b c'] => if k = k' ∧ l = l' then some (a == a' && b == b' && c == c') else none
  | _, _ => none
def aKeyEq (kk : KeyK) (x y : AVal) : Option Bool :=
  match kk with
  | .int _ => aEqInt x y
  | .str => aEqStr x y
  | .part => aEqPart x y

def isIntV : AVal → Bool
  | .i _ _ => true
  | _ => false
def isStrV : AVal → Bool
  | .s _ => true
  | _ => false
def isPartV : AVal → Bool
  | .agg [.i _ _, .i _ _, .b _] => true
  | _ => false
/-- Is it a key of its kind? -/
def aKeyOk (kk : KeyK) (x : AVal) : Bool :=
  match kk with
  | .int _ => isIntV x
  | .str => isStrV x
  | .part => isPartV x

def aFind (kk : KeyK) (k : AVal) : List (AVal × AVal) → Nat → Option (Option (Nat × AVal))
  | [], _ => some none
  | e :: es, n => match aKeyEq kk k e.1 with
    | some true => some (some (n, e.2))
    | some false => aFind kk k es (n + 1)
    | none => none

theorem VRel.part {θ : Th} {k l : IntKind} {a b : Int} {c : Bool} {u : Value} (h : VRel θ (.agg [.i k a, .i l b, .b c]) u) : u = .agg #[.int k a, .int l b, .bool c] := by
  simp only [VRel, VRels] at h
  obtain ⟨us, rfl, ⟨u1, r1, h1, rfl, u2, r2, rfl, rfl, u3, r3, rfl, rfl, rfl⟩, _⟩ := h
  congr 1
  rw [← Array.toArray_toList (xs := us), h1]

theorem run_eq_part {P : Program} {t : TypeId} (hp : isPart P t = true) (k l : IntKind) (a a' b b' : Int) (c c' : Bool) (d : Nat) (w : World) :
    (Op.equalIn (d + 2) t (.agg #[.int k a, .int l b, .bool c]) (.agg #[.int k a', .int l b', .bool c'])).run P w = .ok (a == a' && b == b' && c == c') w := by
  obtain ⟨fa, fb, fc, ka, kb, hu, n1, n2, n3, o1, o2, o3, ta, tb, tc, hs⟩ := isPart_spec hp
  have hf : P.fieldsOf t = #[fa, fb, fc] := by simp [Program.fieldsOf, hu]
  rw [run_equalIn_struct w (d + 1) t _ _ (by rw [hf]; exact hu) hs, hf]
  have aga : aggOf P fa.type = some false := by simp [aggOf, ta]
  have agb : aggOf P fb.type = some false := by simp [aggOf, tb]
  have agc : aggOf P fc.type = some false := by simp [aggOf, tc]
  have e1 := fun w => run_equalIn_int w d fa.type k ka a a' ta
  have e2 := fun w => run_equalIn_int w d fb.type l kb b b' tb
  have e3 := fun w => run_equalIn_bool' w d fc.type c c' tc
  cases h1 : (a == a') <;> cases h2 : (b == b') <;> cases h3 : (c == c') <;>
    simp [Op.eqFields, n1, n2, n3, o1, o2, o3, part, run_isAgg_of aga, run_isAgg_of agb, run_isAgg_of agc, e1, e2, e3, h1, h2, h3]

theorem run_checkKey_of {P : Program} {t : TypeId} {kk : KeyK} (hk : keyKOf P t = some kk) {x : AVal} (hx : aKeyOk kk x = true) {θ : Th} {u : Value} (hu : VRel θ x u) (e : Bool) (d : Nat) (w : World) :
    (Instr.checkKey e (d + 2) t u).run P w = .ok () w := by
  unfold keyKOf at hk
  split at hk
  · rename_i k ht
    simp only [Option.some.injEq] at hk; subst hk
    cases x <;> simp [aKeyOk, isIntV] at hx
    rw [VRel.int] at hu; subst hu
    simp [Instr.checkKey, run_underlying ht]
  · rename_i ht
    simp only [Option.some.injEq] at hk; subst hk
    cases x <;> simp [aKeyOk, isStrV] at hx
    simp only [VRel] at hu
    obtain ⟨s, rfl, _⟩ := hu
    simp [Instr.checkKey, run_underlying ht]
  · rename_i fs ht
    split at hk <;> (try simp only [Option.some.injEq, reduceCtorEq] at hk)
    rename_i hp
    subst hk
    simp only [aKeyOk] at hx
    unfold isPartV at hx
    split at hx <;> (try cases hx)
    have := hu.part
    subst this
    obtain ⟨fa, fb, fc, ka, kb, hu, n1, n2, n3, o1, o2, o3, ta, tb, tc, hs⟩ := isPart_spec hp
    have aga : aggOf P fa.type = some false := by simp [aggOf, ta]
    have agb : aggOf P fb.type = some false := by simp [aggOf, tb]
    have agc : aggOf P fc.type = some false := by simp [aggOf, tc]
    have ca : ∀ k n, (Instr.checkKey e (d + 1) fa.type (.int k n)).run P w = .ok () w := fun k n => by simp [Instr.checkKey, run_underlying ta]
    have cb : ∀ k n, (Instr.checkKey e (d + 1) fb.type (.int k n)).run P w = .ok () w := fun k n => by simp [Instr.checkKey, run_underlying tb]
    have cc : ∀ n, (Instr.checkKey e (d + 1) fc.type (.bool n)).run P w = .ok () w := fun n => by simp [Instr.checkKey, run_underlying tc]
    rw [Instr.checkKey]
    simp [run_underlying hu, n1, n2, n3, o1, o2, o3, part, run_isAgg_of aga, run_isAgg_of agb, run_isAgg_of agc, ca, cb, cc]
  · cases hk

def FRel (θ : Th) : Option (Nat × AVal) → Option (Nat × Value) → Prop
  | none, r => r = none
  | some (i, v), r => ∃ u, r = some (i, u) ∧ VRel θ v u

/-- What is looked for is found alike. -/
theorem findKey_sound {P : Program} {t : TypeId} {kk : KeyK} (hk : keyKOf P t = some kk) {θ : Th} {x : AVal} {u : Value} (hu : VRel θ x u) (w : World) : ∀ {es : List (AVal × AVal)} {ms : List MapEntry}, ERels θ es ms → ∀ {r : Option (Nat × AVal)}, aFind kk x es 0 = some r →
    ∃ r', (Instr.findKey t u ms).run P w = .ok r' w ∧ FRel θ r r' := by
  unfold keyKOf at hk
  split at hk
  · rename_i k ht
    simp only [Option.some.injEq] at hk; subst hk
    have key : ∀ (es : List (AVal × AVal)) (ms : List MapEntry) (n : Nat), ERels θ es ms → ∀ r, aFind (.int k) x es n = some r → ∃ r', Instr.findNow (.int k) u ms n = some r' ∧ FRel θ r r' := by
      intro es
      induction es with
      | nil =>
        intro ms n he r hr
        simp only [ERels] at he; subst he
        simp only [aFind, Option.some.injEq] at hr; subst hr
        exact ⟨none, rfl, rfl⟩
      | cons e es ih =>
        intro ms n he r hr
        simp only [ERels] at he
        obtain ⟨m, ms, rfl, h1, h2, h3⟩ := he
        simp only [aFind] at hr
        have hsame : ∀ b, aKeyEq (.int k) x e.1 = some b → Instr.sameNow (.int k) u m.key = some b := by
          intro b hb
          simp only [aKeyEq] at hb
          unfold aEqInt at hb
          split at hb <;> (try simp only [reduceCtorEq] at hb)
          rename_i hx he1
          rw [he1, VRel.int] at h1
          rw [VRel.int] at hu
          split at hb <;> (try simp only [Option.some.injEq, reduceCtorEq] at hb)
          rename_i hkk; subst hkk
          rw [hu, h1]; simp [Instr.sameNow, hb]
        split at hr
        · rename_i hb
          simp only [Option.some.injEq] at hr; subst hr
          exact ⟨some (n, m.val), by simp [Instr.findNow, hsame _ hb], m.val, rfl, h2⟩
        · rename_i hb
          obtain ⟨r', g1, g2⟩ := ih ms (n + 1) h3 r hr
          exact ⟨r', by simp [Instr.findNow, hsame _ hb, g1], g2⟩
        · cases hr
    intro es ms he r hr
    obtain ⟨r', g1, g2⟩ := key es ms 0 he r hr
    exact ⟨r', by simp [Instr.findKey, run_underlying ht, g1], g2⟩
  · rename_i ht
    simp only [Option.some.injEq] at hk; subst hk
    have key : ∀ (es : List (AVal × AVal)) (ms : List MapEntry) (n : Nat), ERels θ es ms → ∀ r, aFind .str x es n = some r → ∃ r', Instr.findNow .string u ms n = some r' ∧ FRel θ r r' := by
      intro es
      induction es with
      | nil =>
        intro ms n he r hr
        simp only [ERels] at he; subst he
        simp only [aFind, Option.some.injEq] at hr; subst hr
        exact ⟨none, rfl, rfl⟩
      | cons e es ih =>
        intro ms n he r hr
        simp only [ERels] at he
        obtain ⟨m, ms, rfl, h1, h2, h3⟩ := he
        simp only [aFind] at hr
        have hsame : ∀ b, aKeyEq .str x e.1 = some b → Instr.sameNow .string u m.key = some b := by
          intro b hb
          simp only [aKeyEq] at hb
          unfold aEqStr at hb
          split at hb <;> (try simp only [reduceCtorEq] at hb)
          rename_i hx he1
          simp only [Option.some.injEq] at hb
          rw [he1] at h1
          simp only [VRel] at h1 hu
          obtain ⟨s1, e1, rfl⟩ := hu
          obtain ⟨s2, e2, rfl⟩ := h1
          rw [e1, e2]
          rw [← hb]
          simp only [Instr.sameNow]
          rw [beq_map, beq_toListBytes, ByteArray.toList_eq, ByteArray.toList_eq]
        split at hr
        · rename_i hb
          simp only [Option.some.injEq] at hr; subst hr
          exact ⟨some (n, m.val), by simp [Instr.findNow, hsame _ hb], m.val, rfl, h2⟩
        · rename_i hb
          obtain ⟨r', g1, g2⟩ := ih ms (n + 1) h3 r hr
          exact ⟨r', by simp [Instr.findNow, hsame _ hb, g1], g2⟩
        · cases hr
    intro es ms he r hr
    obtain ⟨r', g1, g2⟩ := key es ms 0 he r hr
    exact ⟨r', by simp [Instr.findKey, run_underlying ht, g1], g2⟩
  · rename_i fs ht
    split at hk <;> (try simp only [Option.some.injEq, reduceCtorEq] at hk)
    rename_i hp
    subst hk
    have key : ∀ (es : List (AVal × AVal)) (ms : List MapEntry) (n : Nat), ERels θ es ms → ∀ r, aFind .part x es n = some r → ∃ r', (Instr.findAsking t u ms n).run P w = .ok r' w ∧ FRel θ r r' := by
      intro es
      induction es with
      | nil =>
        intro ms n he r hr
        simp only [ERels] at he; subst he
        simp only [aFind, Option.some.injEq] at hr; subst hr
        exact ⟨none, rfl, rfl⟩
      | cons e es ih =>
        intro ms n he r hr
        simp only [ERels] at he
        obtain ⟨m, ms, rfl, h1, h2, h3⟩ := he
        simp only [aFind] at hr
        have hsame : ∀ b, aKeyEq .part x e.1 = some b → (Op.equal t u m.key).run P w = .ok b w := by
          intro b hb
          simp only [aKeyEq] at hb
          unfold aEqPart at hb
          split at hb <;> (try simp only [reduceCtorEq] at hb)
          rename_i hx he1
          rw [he1] at h1
          split at hb <;> (try simp only [Option.some.injEq, reduceCtorEq] at hb)
          rename_i hkk
          obtain ⟨rfl, rfl⟩ := hkk
          rw [hu.part, h1.part, ← hb]
          exact run_eq_part hp _ _ _ _ _ _ _ _ 9998 w
        split at hr
        · rename_i hb
          simp only [Option.some.injEq] at hr; subst hr
          exact ⟨some (n, m.val), by simp [Instr.findAsking, hsame _ hb], m.val, rfl, h2⟩
        · rename_i hb
          obtain ⟨r', g1, g2⟩ := ih ms (n + 1) h3 r hr
          exact ⟨r', by simp [Instr.findAsking, hsame _ hb, g1], g2⟩
        · cases hr
    intro es ms he r hr
    obtain ⟨r', g1, g2⟩ := key es ms 0 he r hr
    cases ms with
    | nil =>
      refine ⟨r', ?_, g2⟩
      simp [Instr.findKey, run_underlying ht, Instr.findNow]
      simpa [Instr.findAsking] using g1
    | cons m ms =>
      refine ⟨r', ?_, g2⟩
      simp only [Instr.findKey, Sem.run_bind, run_underlying ht, Result.andThen_ok, Instr.findNow, Instr.sameNow]
      exact g1
  · cases hk

/-! ### Reading -/
def bytesOfCells : List AVal → Option (List Nat)
  | [] => some []
  | .i .u8 n :: r => if 0 ≤ n ∧ n < 256 then (bytesOfCells r).map fun l => n.toNat :: l else none
  | _ :: _ => none

def aLoad (H : Heap) (v : AVal) (n : Nat) (agg : Bool) : Option AVal :=
  match v with
  | .p i o => match H.get i with
    | some (.row cs _) => if agg then (if o + n ≤ cs.length then some (.agg ((cs.drop o).take n)) else none) else cs[o]?
    | _ => none
  | _ => none

def aLook (H : Heap) (kk : KeyK) (zero : AVal) (ok : Bool) (m k : AVal) : Option AVal :=
  if aKeyOk kk k then
    match (match m with
      | .nm => some []
      | .m i => (match H.get i with
        | some (.map es) => some es
        | _ => none)
      | _ => none) with
    | none => none
    | some es => match aFind kk k es 0 with
      | none => none
      | some r =>
        let v := match r with | some (_, v) => v | none => zero
        some (if ok then .tup [v, .b r.isSome] else v)
  else none

def aBts (H : Heap) (v : AVal) : Option AVal :=
  match v with
  | .nsl => some (.s [])
  | .sl i o n _ e => if e = 1 then (match H.get i with
    | some (.row cs _) => if o + n ≤ cs.length then (bytesOfCells ((cs.drop o).take n)).map .s else none
    | _ => none) else none
  | _ => none

def aRead (T : Tm) (H : Heap) : AOp → Option AVal
  | .load n agg a => match ev T a with
    | some v => aLoad H v n agg
    | none => none
  | .look kk zero ok m k => match ev T m, ev T k with
    | some m, some k => aLook H kk zero ok m k
    | _, _ => none
  | .bts x => match ev T x with
    | some v => aBts H v
    | none => none
  | .lenM x => match ev T x with
    | some .nm => some (.i .i64 0)
    | some (.m i) => match H.get i with
      | some (.map es) => some (.i .i64 es.length)
      | _ => none
    | _ => none
  | _ => none

def cRead (P : Program) (o : Op) : Option AOp :=
  match o with
  | .load t a => match cOpd a, sizeOf? P t, aggOf P t with
    | some a, some n, some b => some (.load n b a)
    | _, _, _ => none
  | .lookup t m k ok => match cOpd m, cOpd k, P.underlying t with
    | some m, some k, some (.map kt et) => match keyKOf P kt, (zero? P et).bind absC with
      | some kk, some z => some (.look kk z ok m k)
      | _, _ => none
    | _, _, _ => none
  | .convert s d x => match cOpd x, P.underlying s, P.underlying d with
    | some x, some (.slice e), some .string => match P.underlying e with
      | some (.int .u8) => some (.bts x)
      | _ => none
    | _, _, _ => none
  | .call { callee := .builtin .len, args := xs, argTypes := ts } => match xs.toList, ts.toList with
    | [x], [t] => match P.underlying t with
      | some (.map _ _) => (cOpd x).map .lenM
      | _ => none
    | _, _ => none
  | _ => none

theorem bytesOfCells_sound {θ : Th} : ∀ {cs : List AVal} {us : List Value} {l : List Nat}, VRels θ cs us → bytesOfCells cs = some l →
    l.length = us.length ∧ (∀ n ∈ l, n < 256) ∧ ∀ j, j < us.length → us[j]? = some (.int .u8 ((l.map Int.ofNat).getD j 0))
  | [], us, l, h, e => by
    simp [VRels] at h; subst h
    simp [bytesOfCells] at e; subst e
    simp
  | c :: cs, us, l, h, e => by
    unfold bytesOfCells at e
    split at e <;> (try simp only [reduceCtorEq] at e)
    · rename_i he; cases he
    rename_i n r he
    simp only [List.cons.injEq] at he
    obtain ⟨rfl, rfl⟩ := he
    split at e <;> (try simp only [reduceCtorEq] at e)
    rename_i hn
    simp only [Option.map_eq_some_iff] at e
    obtain ⟨l', he, rfl⟩ := e
    simp only [VRels] at h
    obtain ⟨u, us', rfl, h1, h2⟩ := h
    rw [VRel.int] at h1
    subst h1
    obtain ⟨g1, g2, g3⟩ := bytesOfCells_sound h2 he
    refine ⟨by simp [g1], ?_, fun j hj => ?_⟩
    · intro m hm
      rcases List.mem_cons.1 hm with rfl | hm
      · omega
      · exact g2 m hm
    · cases j with
      | zero => simp; omega
      | succ j => simpa using g3 j (by simpa using hj)

theorem strNats_nums (l : List Nat) (h : ∀ n ∈ l, n < 256) : strNats (strOfNums (l.map Int.ofNat)) = l := by
  rw [strNats, strOfNums_data]
  simp only [List.map_map]
  conv => rhs; rw [← List.map_id l]
  refine List.map_congr_left fun n hn => ?_
  have := h n hn
  simp
  omega

theorem ERels.length {θ : Th} : ∀ {es : List (AVal × AVal)} {ms : List MapEntry}, ERels θ es ms → es.length = ms.length
  | [], ms, h => by simp only [ERels] at h; subst h; rfl
  | x :: es, ms, h => by
    simp only [ERels] at h
    obtain ⟨u, us, rfl, _, _, h⟩ := h
    simp [ERels.length h]

/-- What is read is what the model reads. -/
theorem aRead_sound {P : Program} {K : Kept} {θ : Th} {N : Nat} {T : Tm} {H : Heap} {a : Act} {o : Oper} {ao : AOp} {v : AVal} {w : World} (hc : cRead P o.op = some ao) (hT : ARel θ N T a) (hw : WRel K θ H w) (h : aRead T H ao = some v) :
    ∃ u, (execOp a.eval o).run P w = .ok (.value u) w ∧ VRel θ v u := by
  obtain ⟨dst, op, ty, pos, aft, gd⟩ := o
  simp only at hc
  have fin : ∀ {s : Sem Value} {u : Value}, s.run P w = .ok u w → VRel θ v u → ∃ u, (do pure (.value (← s)) : Sem Next).run P w = .ok (.value u) w ∧ VRel θ v u := by
    intro s u hr hv
    exact ⟨u, by rw [Sem.run_bind, hr]; rfl, hv⟩
  cases op with
  | load t x =>
    simp only [cRead] at hc
    split at hc <;> (try simp only [Option.some.injEq, reduceCtorEq] at hc)
    rename_i y n b hy hn hb
    subst hc
    simp only [aRead] at h
    split at h <;> (try simp only [reduceCtorEq] at h)
    rename_i xv hxv
    have r := hT.ev hy hxv
    unfold aLoad at h
    split at h <;> (try simp only [reduceCtorEq] at h)
    rename_i i o'
    simp only [VRel] at r
    obtain ⟨l, hl, hr⟩ := r
    split at h <;> (try simp only [reduceCtorEq] at h)
    rename_i cs own hg
    cases b
    · simp only [Bool.false_eq_true, if_false] at h
      obtain ⟨u, hu, hv, _⟩ := hw.cellAt hl hg h
      refine fin (u := u) ?_ hv
      simp [Instr.loadAt, hr, Instr.sureAddr, loadVar, run_isAgg_of hb, hu]
    · simp only [if_true] at h
      split at h <;> (try simp only [Option.some.injEq, reduceCtorEq] at h)
      rename_i hlen
      subst h
      obtain ⟨us, hul, hrun, hv, h1⟩ := hw.cellsAt hl hg hlen P
      refine fin (u := .agg us.toArray) ?_ (by simp only [VRel]; exact ⟨_, rfl, by simpa using hv, by simpa using h1⟩)
      simp [Instr.loadAt, hr, Instr.sureAddr, loadVar, run_isAgg_of hb, run_sizeOf? hn, hrun]
  | lookup t m k ok =>
    simp only [cRead] at hc
    split at hc <;> (try simp only [reduceCtorEq] at hc)
    rename_i m' k' kt et hm hk hu
    split at hc <;> (try simp only [Option.some.injEq, reduceCtorEq] at hc)
    rename_i kk z hkk hz
    subst hc
    simp only [aRead] at h
    split at h <;> (try simp only [reduceCtorEq] at h)
    rename_i mv kv hmv hkv
    unfold aLook at h
    split at h <;> (try simp only [reduceCtorEq] at h)
    rename_i hok
    split at h <;> (try simp only [reduceCtorEq] at h)
    rename_i es hes
    split at h <;> (try simp only [Option.some.injEq, reduceCtorEq] at h)
    rename_i r hr
    have rm := hT.ev hm hmv
    have rk := hT.ev hk hkv
    simp only [Option.bind_eq_some_iff] at hz
    obtain ⟨zv, hz1, hz2⟩ := hz
    have rz := (absC_rel hz2 θ).1
    have hms : ∃ ms : Array MapEntry, ERels θ es ms.toList ∧ ((a.eval m = .map none ∧ ms = #[]) ∨ ∃ r clk, a.eval m = .map (some r) ∧ w.heap[r]? = some (.map ms clk)) := by
      split at hes <;> (try simp only [Option.some.injEq, reduceCtorEq] at hes)
      · subst hes
        simp only [VRel] at rm
        exact ⟨#[], by simp [ERels], .inl ⟨rm, rfl⟩⟩
      · rename_i i
        simp only [VRel] at rm
        obtain ⟨l, hl, hme⟩ := rm
        split at hes <;> (try simp only [Option.some.injEq, reduceCtorEq] at hes)
        rename_i es' hg
        subst hes
        obtain ⟨_, h2⟩ := hw.obj i l hl
        obtain ⟨c, hc1, ms, clk, rfl, hE⟩ := h2 _ hg
        exact ⟨ms, hE, .inr ⟨l.b, clk, hme, hc1⟩⟩
    obtain ⟨ms, hE, hcase⟩ := hms
    obtain ⟨r', hf, hfr⟩ := findKey_sound hkk rk w hE hr
    have hck := run_checkKey_of hkk hok rk (ms.isEmpty) 9998 w
    have main : (Instr.lookup t (a.eval m) (a.eval k) ok).run P w = .ok (if ok then .tuple #[(match r' with | some (_, v) => v | none => zv), .bool r'.isSome] else (match r' with | some (_, v) => v | none => zv)) w := by
      have hck' : (Instr.checkKey ms.isEmpty 10000 kt (a.eval k)).run P w = .ok () w := hck
      rcases hcase with ⟨he, rfl⟩ | ⟨rr, clk, he, hh⟩
      · simp only [Instr.lookup, he, Sem.run_bind, run_underlying hu, Result.andThen_ok, Sem.run_pure, hck', hf]
        cases r' with
        | none => cases ok <;> simp [run_zero? hz1]
        | some p => cases ok <;> simp
      · have hgo : (getObj rr).run P w = .ok (.map ms clk) w := by simp [getObj, Sem.run, hh]
        simp only [Instr.lookup, he, Sem.run_bind, run_underlying hu, Result.andThen_ok, Sem.run_pure, hgo, hck', hf]
        cases r' with
        | none => cases ok <;> simp [run_zero? hz1]
        | some p => cases ok <;> simp
    refine fin main ?_
    subst h
    cases r with
    | none =>
      simp only [FRel] at hfr; subst hfr
      cases ok
      · exact rz
      · simp only [if_true, VRel]
        exact ⟨_, rfl, VRels.cons rz (VRels.cons (by simp [VRel]) VRels.nil)⟩
    | some p =>
      obtain ⟨i, v⟩ := p
      simp only [FRel] at hfr
      obtain ⟨u, rfl, hv⟩ := hfr
      cases ok
      · exact hv
      · simp only [if_true, VRel]
        exact ⟨_, rfl, VRels.cons hv (VRels.cons (by simp [VRel]) VRels.nil)⟩
  | convert s d x =>
    simp only [cRead] at hc
    split at hc <;> (try simp only [reduceCtorEq] at hc)
    rename_i y e hy hs hd
    split at hc <;> (try simp only [Option.some.injEq, reduceCtorEq] at hc)
    rename_i he
    subst hc
    simp only [aRead] at h
    split at h <;> (try simp only [reduceCtorEq] at h)
    rename_i xv hxv
    have r := hT.ev hy hxv
    unfold aBts at h
    split at h <;> (try simp only [Option.some.injEq, reduceCtorEq] at h)
    · subst h
      simp only [VRel] at r
      refine fin (u := .string ByteArray.empty) ?_ (by simp [VRel])
      rw [r]
      exact run_convert_bytes_nil w s e hs he 0 0 d hd
    · rename_i i o' n k es'
      split at h <;> (try simp only [reduceCtorEq] at h)
      rename_i he1
      subst he1
      split at h <;> (try simp only [reduceCtorEq] at h)
      rename_i cs own hg
      split at h <;> (try simp only [Option.map_eq_some_iff, reduceCtorEq] at h)
      rename_i hlen
      obtain ⟨lst, hb, rfl⟩ := h
      simp only [VRel] at r
      obtain ⟨l, ad, c, hl, hr, hnc, _, _, had⟩ := r
      obtain ⟨us, hul, _, hv, _⟩ := hw.cellsAt hl hg hlen P
      obtain ⟨g1, g2, g3⟩ := bytesOfCells_sound hv hb
      have hstr := strNats_nums lst g2
      refine fin (u := .string (strOfNums (lst.map Int.ofNat))) ?_ (by simp only [VRel]; exact ⟨_, rfl, hstr⟩)
      rw [hr]
      by_cases hn : 0 < n
      · have := had (by omega)
        subst this
        refine run_convert_bytes_arg w s e hs he l.b (l.d + o') n c (lst.map Int.ofNat) (by simp [g1, hul]) (fun j hj => ?_) d hd
        have hx : ((cs.drop o').take n)[j]? = cs[o' + j]? := by rw [List.getElem?_take, if_pos hj, List.getElem?_drop]
        have hlt : o' + j < cs.length := by omega
        obtain ⟨u, hu1, hu2, _⟩ := hw.cellAt hl hg (List.getElem?_eq_getElem hlt)
        obtain ⟨u', hu3, hu4⟩ := hv.get j _ (by rw [hx]; exact List.getElem?_eq_getElem hlt)
        rw [g3 j (by omega)] at hu3
        obtain rfl := Option.some.inj hu3
        have e1 : (⟨l.b, l.d + o' + j, none⟩ : Addr) = ⟨l.b, l.d + (o' + j), none⟩ := by rw [Nat.add_assoc]
        rw [e1, hu1]
        congr 1
        generalize cs[o' + j] = y at hu2 hu4
        cases y <;> simp [VRel] at hu4
        obtain ⟨rfl, hm⟩ := hu4
        rw [VRel.int] at hu2
        rw [hu2, ← hm]
        simp
      · have hn0 : n = 0 := by omega
        subst hn0
        have hl0 : lst = [] := by
          have : lst.length = 0 := by omega
          exact List.eq_nil_of_length_eq_zero this
        subst hl0
        have : ad = ⟨ad.block, ad.off, ad.spot⟩ := rfl
        simp [convert, run_underlying hs, run_underlying hd, run_underlying he, Conv.bytesToString, loadCells, loadCellsFrom, strOfNums]
        rfl
  | call c =>
    obtain ⟨callee, args, ts⟩ := c
    cases callee with
    | value x => simp [cRead] at hc
    | invoke x n => simp [cRead] at hc
    | builtin b =>
      cases b <;> (try (simp [cRead] at hc; done))
      simp only [cRead] at hc
      split at hc <;> (try simp only [reduceCtorEq] at hc)
      rename_i x t hx ht
      split at hc <;> (try simp only [Option.map_eq_some_iff, reduceCtorEq] at hc)
      rename_i kt et hu
      obtain ⟨y, hy, rfl⟩ := hc
      have hargs : args = #[x] := by rw [← Array.toList_inj]; exact hx
      have hts : ts = #[t] := by rw [← Array.toList_inj]; exact ht
      subst hargs hts
      simp only [aRead] at h
      split at h <;> (try simp only [Option.some.injEq, reduceCtorEq] at h)
      · rename_i hv
        subst h
        have r := hT.ev hy hv
        simp only [VRel] at r
        exact ⟨.int .i64 0, by simp [execOp, resolve, invoke, builtin, r, Builtin.len_, run_underlying hu, goInt], by simp [VRel]⟩
      · rename_i i hv
        split at h <;> (try simp only [Option.some.injEq, reduceCtorEq] at h)
        rename_i es hg
        subst h
        have r := hT.ev hy hv
        simp only [VRel] at r
        obtain ⟨l, hl, hr⟩ := r
        obtain ⟨_, h2⟩ := hw.obj i l hl
        obtain ⟨c, hc1, ms, clk, rfl, hE⟩ := h2 _ hg
        have hgo : (getObj l.b).run P w = .ok (.map ms clk) w := by simp [getObj, Sem.run, hc1]
        have hlen := hE.length
        exact ⟨.int .i64 ms.size, by simp [execOp, resolve, invoke, builtin, hr, Builtin.len_, run_underlying hu, goInt, hgo], by simp [VRel, hlen]⟩
  | _ => simp [cRead] at hc

/-! ### New objects -/
def aNew (T : Tm) : AOp → Option (AObj × (Nat → AVal))
  | .box x => match ev T x with
    | some v => (v.cells?).map fun cs => (.row cs true, fun i => .p i 0)
    | none => none
  | .alloc z => some (.row z true, fun i => .p i 0)
  | .mkmap => some (.map [], fun i => .m i)
  | .mksl es bytes z l c => match ev T l, ev T c with
    | some (.i .i64 l), some (.i .i64 c) => if 0 ≤ l ∧ l ≤ c ∧ c * bytes ≤ 1099511627776 ∧ c < 9223372036854775807 ∧ z.length = es ∧ 0 < es then some (.row ((List.range (c.toNat * es)).map fun i => z.getD (i % es) .ni) true, fun i => .sl i 0 l.toNat (some c.toNat) es) else none
    | _, _ => none
  | .bsl es n z parts => match evParts T (parts.map fun p => (p.1 * es, es, p.2)) with
    | some ps => if z.length = es ∧ n * es ≤ 16777216 then (aFill ps ((List.range (n * es)).map fun i => z.getD (i % es) .ni)).map fun cs => (.row cs true, fun i => .sl i 0 n (some n) es) else none
    | none => none
  | _ => none

def cBPartsL : List (Nat × Operand) → Option (List (Nat × AOpd))
  | [] => some []
  | (i, x) :: r => match cOpd x, cBPartsL r with
    | some y, some ys => some ((i, y) :: ys)
    | _, _ => none

def cNew (P : Program) (o : Op) : Option AOp :=
  match o with
  | .box _ x => (cOpd x).map .box
  | .alloc t => (cZero P t).map .alloc
  | .makeMap _ none => some .mkmap
  | .makeSlice t l c => match P.underlying t with
    | some (.slice e) => match P.info? e, cZero P e, cOpd l, cOpd c with
      | some i, some z, some l, some c => some (.mksl i.size i.bytes z l c)
      | _, _, _, _ => none
    | _ => none
  | .buildSlice t n parts => match P.underlying t with
    | some (.slice e) => match sizeOf? P e, cZero P e, cBPartsL parts.toList with
      | some s, some z, some ps => some (.bsl s n z ps)
      | _, _, _ => none
    | _ => none
  | _ => none

theorem range_rel {θ : Th} {z : List AVal} {zc : Array Value} (hz : VRels θ z zc.toList) (n : Nat) (h0 : 0 < z.length) :
    VRels θ ((List.range n).map fun i => z.getD (i % z.length) .ni) (((Array.range n).map fun i => zc[i % zc.size]!).toList) ∧ ∀ u ∈ ((Array.range n).map fun i => zc[i % zc.size]!).toList, u ∈ zc.toList := by
  have hl : z.length = zc.size := by rw [hz.length, Array.length_toList]
  constructor
  · refine VRels.of_get (by simp) fun j x hx => ?_
    simp only [List.getElem?_map, Option.map_eq_some_iff] at hx
    obtain ⟨i, hi, rfl⟩ := hx
    have hij : i = j := by
      have := (List.getElem?_eq_some_iff.1 hi).2
      simpa using this.symm
    subst hij
    have hin : i < n := by simpa using (List.getElem?_eq_some_iff.1 hi).1
    have hm : i % z.length < z.length := Nat.mod_lt _ h0
    obtain ⟨u, hu1, hu2⟩ := hz.get (i % z.length) _ (List.getElem?_eq_getElem hm)
    refine ⟨u, ?_, by simpa [List.getD_eq_getElem?_getD, List.getElem?_eq_getElem hm] using hu2⟩
    simp only [Array.toList_map, List.getElem?_map, Array.toList_range, List.getElem?_range hin, Option.map_some]
    rw [← hl]
    have hm' : i % z.length < zc.size := by omega
    rw [getElem!_pos zc (i % z.length) hm']
    have : zc[i % z.length]? = some u := by simpa using hu1
    rw [Array.getElem?_eq_getElem hm'] at this
    exact this
  · intro u hu
    simp only [Array.toList_map, List.mem_map] at hu
    obtain ⟨i, _, rfl⟩ := hu
    have hm' : i % zc.size < zc.size := Nat.mod_lt _ (by omega)
    rw [getElem!_pos zc (i % zc.size) hm']
    simp

end
end AM
end Go.Proofs.YtlgbgbngdhhjaaaGreatDoor

set_option linter.unusedSimpArgs false
set_option linter.unusedVariables false
namespace Go.Proofs.YtlgbgbngdhhjaaaGreatDoor
namespace AM
noncomputable section
open Go

/-- A row of cells of our own. -/
theorem objRel_row {θ : Th} {l : Loc} {cs : List AVal} {us : List Value} {pad : List Value} (hv : VRels θ cs us) (h1 : ∀ u ∈ us, u.oneCell' = true) (e : TypeId) (hd : l.d = 0) (hs : l.sz = (us ++ pad).length) :
    ObjRel θ l (.row cs true) (.cells (us ++ pad).toArray e (0, 0)) := by
  refine ⟨_, e, (0, 0), rfl, by simpa using hs, ?_, fun j x hx => ?_, fun _ => rfl⟩
  · rw [hd, hv.length]; simp
  · obtain ⟨u, hu1, hu2⟩ := hv.get j x hx
    have hj : j < us.length := (List.getElem?_eq_some_iff.1 hu1).1
    refine ⟨u, ?_, hu2, h1 u (List.mem_of_getElem? hu1)⟩
    rw [hd]
    simp [List.getElem?_append_left hj, hu1]

theorem bparts {P : Program} {θ : Th} {N : Nat} {T : Tm} {a : Act} (hT : ARel θ N T a) (s : Nat) : ∀ (ps : List (Nat × Operand)) (qs : List (Nat × AOpd)) (vs : List (Nat × Nat × AVal)),
    cBPartsL ps = some qs → evParts T (qs.map fun p => (p.1 * s, s, p.2)) = some vs → vs.length = (ps.map fun x => (x.1, a.eval x.2)).length ∧
      ∀ (j : Nat) (p : Nat × Nat × AVal) (u : Nat × Value), vs[j]? = some p → (ps.map fun x => (x.1, a.eval x.2))[j]? = some u → some (u.1 * s, s) = some (p.1, p.2.1) ∧ VRel θ p.2.2 u.2
  | [], qs, vs, h1, h2 => by
    simp [cBPartsL] at h1; subst h1; simp [evParts] at h2; subst h2; simp
  | (i, x) :: ps, qs, vs, h1, h2 => by
    simp only [cBPartsL] at h1
    split at h1 <;> (try simp only [Option.some.injEq, reduceCtorEq] at h1)
    rename_i y ys hy hys
    subst h1
    simp only [List.map_cons, evParts] at h2
    split at h2 <;> (try simp only [Option.some.injEq, reduceCtorEq] at h2)
    rename_i v vs' hv hvs
    subst h2
    obtain ⟨r1, r2⟩ := bparts (P := P) hT s ps ys vs' hys hvs
    refine ⟨by simpa using r1, fun j q u hq hu => ?_⟩
    cases j with
    | zero =>
      simp at hq hu; subst hq hu
      exact ⟨rfl, hT.ev hy hv⟩
    | succ j => exact r2 j q u (by simpa using hq) (by simpa using hu)

theorem aFill_length : ∀ {ps : List (Nat × Nat × AVal)} {acc out : List AVal}, aFill ps acc = some out → out.length = acc.length
  | [], acc, out, h => by simp [aFill] at h; rw [h]
  | (off, size, v) :: ps, acc, out, h => by
    simp only [aFill] at h
    split at h <;> (try simp only [reduceCtorEq] at h)
    rename_i cs _
    split at h <;> (try simp only [reduceCtorEq] at h)
    rename_i hc
    rw [aFill_length h, splice_length _ _ _ (by omega)]

theorem aNew_sound {P : Program} {θ : Th} {N : Nat} {T : Tm} {a : Act} {o : Oper} {ao : AOp} {ob : AObj} {mk : Nat → AVal} (hc : cNew P o.op = some ao) (hT : ARel θ N T a) (h : aNew T ao = some (ob, mk)) (w : World) :
    ∃ u c l, (execOp a.eval o).run P w = .ok (.value u) (w.alloc c) ∧ l.b = w.heap.size ∧ ObjRel θ l ob c ∧ ∀ (i : Nat) (θ' : Th), θ' i = some l → VRel θ' (mk i) u := by
  obtain ⟨dst, op, ty, pos, aft, gd⟩ := o
  simp only at hc
  cases op with
  | box t x =>
    simp only [cNew, Option.map_eq_some_iff] at hc
    obtain ⟨y, hy, rfl⟩ := hc
    simp only [aNew] at h
    split at h <;> (try simp only [Option.map_eq_some_iff, Prod.mk.injEq, reduceCtorEq] at h)
    rename_i v hv
    obtain ⟨cs, hcs, rfl, rfl⟩ := h
    obtain ⟨r1, r2⟩ := (hT.ev hy hv).cells hcs
    refine ⟨.pointer (some ⟨w.heap.size, 0, none⟩), .cells (a.eval x).cells t, ⟨w.heap.size, 0, (a.eval x).cells.size⟩, ?_, rfl, ?_, ?_⟩
    · simp [execOp, Instr.box, newVar, newRow]
    · have := objRel_row (l := ⟨w.heap.size, 0, (a.eval x).cells.size⟩) (pad := []) r1 r2 t rfl (by simp)
      simpa using this
    · intro i θ' hi
      simp only [VRel]
      exact ⟨_, hi, rfl⟩
  | alloc t =>
    simp only [cNew, Option.map_eq_some_iff] at hc
    obtain ⟨z, hz, rfl⟩ := hc
    simp only [aNew, Option.some.injEq, Prod.mk.injEq] at h
    obtain ⟨rfl, rfl⟩ := h
    simp only [cZero, Option.bind_eq_some_iff] at hz
    obtain ⟨zv, hz1, hz2⟩ := hz
    obtain ⟨r1, r2⟩ := absCs_rel θ hz2
    refine ⟨.pointer (some ⟨w.heap.size, 0, none⟩), .cells zv.cells t, ⟨w.heap.size, 0, zv.cells.size⟩, ?_, rfl, ?_, ?_⟩
    · simp [execOp, Instr.alloc, run_zero? hz1, newVar, newRow]
    · have := objRel_row (l := ⟨w.heap.size, 0, zv.cells.size⟩) (pad := []) r1 r2 t rfl (by simp)
      simpa using this
    · intro i θ' hi
      simp only [VRel]
      exact ⟨_, hi, rfl⟩
  | makeMap t r =>
    cases r <;> simp only [cNew, Option.some.injEq, reduceCtorEq] at hc
    subst hc
    simp only [aNew, Option.some.injEq, Prod.mk.injEq] at h
    obtain ⟨rfl, rfl⟩ := h
    refine ⟨.map (some w.heap.size), .map #[] 0, ⟨w.heap.size, 0, 0⟩, ?_, rfl, ⟨#[], 0, rfl, by simp [ERels]⟩, ?_⟩
    · simp [execOp, Instr.makeMap]
    · intro i θ' hi
      simp only [VRel]
      exact ⟨_, hi, rfl⟩
  | makeSlice t l c =>
    simp only [cNew] at hc
    split at hc <;> (try simp only [reduceCtorEq] at hc)
    rename_i e hu
    split at hc <;> (try simp only [Option.some.injEq, reduceCtorEq] at hc)
    rename_i inf z l' c' hi hz hl hcp
    subst hc
    simp only [aNew] at h
    split at h <;> (try simp only [reduceCtorEq] at h)
    rename_i lv cv hlv hcv
    split at h <;> (try simp only [Option.some.injEq, Prod.mk.injEq, reduceCtorEq] at h)
    rename_i hcond
    obtain ⟨c1, c2, c3, c4, c5, c6⟩ := hcond
    obtain ⟨rfl, rfl⟩ := h
    have rl := hT.ev hl hlv
    have rc := hT.ev hcp hcv
    rw [VRel.int] at rl rc
    simp only [cZero, Option.bind_eq_some_iff] at hz
    obtain ⟨zv, hz1, hz2⟩ := hz
    obtain ⟨r1, r2⟩ := absCs_rel θ hz2
    obtain ⟨g1, g2⟩ := range_rel r1 (cv.toNat * inf.size) (by omega)
    have hzl : zv.cells.size = inf.size := by rw [← c5, r1.length, Array.length_toList]
    rw [c5] at g1
    simp only [zero?, hi, Option.bind_some] at hz1
    refine ⟨.slice (some ⟨w.heap.size, 0, none⟩) lv.toNat cv.toNat, .cells (madeCells zv.cells (cv.toNat * inf.size)) e, ⟨w.heap.size, 0, cv.toNat * inf.size⟩, ?_, rfl, ?_, ?_⟩
    · have := run_make (P := P) w t e inf zv hu hi hz1 .i64 .i64 lv cv c1 c2 (by rw [Int.mul_comm]; omega) (by omega)
      simp only [execOp, rl, rc, Sem.run_bind, this]
      rfl
    · have := objRel_row (l := ⟨w.heap.size, 0, cv.toNat * inf.size⟩) (pad := []) g1 (fun u hu' => r2 u (g2 u hu')) e rfl (by simp)
      have h2 : (((Array.range (cv.toNat * inf.size)).map fun i => zv.cells[i % zv.cells.size]!).toList ++ []).toArray = madeCells zv.cells (cv.toNat * inf.size) := by
        rw [List.append_nil, Array.toArray_toList]; rfl
      rw [h2] at this
      exact this
    · intro i θ' hi'
      simp only [VRel]
      refine ⟨_, _, cv.toNat, hi', rfl, by omega, by simp, fun k' hk' => Option.some.inj hk', fun _ => by simp⟩
  | buildSlice t n parts =>
    simp only [cNew] at hc
    split at hc <;> (try simp only [reduceCtorEq] at hc)
    rename_i e hu
    split at hc <;> (try simp only [Option.some.injEq, reduceCtorEq] at hc)
    rename_i s z ps hs hz hps
    subst hc
    simp only [aNew] at h
    split at h <;> (try simp only [reduceCtorEq] at h)
    rename_i vs hvs
    split at h <;> (try simp only [Option.map_eq_some_iff, Prod.mk.injEq, reduceCtorEq] at h)
    rename_i hcond
    obtain ⟨hzl, hn⟩ := hcond
    obtain ⟨cs, hcs, rfl, rfl⟩ := h
    simp only [cZero, Option.bind_eq_some_iff] at hz
    obtain ⟨zv, hz1, hz2⟩ := hz
    obtain ⟨r1, r2⟩ := absCs_rel θ hz2
    obtain ⟨b1, b2⟩ := bparts (P := P) hT s parts.toList ps vs hps hvs
    have hbase : ∃ base : Array Value, (if n * s = 0 then (pure #[] : Sem (Array Value)) else do pure (← zeroValue e).cells).run P w = .ok (if n * s = 0 then #[] else zv.cells) w ∧
        VRels θ ((List.range (n * s)).map fun i => z.getD (i % s) .ni) base.toList ∧ (∀ u ∈ base.toList, u.oneCell' = true) ∧ base = (Array.range (n * s)).map fun i => (if n * s = 0 then #[] else zv.cells)[i % (if n * s = 0 then #[] else zv.cells).size]! := by
      refine ⟨_, by split <;> simp [run_zero? hz1], ?_, ?_, rfl⟩
      · by_cases h0 : n * s = 0
        · simp [h0, VRels]
        · have hsp : 0 < s := Nat.pos_of_ne_zero fun e => h0 (by simp [e])
          simp only [h0, if_false]
          have := (range_rel r1 (n * s) (by omega)).1
          rwa [hzl] at this
      · by_cases h0 : n * s = 0
        · simp [h0]
        · have hsp : 0 < s := Nat.pos_of_ne_zero fun e => h0 (by simp [e])
          simp only [h0, if_false]
          intro u hu'
          exact r2 u ((range_rel r1 (n * s) (by omega)).2 u hu')
    obtain ⟨base, q1, q2, q3, q4⟩ := hbase
    obtain ⟨res, f1, f2, f3⟩ := aFill_sound (fun i => some (i * s, s)) vs (parts.toList.map fun x => (x.1, a.eval x.2)) _ cs base b1 b2 q2 q3 hcs
    refine ⟨.slice (some ⟨w.heap.size, 0, none⟩) n n, .cells res e, ⟨w.heap.size, 0, res.size⟩, ?_, rfl, ?_, ?_⟩
    · have f1' : Instr.fill (fun i => some (i * s, s)) ((Array.range (n * s)).map fun i => (if n * s = 0 then #[] else zv.cells)[i % (if n * s = 0 then #[] else zv.cells).size]!) (parts.map fun x => (x.1, a.eval x.2)).toList = some res := by
        rw [← q4]; simpa using f1
      have hng : ¬ (n * s > 2 ^ 24) := by omega
      have hfin : (Instr.buildSlice t n (parts.map fun x => (x.1, a.eval x.2))).run P w = .ok (.slice (some ⟨w.heap.size, 0, none⟩) n n) (w.alloc (.cells res e)) := by
        by_cases h0 : n * s = 0
        · simp only [h0, if_true] at f1'
          simp only [Instr.buildSlice, Sem.run_bind, run_underlying hu, Result.andThen_ok, run_sizeOf? hs, hng, if_false, h0, if_true, Sem.run_pure]
          rw [if_neg (by omega)]
          simp only [Sem.run_bind, Sem.run_pure, Result.andThen_ok, f1', newRow, run_newObj]
          rfl
        · simp only [h0, if_false] at f1'
          simp only [Instr.buildSlice, Sem.run_bind, run_underlying hu, Result.andThen_ok, run_sizeOf? hs, hng, if_false, h0, Sem.run_pure, run_zero? hz1]
          simp only [Sem.run_bind, Sem.run_pure, Result.andThen_ok, f1', newRow, run_newObj, run_zero? hz1]
          rfl
      simp only [execOp, Sem.run_bind, hfin]
      rfl
    · have := objRel_row (l := ⟨w.heap.size, 0, res.size⟩) (pad := []) f2 f3 e rfl (by simp)
      simpa using this
    · intro i θ' hi
      simp only [VRel]
      have hlen : cs.length = n * s := by
        have := aFill_length hcs
        simpa using this
      have hr : res.size = n * s := by rw [← hlen, f2.length, Array.length_toList]
      refine ⟨_, _, n, hi, rfl, Nat.le_refl _, ?_, fun k' hk' => Option.some.inj hk', fun _ => by simp⟩
      simp [hr]
  | _ => simp [cNew] at hc

end
end AM
end Go.Proofs.YtlgbgbngdhhjaaaGreatDoor

set_option linter.unusedSimpArgs false
set_option linter.unusedVariables false
namespace Go.Proofs.YtlgbgbngdhhjaaaGreatDoor
namespace AM
noncomputable section
open Go

/-! ### What they do -/
def aStore (H : Heap) (a x : AVal) (n : Nat) : Option Heap :=
  match a with
  | .p i o => match x.cells?, H.get i with
    | some cs, some (.row old true) => if cs.length = n ∧ o + n ≤ old.length then some (H.put i (.row (splice old o cs) true)) else none
    | _, _ => none
  | _ => none

/-- What is appended, and how many elements. -/
def aNews (H : Heap) (x : AVal) (es : Nat) : Option (List AVal × Nat) :=
  match x with
  | .nsl => some ([], 0)
  | .sl i o n _ e => if e = es then (if n = 0 then some ([], 0) else (match H.get i with
    | some (.row cs _) => if o + n * es ≤ cs.length then some ((cs.drop o).take (n * es), n) else none
    | _ => none)) else none
  | .s l => if es = 1 then some (l.map fun (c : Nat) => .i .u8 (Int.ofNat c), l.length) else none
  | _ => none

def aApp (H : Heap) (es bytes : Nat) (s x : AVal) : Option (AVal × Heap) :=
  match aNews H x es with
  | none => none
  | some (news, n) =>
    match s with
    | .nsl => if n = 0 then some (.nsl, H) else if n * bytes ≤ 1099511627776 ∧ n ≤ 1099511627776 then some (.sl H.nx 0 n none es, H.push (.row news true)) else none
    | .sl i o m k e => if e = es then (if n = 0 then some (.sl i o m k e, H) else
        match H.get i with
        | some (.row cs own) =>
          if o + m * es ≤ cs.length ∧ (m + n) * bytes ≤ 1099511627776 ∧ m + n ≤ 1099511627776 then
            match k with
            | some kk => if m + n ≤ kk then (if own = true ∧ o + (m + n) * es ≤ cs.length then some (.sl i o (m + n) k e, H.put i (.row (splice cs (o + m * es) news) true)) else none)
              else some (.sl H.nx 0 (m + n) none es, H.push (.row ((cs.drop o).take (m * es) ++ news) true))
            | none => if own = true ∧ o + m * es = cs.length then some (.sl H.nx 0 (m + n) none es, (H.push (.row (cs.drop o ++ news) true)).put i .dead) else none
          else none
        | _ => none) else none
    | _ => none

def aUpd (H : Heap) (kk : KeyK) (m k v : AVal) : Option Heap :=
  match m with
  | .m i => match H.get i with
    | some (.map es) => if aKeyOk kk k then (match aFind kk k es 0 with
      | some (some (j, _)) => some (H.put i (.map (es.set j (k, v))))
      | some none => some (H.put i (.map (es ++ [(k, v)])))
      | none => none) else none
    | _ => none
  | _ => none

def aStb (H : Heap) (x : AVal) : Option (AVal × Heap) :=
  match x with
  | .s l => if l.length ≤ 1099511627776 then some (.sl H.nx 0 l.length none 1, H.push (.row (l.map fun (c : Nat) => .i .u8 (Int.ofNat c)) false)) else none
  | _ => none

def aClr (H : Heap) (es : Nat) (z : List AVal) (x : AVal) : Option Heap :=
  match x with
  | .nsl => some H
  | .sl i o n _ e => if n = 0 then some H else if e = es ∧ z.length = es then (match H.get i with
    | some (.row cs true) => if o + n * es ≤ cs.length then some (H.put i (.row (splice cs o ((List.range (n * es)).map fun j => z.getD (j % es) .ni)) true)) else none
    | _ => none) else none
  | _ => none

def aEff (T : Tm) (H : Heap) : AOp → Option (AVal × Heap)
  | .store n a v => match ev T a, ev T v with
    | some a, some v => (aStore H a v n).map fun H => (.tup [], H)
    | _, _ => none
  | .app es bytes s x => match ev T s, ev T x with
    | some s, some x => aApp H es bytes s x
    | _, _ => none
  | .upd kk m k v => match ev T m, ev T k, ev T v with
    | some m, some k, some v => (aUpd H kk m k v).map fun H => (.tup [], H)
    | _, _, _ => none
  | .stb x => match ev T x with
    | some x => aStb H x
    | none => none
  | .clr es z x => match ev T x with
    | some x => (aClr H es z x).map fun H => (.tup [], H)
    | none => none
  | _ => none

def cEff (P : Program) (o : Op) : Option AOp :=
  match o with
  | .store t a v => match cOpd a, cOpd v, sizeOf? P t with
    | some a, some v, some n => some (.store n a v)
    | _, _, _ => none
  | .mapUpdate t m k v | .insert t m k v => match cOpd m, cOpd k, cOpd v, P.underlying t with
    | some m, some k, some v, some (.map kt _) => (keyKOf P kt).map fun kk => .upd kk m k v
    | _, _, _, _ => none
  | .convert s d x => match cOpd x, P.underlying s, P.underlying d with
    | some x, some .string, some (.slice e) => match P.underlying e with
      | some (.int .u8) => some (.stb x)
      | _ => none
    | _, _, _ => none
  | .call { callee := .builtin .append, args := xs, argTypes := ts } => match xs.toList, ts.toList with
    | [s, x], [t, u] => match P.underlying t, P.underlying u with
      | some (.slice e), some (.slice _) | some (.slice e), some .string => match P.info? e, cZero P e, cOpd s, cOpd x with
        | some i, some z, some s, some x => if z.length = i.size ∧ 0 < i.size then some (.app i.size i.bytes s x) else none
        | _, _, _, _ => none
      | _, _ => none
    | _, _ => none
  | .call { callee := .builtin .clear, args := xs, argTypes := ts } => match xs.toList, ts.toList with
    | [x], [t] => match P.underlying t with
      | some (.slice e) => match P.info? e, cZero P e, cOpd x with
        | some i, some z, some x => some (.clr i.size z x)
        | _, _, _ => none
      | _ => none
    | _, _ => none
  | _ => none

/-! ### Stores -/
/-- Cells of an own row set. -/
theorem WRel.setCells {K : Kept} {θ : Th} {H : Heap} {w : World} (h : WRel K θ H w) {i : Nat} {l : Loc} (hi : θ i = some l) {cs : List AVal} (hg : H.get i = some (.row cs true)) {o : Nat} {xs : List AVal} {us : List Value} (hx : VRels θ xs us) (h1 : ∀ u ∈ us, u.oneCell' = true) (hlen : o + xs.length ≤ cs.length) (P : Program) :
    ∃ w', (storeCells ⟨l.b, l.d + o, none⟩ us).run P w = .ok () w' ∧ WRel K θ (H.put i (.row (splice cs o xs) true)) w' ∧ w'.drawn = w.drawn := by
  obtain ⟨hlt, h2⟩ := h.obj i l hi
  obtain ⟨c, hc, c', e, fr, rfl, hsz, hl, h5, hfr⟩ := h2 _ hg
  obtain rfl := hfr rfl
  have hul := hx.length
  have hrun := run_storeCells_at P l.b (l.d + o) e us 0 c' w hc (by omega) h1
  refine ⟨_, hrun, h.turn hi hg rfl (c := .cells (splice c'.toList (l.d + o) us).toArray e (0, 0)) ⟨rfl, rfl, rfl⟩ (by simp) ?_ ?_ ?_, rfl⟩
  · have := setRow_heap w l.b c' (splice c'.toList (l.d + o) us).toArray e (0, 0) hc
    simpa [splice] using this
  · intro b hb
    exact setRow_other w l.b b _ hb
  · have hsl : (splice c'.toList (l.d + o) us).length = c'.size := by rw [splice_length _ _ _ (by simp; omega)]; simp
    refine ⟨_, e, (0, 0), rfl, by simp [hsl, hsz], by rw [splice_length _ _ _ (by omega)]; simp [hsl]; omega, fun j x hj => ?_, fun _ => rfl⟩
    have hcl : c'.toList.length = c'.size := by simp
    simp only [splice] at hj
    have get : (splice c'.toList (l.d + o) us).toArray[l.d + j]? = if j < o then c'[l.d + j]? else if j < o + us.length then us[j - o]? else c'[l.d + j]? := by
      rw [List.getElem?_toArray]
      simp only [splice]
      by_cases hjo : j < o
      · rw [if_pos hjo, List.getElem?_append_left (by simp; omega), List.getElem?_append_left (by simp; omega), List.getElem?_take, if_pos (by omega)]; simp
      · rw [if_neg hjo]
        by_cases hju : j < o + us.length
        · rw [if_pos hju, List.getElem?_append_left (by simp; omega), List.getElem?_append_right (by simp; omega)]
          congr 1; simp; omega
        · rw [if_neg hju, List.getElem?_append_right (by simp; omega), List.getElem?_drop]
          simp only [List.length_append, List.length_take]
          rw [← Array.getElem?_toList]
          congr 1; omega
    rw [get]
    by_cases hjo : j < o
    · rw [if_pos hjo]
      rw [List.getElem?_append_left (by simp; omega), List.getElem?_append_left (by simp; omega), List.getElem?_take, if_pos hjo] at hj
      exact h5 j x hj
    · rw [if_neg hjo]
      by_cases hju : j < o + us.length
      · rw [if_pos hju]
        rw [List.getElem?_append_left (by simp; omega), List.getElem?_append_right (by simp; omega)] at hj
        have he : j - (cs.take o).length = j - o := by simp; omega
        rw [he] at hj
        obtain ⟨u, hu1, hu2⟩ := hx.get _ _ hj
        exact ⟨u, hu1, hu2, h1 u (List.mem_of_getElem? hu1)⟩
      · rw [if_neg hju]
        rw [List.getElem?_append_right (by simp; omega), List.getElem?_drop] at hj
        have he : o + xs.length + (j - (cs.take o ++ xs).length) = j := by simp; omega
        rw [he] at hj
        exact h5 j x hj

theorem undef_rel (θ : Th) : VRel θ (.tup []) undef := by
  simp only [VRel, undef]; exact ⟨#[], rfl, VRels.nil⟩

theorem store_sound {P : Program} {K : Kept} {θ : Th} {H H' : Heap} {w : World} (hw : WRel K θ H w) {t : TypeId} {n : Nat} (hn : sizeOf? P t = some n) {a x : AVal} {ua ux : Value} (ha : VRel θ a ua) (hx : VRel θ x ux) (h : aStore H a x n = some H') :
    ∃ w', (Instr.storeAt t ua ux).run P w = .ok () w' ∧ WRel K θ H' w' := by
  unfold aStore at h
  split at h <;> (try simp only [reduceCtorEq] at h)
  rename_i i o
  split at h <;> (try simp only [reduceCtorEq] at h)
  rename_i cs old hcs hg
  split at h <;> (try simp only [Option.some.injEq, reduceCtorEq] at h)
  rename_i hc
  subst h
  simp only [VRel] at ha
  obtain ⟨l, hl, rfl⟩ := ha
  obtain ⟨r1, r2⟩ := hx.cells hcs
  obtain ⟨w', e1, e2, _⟩ := hw.setCells hl hg (o := o) r1 r2 (by omega) P
  refine ⟨w', ?_, e2⟩
  have hs : ux.cells.size = n := by rw [← hc.1, r1.length, Array.length_toList]
  simp only [Instr.storeAt, Instr.sureAddr, storeVar, Sem.run_bind, Sem.run_pure, Result.andThen_ok, run_sizeOf? hn, hs]
  simpa using e1

/-! ### Maps -/
theorem ERels.set {θ : Th} : ∀ {es : List (AVal × AVal)} {ms : List MapEntry} (j : Nat) {x : AVal × AVal} {m : MapEntry}, ERels θ es ms → VRel θ x.1 m.key → VRel θ x.2 m.val → ERels θ (es.set j x) (ms.set j m)
  | [], ms, j, x, m, h, _, _ => by simp only [ERels] at h; subst h; simp [ERels]
  | e :: es, ms, j, x, m, h, h1, h2 => by
    simp only [ERels] at h
    obtain ⟨u, us, rfl, h3, h4, h5⟩ := h
    cases j with
    | zero => simp only [List.set_cons_zero, ERels]; exact ⟨m, us, rfl, h1, h2, h5⟩
    | succ j => simp only [List.set_cons_succ, ERels]; exact ⟨u, _, rfl, h3, h4, ERels.set j h5 h1 h2⟩

theorem ERels.snoc {θ : Th} : ∀ {es : List (AVal × AVal)} {ms : List MapEntry} {x : AVal × AVal} {m : MapEntry}, ERels θ es ms → VRel θ x.1 m.key → VRel θ x.2 m.val → ERels θ (es ++ [x]) (ms ++ [m])
  | [], ms, x, m, h, h1, h2 => by
    simp only [ERels] at h; subst h
    simp only [List.nil_append, ERels]
    exact ⟨m, [], rfl, h1, h2, rfl⟩
  | e :: es, ms, x, m, h, h1, h2 => by
    simp only [ERels] at h
    obtain ⟨u, us, rfl, h3, h4, h5⟩ := h
    simp only [List.cons_append, ERels]
    exact ⟨u, _, rfl, h3, h4, ERels.snoc h5 h1 h2⟩

theorem ERels.get {θ : Th} : ∀ {es : List (AVal × AVal)} {ms : List MapEntry}, ERels θ es ms → ∀ (j : Nat) (x : AVal × AVal), es[j]? = some x → ∃ m, ms[j]? = some m ∧ VRel θ x.1 m.key ∧ VRel θ x.2 m.val
  | [], ms, h, j, x, hx => by simp at hx
  | e :: es, ms, h, j, x, hx => by
    simp only [ERels] at h
    obtain ⟨u, us, rfl, h3, h4, h5⟩ := h
    cases j with
    | zero => simp at hx; subst hx; exact ⟨u, by simp, h3, h4⟩
    | succ j => simpa using ERels.get h5 j x (by simpa using hx)

theorem aFind_key {kk : KeyK} {k : AVal} : ∀ {es : List (AVal × AVal)} {n j : Nat} {v : AVal}, aFind kk k es n = some (some (j, v)) → ∃ i x, j = n + i ∧ es[i]? = some x ∧ aKeyEq kk k x.1 = some true
  | [], n, j, v, h => by simp [aFind] at h
  | e :: es, n, j, v, h => by
    simp only [aFind] at h
    split at h
    · rename_i hb
      simp only [Option.some.injEq, Prod.mk.injEq] at h
      exact ⟨0, e, by omega, by simp, hb⟩
    · obtain ⟨i, x, h1, h2, h3⟩ := aFind_key h
      exact ⟨i + 1, x, by omega, by simpa using h2, h3⟩
    · cases h

theorem sameBits_of {kk : KeyK} {x y : AVal} {θ : Th} {u v : Value} (h : aKeyEq kk x y = some true) (hx : VRel θ x u) (hy : VRel θ y v) : u = v ∧ Instr.sameBits 10000 v u = true := by
  unfold aKeyEq at h
  split at h
  · unfold aEqInt at h
    split at h <;> (try simp only [reduceCtorEq] at h)
    split at h <;> (try simp only [reduceCtorEq] at h)
    rename_i hk
    subst hk
    simp only [Option.some.injEq, beq_iff_eq] at h
    rw [VRel.int] at hx hy
    subst hx hy h
    exact ⟨rfl, by simp [Instr.sameBits]⟩
  · unfold aEqStr at h
    split at h <;> (try simp only [reduceCtorEq] at h)
    simp only [Option.some.injEq, beq_iff_eq] at h
    simp only [VRel] at hx hy
    obtain ⟨s, rfl, e1⟩ := hx
    obtain ⟨s', rfl, e2⟩ := hy
    have : s = s' := by
      have h3 : s.data.toList = s'.data.toList := (List.map_inj_right (fun a b e => UInt8.toNat_inj.1 e)).1 (by rw [e1, e2, h])
      cases s; cases s'; simp at h3; simp [h3]
    subst this
    exact ⟨rfl, by simp [Instr.sameBits, beq_toListBytes]⟩
  · unfold aEqPart at h
    split at h <;> (try simp only [reduceCtorEq] at h)
    split at h <;> (try simp only [reduceCtorEq] at h)
    rename_i hk
    obtain ⟨rfl, rfl⟩ := hk
    simp only [Option.some.injEq, Bool.and_eq_true, beq_iff_eq] at h
    obtain ⟨⟨rfl, rfl⟩, rfl⟩ := h
    have := hx.part
    have := hy.part
    subst_vars
    refine ⟨rfl, ?_⟩
    show Instr.sameBits (9999 + 1) _ _ = true
    rw [Instr.sameBits]
    simp [Instr.sameBits]

theorem upd_sound {P : Program} {K : Kept} {θ : Th} {H H' : Heap} {w : World} (hw : WRel K θ H w) {t kt et : TypeId} (ht : P.underlying t = some (.map kt et)) {kk : KeyK} (hk : keyKOf P kt = some kk) {m k v : AVal} {um uk uv : Value} (hm : VRel θ m um) (hkv : VRel θ k uk) (hv : VRel θ v uv) (h : aUpd H kk m k v = some H') :
    ∃ w', (Instr.mapUpdate t um uk uv).run P w = .ok () w' ∧ WRel K θ H' w' := by
  unfold aUpd at h
  split at h <;> (try simp only [reduceCtorEq] at h)
  rename_i i
  split at h <;> (try simp only [reduceCtorEq] at h)
  rename_i es hg
  split at h <;> (try simp only [reduceCtorEq] at h)
  rename_i hok
  simp only [VRel] at hm
  obtain ⟨l, hl, rfl⟩ := hm
  obtain ⟨hlt, h2⟩ := hw.obj i l hl
  obtain ⟨c, hc, ms, clk, rfl, hE⟩ := h2 _ hg
  have hgo : (getObj l.b).run P w = .ok (.map ms clk) w := by simp [getObj, Sem.run, hc]
  have hset : ∀ ob, (setObj l.b ob).run P w = .ok () { w with heap := w.heap.setIfInBounds l.b ob } := fun ob => by simp [setObj, Sem.run, hc]
  have hck : (Instr.checkKey false 10000 kt uk).run P w = .ok () w := run_checkKey_of hk hok hkv false 9998 w
  have turn : ∀ es' ms' clk', ERels θ es' (Array.toList ms') → WRel K θ (H.put i (.map es')) { w with heap := w.heap.setIfInBounds l.b (.map ms' clk') } := by
    intro es' ms' clk' hE'
    refine hw.turn hl hg rfl (c := .map ms' clk') ⟨rfl, rfl, rfl⟩ (by simp) (by simp [hlt]) (fun b hb => ?_) ⟨ms', clk', rfl, hE'⟩
    rw [Array.getElem?_setIfInBounds]
    rw [if_neg (Ne.symm hb)]
  split at h <;> (try simp only [Option.some.injEq, reduceCtorEq] at h)
  · rename_i j fv hf
    subst h
    obtain ⟨r', g1, g2⟩ := findKey_sound hk hkv w hE hf
    simp only [FRel] at g2
    obtain ⟨u, rfl, _⟩ := g2
    obtain ⟨j', x, hj, hx, heq⟩ := aFind_key hf
    have hjj : j' = j := by omega
    subst hjj
    obtain ⟨me, hme, hme1, hme2⟩ := hE.get _ _ hx
    have hme' : ms[j']? = some me := by simpa using hme
    obtain ⟨hs1, hs2⟩ := sameBits_of heq hkv hme1
    have hjl : j' < ms.toList.length := (List.getElem?_eq_some_iff.1 hme).1
    refine ⟨_, ?_, turn (es.set j' (k, v)) (ms.modify j' fun e => { e with key := uk, val := uv }) clk ?_⟩
    · simp only [Instr.mapUpdate, Sem.run_bind, run_underlying ht, Result.andThen_ok, hgo, hck, g1, hme', Option.map_some, Option.getD_some, Instr.keyThatStays, hs2, if_true, Sem.run_pure, hset]
    · have : (ms.modify j' fun e => { e with key := uk, val := uv }).toList = ms.toList.set j' { me with key := uk, val := uv } := by
        rw [Array.toList_modify]
        apply List.ext_getElem?
        intro q
        rw [List.getElem?_modify, List.getElem?_set]
        by_cases hq : j' = q
        · subst hq; simp [hme']; simpa using hjl
        · simp [hq]
      rw [this]
      exact hE.set j' hkv hv
  · rename_i hf
    subst h
    obtain ⟨r', g1, g2⟩ := findKey_sound hk hkv w hE hf
    simp only [FRel] at g2
    subst g2
    refine ⟨_, ?_, turn (es ++ [(k, v)]) (ms.push { key := uk, val := uv, born := clk }) (clk + 1) ?_⟩
    · simp only [Instr.mapUpdate, Sem.run_bind, run_underlying ht, Result.andThen_ok, hgo, hck, g1, hset]
    · simp only [Array.toList_push]
      exact hE.snoc hkv hv

/-! ### Appending -/
theorem run_firstCells_str {P : Program} (w : World) (size : Nat) (s : ByteArray) : (Builtin.firstCells size s.size (.string s)).run P w = .ok (s.data.toList.map fun b => Value.int .u8 b.toNat).toArray w := by
  simp only [Builtin.firstCells, Sem.run_pure]
  congr 1
  apply Array.ext'
  rw [ByteArray.data_extract]
  have h : s.data.extract 0 s.size = s.data := Array.extract_size
  rw [h]
  simp

/-- What is appended, in the model. -/
theorem news_sound {P : Program} {K : Kept} {θ : Th} {H : Heap} {w : World} (hw : WRel K θ H w) {x : AVal} {ux : Value} {es n : Nat} {news : List AVal} (hx : VRel θ x ux) (h : aNews H x es = some (news, n)) :
    ∃ us : List Value, VRels θ news us ∧ us.length = n * es ∧ (∀ u ∈ us, u.oneCell' = true) ∧ (∀ w' : World, (Builtin.lenOf ux).run P w' = .ok n w') ∧ (∀ w' : World, w'.heap = w.heap → (Builtin.firstCells es n ux).run P w' = .ok us.toArray w') := by
  unfold aNews at h
  split at h <;> (try simp only [reduceCtorEq] at h)
  · simp only [Option.some.injEq, Prod.mk.injEq] at h
    obtain ⟨rfl, rfl⟩ := h
    simp only [VRel] at hx
    subst hx
    exact ⟨[], VRels.nil, by simp, by simp, fun w' => by simp [Builtin.lenOf], fun w' _ => by simp [Builtin.firstCells]⟩
  · rename_i i o m k e
    split at h <;> (try simp only [reduceCtorEq] at h)
    rename_i he
    subst he
    simp only [VRel] at hx
    obtain ⟨l, a, c, hl, rfl, hmc, hsz, hk, ha⟩ := hx
    split at h
    · rename_i hm0
      subst hm0
      simp only [Option.some.injEq, Prod.mk.injEq] at h
      obtain ⟨rfl, rfl⟩ := h
      exact ⟨[], VRels.nil, by simp, by simp, fun w' => by simp [Builtin.lenOf], fun w' _ => by simp [Builtin.firstCells, loadCells, loadCellsFrom]⟩
    · split at h <;> (try simp only [reduceCtorEq] at h)
      rename_i cs own hg
      split at h <;> (try simp only [Option.some.injEq, Prod.mk.injEq, reduceCtorEq] at h)
      rename_i hlen
      obtain ⟨rfl, rfl⟩ := h
      have := ha (by omega)
      subst this
      obtain ⟨us, u1, u2, u3, u4⟩ := hw.cellsOf hl hg hlen
      refine ⟨us, u3, u1, u4, fun w' => by simp [Builtin.lenOf], fun w' hw' => ?_⟩
      have hcells : ∀ (j : Nat) (v : Value), us[j]? = some v → w'.cell? ((⟨l.b, l.d + o, none⟩ : Addr).add j) = some v := by
        intro j v hv
        have := u2 j v hv
        simpa [World.cell?, hw'] using this
      have := run_loadCells_list (P := P) w' ⟨l.b, l.d + o, none⟩ us hcells
      rw [u1] at this
      simpa [Builtin.firstCells] using this
  · rename_i lst
    split at h <;> (try simp only [Option.some.injEq, Prod.mk.injEq, reduceCtorEq] at h)
    rename_i he
    subst he
    obtain ⟨rfl, rfl⟩ := h
    simp only [VRel] at hx
    obtain ⟨s, rfl, rfl⟩ := hx
    have hlen : (s.data.toList.map UInt8.toNat).length = s.size := strNats_length s
    refine ⟨s.data.toList.map fun b => Value.int .u8 b.toNat, ?_, by rw [hlen]; simp, ?_, fun w' => by rw [hlen]; simp [Builtin.lenOf], fun w' _ => by rw [hlen]; exact run_firstCells_str w' 1 s⟩
    · refine VRels.of_get (by simp) fun j x hx => ?_
      simp only [List.getElem?_map, Option.map_map, Option.map_eq_some_iff] at hx
      obtain ⟨b, hb, rfl⟩ := hx
      exact ⟨.int .u8 b.toNat, by simp [hb], by simp [VRel]⟩
    · intro u hu
      simp only [List.mem_map] at hu
      obtain ⟨b, _, rfl⟩ := hu
      rfl

end
end AM
end Go.Proofs.YtlgbgbngdhhjaaaGreatDoor

set_option linter.unusedSimpArgs false
set_option linter.unusedVariables false
namespace Go.Proofs.YtlgbgbngdhhjaaaGreatDoor
namespace AM
noncomputable section
open Go

/-- More places, none of them for an old object. -/
def Th.Up (θ : Th) (n : Nat) (θ' : Th) : Prop := θ.Le θ' ∧ ∀ j, j < n → θ' j = θ j
theorem Th.Up.refl (θ : Th) (n : Nat) : θ.Up n θ := ⟨Th.Le.refl _, fun _ _ => rfl⟩
theorem Th.Up.trans {a b c : Th} {n m : Nat} (h : a.Up n b) (hn : n ≤ m) (k : b.Up m c) : a.Up n c := ⟨h.1.trans k.1, fun j hj => (k.2 j (by omega)).trans (h.2 j hj)⟩
theorem Th.ext_up {K : Kept} {θ : Th} {H : Heap} {w : World} (h : WRel K θ H w) (l : Loc) : θ.Up H.nx (θ.ext H.nx l) := ⟨Th.ext_le (h.fresh _ (Nat.le_refl _)).1, fun j hj => Th.ext_other (by omega)⟩

def AppT (P : Program) (u : TypeId) : Prop := (∃ e, P.underlying u = some (.slice e)) ∨ P.underlying u = some .string

theorem run_app_in {P : Program} {w w' : World} {t u ty e : TypeId} {i : TypeInfo} (ht : P.underlying t = some (.slice e)) (hu : AppT P u) (hi : P.info? e = some i) (a : Addr) (sLen sCap : Nat) {ux : Value} {n : Nat} (hl : ∀ w', (Builtin.lenOf ux).run P w' = .ok n w')
    {us : List Value} (hf : (Builtin.firstCells i.size n ux).run P w = .ok us.toArray w) (hroom : sLen + n ≤ sCap) (hst : (storeCells (a.add (sLen * i.size)) us).run P w = .ok () w') :
    (Builtin.append_ #[t, u] ty #[.slice (some a) sLen sCap, ux]).run P w = .ok (.slice (some a) (sLen + n) sCap) w' := by
  rcases hu with ⟨e', hu⟩ | hu <;>
  simp [Builtin.append_, run_underlying ht, run_underlying hu, sizeOf, typeInfo, hi, hl, hroom, hf, hst]

theorem run_app_nothing {P : Program} {w : World} {t u ty e : TypeId} {i : TypeInfo} (ht : P.underlying t = some (.slice e)) (hu : AppT P u) (hi : P.info? e = some i) {ux : Value} (hl : ∀ w', (Builtin.lenOf ux).run P w' = .ok 0 w')
    {us : List Value} (hf : (Builtin.firstCells i.size 0 ux).run P w = .ok us.toArray w) :
    (Builtin.append_ #[t, u] ty #[.slice none 0 0, ux]).run P w = .ok (.slice none 0 0) w := by
  rcases hu with ⟨e', hu⟩ | hu <;>
  simp [Builtin.append_, run_underlying ht, run_underlying hu, sizeOf, typeInfo, hi, hl, hf]

theorem run_app_grows {P : Program} {w : World} {t u ty e : TypeId} {i : TypeInfo} {z : Value} (ht : P.underlying t = some (.slice e)) (hu : AppT P u) (hi : P.info? e = some i) (hz : i.zero = some z) (base : Option Addr) (sLen sCap : Nat) {ux : Value} {n : Nat} (hl : ∀ w', (Builtin.lenOf ux).run P w' = .ok n w')
    {us olds : List Value} (hf : (Builtin.firstCells i.size n ux).run P w.drew = .ok us.toArray w.drew) (hfo : (Builtin.firstCells i.size sLen (.slice base sLen sCap)).run P w.drew = .ok olds.toArray w.drew)
    (hg : sCap < sLen + n) (h1 : (sLen + n) * i.bytes ≤ 1099511627776) (h2 : sLen + n ≤ 1099511627776) :
    (Builtin.append_ #[t, u] ty #[.slice base sLen sCap, ux]).run P w =
      .ok (.slice (some ⟨w.heap.size, 0, none⟩) (sLen + n) (grownCap w (sLen + n) sCap e))
        (w.drew.alloc (.cells (olds ++ us ++ (Builtin.zeroCells z.cells (grownCap w (sLen + n) sCap e - (sLen + n))).toList).toArray e)) := by
  have hn : ¬ (sLen + n ≤ sCap) := by omega
  have h63' : ¬ (9223372036854775807 < ((sLen : Int) + (n : Int))) := by omega
  have hfit := growslice_fits (bytes := i.bytes) hg (by omega)
  have h48' : ¬ (281474976710656 < Builtin.nextslicecap (sLen + n) sCap * i.bytes) := by omega
  rcases hu with ⟨e', hu⟩ | hu <;>
  · simp [Builtin.append_, run_underlying ht, run_underlying hu, sizeOf, typeInfo, zeroValue, hi, hz, hl, hn, h63', h48', Question.forced, hf, hfo, newRow, grownCap]
    congr 2
    apply Array.ext'
    simp [List.append_assoc]

/-- An own object under another number, at another place of the same block. -/
theorem WRel.rename {K : Kept} {θ : Th} {H : Heap} {w : World} (h : WRel K θ H w) {i : Nat} {l l' : Loc} (hi : θ i = some l) {o o' : AObj} (hg : H.get i = some o) (hown : o.isOwn = true) (hb : l'.b = l.b)
    (ho : ∀ c, w.heap[l.b]? = some c → ObjRel θ l' o' c) : WRel K (θ.ext H.nx l') ((H.push o').put i .dead) w := by
  have hn : θ H.nx = none := (h.fresh _ (Nat.le_refl _)).1
  have hlt : i < H.nx := by
    rcases Nat.lt_or_ge i H.nx with q | q
    · exact q
    · rw [(h.fresh i q).1] at hi; cases hi
  have hle := Th.ext_le (l := l') hn
  obtain ⟨hk, hinj⟩ := h.own i l o hi hg hown
  have hia : o.alive = true := by cases o <;> simp_all [AObj.isOwn, AObj.alive]
  obtain ⟨hbl, hob⟩ := h.obj i l hi
  obtain ⟨c, hc, _⟩ := hob o hg
  have get : ∀ j, ((H.push o').put i .dead).get j = if j = i then some .dead else if j = H.nx then some o' else H.get j := fun j => by rw [Heap.get_put, Heap.get_push]
  refine ⟨h.os, h.tape, h.output, h.good, h.kept, fun j hj => ?_, fun j lj hj => ?_, fun j lj oj hj hgj hoj => ?_⟩
  · simp only [Heap.nx_put, Heap.nx_push] at hj
    rw [Th.ext_other (by omega), get, if_neg (by omega), if_neg (by omega)]
    exact h.fresh j (by omega)
  · by_cases hj1 : j = H.nx
    · subst hj1
      rw [Th.ext_same] at hj
      obtain rfl := Option.some.inj hj
      refine ⟨by omega, fun oj hoj => ?_⟩
      rw [get, if_neg (by omega), if_pos rfl] at hoj
      obtain rfl := Option.some.inj hoj
      exact ⟨c, by rw [hb]; exact hc, (ho c hc).mono hle⟩
    · rw [Th.ext_other hj1] at hj
      obtain ⟨q1, q2⟩ := h.obj j lj hj
      refine ⟨q1, fun oj hoj => ?_⟩
      rw [get] at hoj
      split at hoj
      · obtain rfl := Option.some.inj hoj
        exact ⟨w.heap[lj.b], Array.getElem?_eq_getElem q1, trivial⟩
      · (try rw [if_neg hj1] at hoj)
        obtain ⟨c', q3, q4⟩ := q2 oj hoj
        exact ⟨c', q3, q4.mono hle⟩
  · rw [get] at hgj
    split at hgj
    · obtain rfl := Option.some.inj hgj; simp [AObj.isOwn] at hoj
    · rename_i hji
      by_cases hj1 : j = H.nx
      · subst hj1
        rw [Th.ext_same] at hj
        obtain rfl := Option.some.inj hj
        refine ⟨by rw [hb]; exact hk, fun j' lj' oj' hj' hgj' ha hbb => ?_⟩
        by_cases hj2 : j' = H.nx
        · exact hj2
        · exfalso
          rw [Th.ext_other hj2] at hj'
          rw [get] at hgj'
          split at hgj'
          · obtain rfl := Option.some.inj hgj'; simp [AObj.alive] at ha
          · rename_i hne
            (try rw [if_neg hj2] at hgj')
            exact hne (hinj j' lj' oj' hj' hgj' ha (by rw [hbb, hb]))
      · rw [Th.ext_other hj1] at hj
        (try rw [if_neg hj1] at hgj)
        obtain ⟨q1, q2⟩ := h.own j lj oj hj hgj hoj
        refine ⟨q1, fun j' lj' oj' hj' hgj' ha hbb => ?_⟩
        by_cases hj2 : j' = H.nx
        · exfalso
          subst hj2
          rw [Th.ext_same] at hj'
          obtain rfl := Option.some.inj hj'
          exact hji (q2 i l o hi hg hia (by rw [← hb, hbb])).symm
        · rw [Th.ext_other hj2] at hj'
          rw [get] at hgj'
          split at hgj'
          · obtain rfl := Option.some.inj hgj'; simp [AObj.alive] at ha
          · (try rw [if_neg hj2] at hgj')
            exact q2 j' lj' oj' hj' hgj' ha hbb

theorem WRel.congr {K : Kept} {θ : Th} {H H' : Heap} {w : World} (h : WRel K θ H w) (hn : H'.nx = H.nx) (hg : ∀ j, H'.get j = H.get j) : WRel K θ H' w :=
  ⟨h.os, h.tape, h.output, h.good, h.kept, fun i hi => by rw [hg]; exact h.fresh i (by omega), fun i l hi => by simp only [hg]; exact h.obj i l hi, fun i l o hi ho hown => by
    rw [hg] at ho
    obtain ⟨q1, q2⟩ := h.own i l o hi ho hown
    exact ⟨q1, fun j l' o' hj ho' => by rw [hg] at ho'; exact q2 j l' o' hj ho'⟩⟩

theorem cZero_size {P : Program} {e : TypeId} {z : List AVal} {i : TypeInfo} (hi : P.info? e = some i) (hz : cZero P e = some z) : ∃ zv, i.zero = some zv ∧ zv.cells.size = z.length := by
  simp only [cZero, Option.bind_eq_some_iff, zero?, hi, Option.bind_some] at hz
  obtain ⟨zv, h1, h2⟩ := hz
  exact ⟨zv, h1, by rw [(absCs_rel (fun _ => none) h2).1.length, Array.length_toList]⟩

/-- Appended. -/
theorem app_sound {P : Program} {K : Kept} {θ : Th} {H H' : Heap} {w : World} (hw : WRel K θ H w) {t u ty e : TypeId} {i : TypeInfo} {z : List AVal} (ht : P.underlying t = some (.slice e)) (hu : AppT P u) (hi : P.info? e = some i) (hz : cZero P e = some z) (hzl : z.length = i.size) (h0 : 0 < i.size)
    {s x v : AVal} {us ux : Value} (hs : VRel θ s us) (hx : VRel θ x ux) (h : aApp H i.size i.bytes s x = some (v, H')) :
    ∃ θ' uv w', θ.Up H.nx θ' ∧ (Builtin.append_ #[t, u] ty #[us, ux]).run P w = .ok uv w' ∧ VRel θ' v uv ∧ WRel K θ' H' w' := by
  obtain ⟨zv, hz1, hz2⟩ := cZero_size hi hz
  unfold aApp at h
  split at h <;> (try simp only [reduceCtorEq] at h)
  rename_i news n hnews
  obtain ⟨nus, n1, n2, n3, n4, n5⟩ := news_sound (P := P) hw hx hnews
  have hgrow : ∀ (base : Option Addr) (sLen sCap : Nat) (olds : List Value) (acs : List AVal), VRels θ acs olds → (∀ u ∈ olds, u.oneCell' = true) → olds.length = sLen * i.size → (Builtin.firstCells i.size sLen (.slice base sLen sCap)).run P w.drew = .ok olds.toArray w.drew →
      sCap < sLen + n → (sLen + n) * i.bytes ≤ 1099511627776 → sLen + n ≤ 1099511627776 →
      ∃ uv w' l', (Builtin.append_ #[t, u] ty #[.slice base sLen sCap, ux]).run P w = .ok uv w' ∧ WRel K (θ.ext H.nx l') (H.push (.row (acs ++ news) true)) w' ∧ VRel (θ.ext H.nx l') (.sl H.nx 0 (sLen + n) none i.size) uv := by
    intro base sLen sCap olds acs ha ha1 hal hfo hg hb1 hb2
    have hrun := run_app_grows (P := P) (w := w) (ty := ty) ht hu hi hz1 base sLen sCap n4 (n5 w.drew rfl) hfo hg hb1 hb2
    have hge := grownCap_ge w (sLen + n) sCap e
    have hzs : (Builtin.zeroCells zv.cells (grownCap w (sLen + n) sCap e - (sLen + n))).toList.length = (grownCap w (sLen + n) sCap e - (sLen + n)) * i.size := by
      rw [Array.length_toList, size_zeroCells, hz2, hzl]
    refine ⟨_, _, ⟨w.heap.size, 0, grownCap w (sLen + n) sCap e * i.size⟩, hrun, ?_, ?_⟩
    · have hd : WRel K θ H w.drew := hw.drew _
      refine hd.push (l := ⟨w.heap.size, 0, grownCap w (sLen + n) sCap e * i.size⟩) rfl ?_
      refine objRel_row (ha.append n1) (fun q hq => ?_) e rfl ?_
      · rcases List.mem_append.1 hq with hq | hq
        · exact ha1 q hq
        · exact n3 q hq
      · simp only [List.length_append, hal, n2, hzs, ← Nat.add_mul]
        congr 1
        omega
    · simp only [VRel]
      exact ⟨_, _, _, Th.ext_same _ _ _, rfl, hge, by simp, (fun k' hk' => nomatch hk'), fun _ => rfl⟩
  split at h <;> (try simp only [reduceCtorEq] at h)
  · simp only [VRel] at hs
    subst hs
    split at h
    · rename_i hn0
      subst hn0
      simp only [Option.some.injEq, Prod.mk.injEq] at h
      obtain ⟨rfl, rfl⟩ := h
      exact ⟨θ, .slice none 0 0, w, Th.Up.refl _ _, run_app_nothing ht hu hi n4 (n5 w rfl), by simp [VRel], hw⟩
    · split at h <;> (try simp only [Option.some.injEq, Prod.mk.injEq, reduceCtorEq] at h)
      rename_i hn0 hb
      obtain ⟨rfl, rfl⟩ := h
      obtain ⟨uv, w', l', g1, g2, g3⟩ := hgrow none 0 0 [] [] VRels.nil (by simp) (by simp) (by simp [Builtin.firstCells]) (by omega) (by simpa using hb.1) (by simpa using hb.2)
      simp only [Nat.zero_add] at g3
      exact ⟨_, uv, w', Th.ext_up hw _, g1, g3, by simpa using g2⟩
  · rename_i id o m k e'
    split at h <;> (try simp only [reduceCtorEq] at h)
    rename_i he
    subst he
    have hs0 := hs
    simp only [VRel] at hs
    obtain ⟨l, a, c, hl, rfl, hmc, hsz, hk, ha⟩ := hs
    split at h
    · rename_i hn0
      subst hn0
      simp only [Option.some.injEq, Prod.mk.injEq] at h
      obtain ⟨rfl, rfl⟩ := h
      have hnus : nus = [] := List.eq_nil_of_length_eq_zero (by simpa using n2)
      subst hnus
      refine ⟨θ, .slice (some a) m c, w, Th.Up.refl _ _, ?_, hs0, hw⟩
      have := run_app_in (P := P) (w := w) (w' := w) (ty := ty) ht hu hi a m c n4 (n5 w rfl) (by omega) (by simp [storeCells])
      simpa using this
    · rename_i hn0
      split at h <;> (try simp only [reduceCtorEq] at h)
      rename_i cs own hg
      split at h <;> (try simp only [reduceCtorEq] at h)
      rename_i hb
      obtain ⟨hb0, hb1, hb2⟩ := hb
      have hold : ∃ olds : List Value, VRels θ ((cs.drop o).take (m * i.size)) olds ∧ (∀ q ∈ olds, q.oneCell' = true) ∧ olds.length = m * i.size ∧ (Builtin.firstCells i.size m (.slice (some a) m c)).run P w.drew = .ok olds.toArray w.drew := by
        by_cases hm : 0 < m
        · have := ha (by omega)
          subst this
          obtain ⟨olds, q1, q2, q3, q4⟩ := (hw.drew (w.drawn + 1)).cellsAt hl hg hb0 P
          exact ⟨olds, q3, q4, q1, by simpa [Builtin.firstCells] using q2⟩
        · have hm0 : m = 0 := by omega
          subst hm0
          exact ⟨[], by simp [VRels], by simp, by simp, by simp [Builtin.firstCells, loadCells, loadCellsFrom]⟩
      obtain ⟨olds, q1, q2, q3, q4⟩ := hold
      have hne : 0 < m + n := by omega
      -- in place
      have hin : own = true → m + n ≤ c → ∀ ncs : List AVal, ncs = cs → ∃ w', (Builtin.append_ #[t, u] ty #[.slice (some a) m c, ux]).run P w = .ok (.slice (some a) (m + n) c) w' ∧ (storeCells ⟨l.b, l.d + (o + m * i.size), none⟩ nus).run P w = .ok () w' := by
        intro ho hroom ncs hncs
        obtain ⟨hlt, h2⟩ := hw.obj id l hl
        obtain ⟨cc, hc, c', e2, fr, rfl, hsz', hlen', _, hfr⟩ := h2 _ hg
        obtain rfl := hfr ho
        have had := ha (by omega)
        have hmul : (m + n) * i.size ≤ c * i.size := Nat.mul_le_mul_right _ hroom
        rw [Nat.add_mul] at hmul
        have hrun := run_storeCells_at P l.b (l.d + (o + m * i.size)) e2 nus 0 c' w hc (by rw [n2]; omega) n3
        refine ⟨_, ?_, hrun⟩
        refine run_app_in ht hu hi a m c n4 (n5 w rfl) hroom ?_
        rw [had, Addr.add_lit, Nat.add_assoc]
        exact hrun
      cases k with
      | some kk =>
        have hck := hk kk rfl
        subst hck
        simp only at h
        split at h
        · rename_i hfit
          split at h <;> (try simp only [Option.some.injEq, Prod.mk.injEq, reduceCtorEq] at h)
          rename_i hown
          obtain ⟨ho, hol⟩ := hown
          obtain ⟨rfl, rfl⟩ := h
          subst ho
          obtain ⟨w', r1, r2⟩ := hin rfl hfit cs rfl
          have hnl : news.length = n * i.size := by rw [n1.length, n2]
          rw [Nat.add_mul] at hol
          obtain ⟨w'', s1, s2, _⟩ := hw.setCells hl hg (o := o + m * i.size) n1 n3 (by omega) P
          rw [r2] at s1
          obtain rfl : w' = w'' := by injection s1
          refine ⟨θ, _, w', Th.Up.refl _ _, r1, ?_, s2⟩
          simp only [VRel]
          exact ⟨l, a, c, hl, rfl, hfit, hsz, fun k' hk' => Option.some.inj hk', ha⟩
        · rename_i hfit
          simp only [Option.some.injEq, Prod.mk.injEq] at h
          obtain ⟨rfl, rfl⟩ := h
          obtain ⟨uv, w', l', g1, g2, g3⟩ := hgrow (some a) m c olds _ q1 q2 q3 q4 (by omega) hb1 hb2
          exact ⟨_, uv, w', Th.ext_up hw _, g1, g3, g2⟩
      | none =>
        simp only at h
        split at h <;> (try simp only [Option.some.injEq, Prod.mk.injEq, reduceCtorEq] at h)
        rename_i hown
        obtain ⟨ho, hol⟩ := hown
        obtain ⟨rfl, rfl⟩ := h
        subst ho
        have htake : (cs.drop o).take (m * i.size) = cs.drop o := by
          rw [List.take_of_length_le]; simp; omega
        by_cases hfit : m + n ≤ c
        · obtain ⟨hlt, h2⟩ := hw.obj id l hl
          obtain ⟨cc, hc, c', e2, fr, rfl, hsz', hlen', h5, hfr⟩ := h2 _ hg
          obtain rfl := hfr rfl
          have had := ha (by omega)
          have hmul : (m + n) * i.size ≤ c * i.size := Nat.mul_le_mul_right _ hfit
          rw [Nat.add_mul] at hmul
          have hrun := run_storeCells_at P l.b (l.d + (o + m * i.size)) e2 nus 0 c' w hc (by rw [n2]; omega) n3
          have hsl : (splice c'.toList (l.d + (o + m * i.size)) nus).length = c'.size := by rw [splice_length _ _ _ (by simp; omega)]; simp
          generalize hw'' : w.setRow l.b _ = w' at hrun
          have hb' : w'.heap[l.b]? = some (.cells (splice c'.toList (l.d + (o + m * i.size)) nus).toArray e2 (0, 0)) := by
            rw [← hw'']
            have := setRow_heap w l.b c' (splice c'.toList (l.d + (o + m * i.size)) nus).toArray e2 (0, 0) hc
            simpa [splice] using this
          have hturn : WRel K θ (H.put id (.row [] true)) w' := by
            refine hw.turn hl hg rfl (c := .cells (splice c'.toList (l.d + (o + m * i.size)) nus).toArray e2 (0, 0)) ?_ ?_ hb' ?_ ?_
            · rw [← hw'']; exact ⟨rfl, rfl, rfl⟩
            · rw [← hw'']; simp
            · intro b hbne; rw [← hw'']; exact setRow_other w l.b b _ hbne
            · refine ⟨_, e2, (0, 0), rfl, ?_, ?_, fun j x hj => by simp at hj, fun _ => rfl⟩
              · simp [hsl, hsz']
              · simp [hsl]; omega
          have hidl : id < H.nx := by
            rcases Nat.lt_or_ge id H.nx with q | q
            · exact q
            · rw [(hw.fresh id q).1] at hl; cases hl
          have hren := hturn.rename (l' := ⟨l.b, l.d + o, l.sz⟩) (o' := .row (cs.drop o ++ news) true) hl (by rw [Heap.get_put, if_pos rfl]) rfl rfl (by
            intro c2 hc2
            rw [hb'] at hc2
            obtain rfl := Option.some.inj hc2
            have hnl := n1.length
            refine ⟨_, e2, (0, 0), rfl, by simp [hsl, hsz'], ?_, fun j x hj => ?_, fun _ => rfl⟩
            · simp [hsl]; omega
            · rw [List.getElem?_toArray]
              by_cases hjm : j < m * i.size
              · rw [List.getElem?_append_left (by simp; omega), List.getElem?_drop] at hj
                obtain ⟨q, w1, w2, w3⟩ := h5 _ x hj
                refine ⟨q, ?_, w2, w3⟩
                rw [← w1]
                simp only [splice]
                rw [List.getElem?_append_left (by simp; omega), List.getElem?_append_left (by simp; omega), List.getElem?_take, if_pos (by omega)]
                simp [Nat.add_assoc]
              · rw [List.getElem?_append_right (by simp; omega)] at hj
                obtain ⟨q, w1, w2⟩ := n1.get _ _ hj
                have hjn : j - (cs.drop o).length < nus.length := (List.getElem?_eq_some_iff.1 w1).1
                simp only [List.length_drop] at hjn
                refine ⟨q, ?_, w2, n3 q (List.mem_of_getElem? w1)⟩
                rw [← w1]
                simp only [splice]
                rw [List.getElem?_append_left (by simp; omega), List.getElem?_append_right (by simp; omega)]
                congr 1
                simp; omega)
          refine ⟨_, .slice (some a) (m + n) c, w', Th.ext_up hw _, ?_, ?_, hren.congr rfl (fun j => ?_)⟩
          · refine run_app_in ht hu hi a m c n4 (n5 w rfl) hfit ?_
            rw [had, Addr.add_lit, Nat.add_assoc]
            exact hrun
          · simp only [VRel]
            refine ⟨_, a, c, Th.ext_same _ _ _, rfl, hfit, ?_, (fun k' hk' => nomatch hk'), fun hc0 => by rw [ha hc0]; rfl⟩
            simp; omega
          · simp only [Heap.get_put, Heap.get_push, Heap.nx_put]
            by_cases hji : j = id
            · simp [hji]
            · simp [hji]
        · obtain ⟨uv, w', l', g1, g2, g3⟩ := hgrow (some a) m c olds _ q1 q2 q3 q4 (by omega) hb1 hb2
          rw [htake] at g2
          refine ⟨_, uv, w', Th.ext_up hw _, g1, g3, g2.kill ?_⟩
          have hidl : id < H.nx := by
            rcases Nat.lt_or_ge id H.nx with q | q
            · exact q
            · rw [(hw.fresh id q).1] at hl; cases hl
          rw [Heap.nx_push]; omega

end
end AM
end Go.Proofs.YtlgbgbngdhhjaaaGreatDoor
