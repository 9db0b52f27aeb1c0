/- Joins and meets are least and greatest; the laws' common steps; arguments as they come in. No condition. -/
import Derived.Test.YtlgbgbngdhhjaaaGreatDoorB11
import Derived.Test.YtlgbgbngdhhjaaaGreatDoorB07
import Derived.Test.YtlgbgbngdhhjaaaGreatDoorB06
import Derived.Deep.Strs
import Derived.Lib.SmallJoins
set_option linter.unusedSimpArgs false
set_option linter.unusedVariables false
set_option maxRecDepth 10000
namespace Go.Proofs.YtlgbgbngdhhjaaaGreatDoor
namespace K
noncomputable section
open Go AM

structure PL (A B L : List Hd) (ps : List Pt) : Prop where
  oA : OkL A
  oB : OkL B
  oL : OkL L
  len : L.length = ps.length
  vw : ∀ (j : Nat) p l, ps[j]? = some p → L[j]? = some l → PV A B ps p l
  rg : ∀ p ∈ ps, p.a < (A.length : Int) ∧ p.b < (B.length : Int)

theorem PL.swap {A B L : List Hd} {ps : List Pt} (w : PL A B L ps) : PL B A L (ps.map Pt.swap) := by
  refine ⟨w.oB, w.oA, w.oL, by rw [w.len]; simp, fun j p l hp hl => ?_, fun p hp => ?_⟩
  · rw [List.getElem?_map] at hp
    cases hq : ps[j]? with
    | none => rw [hq] at hp; cases hp
    | some q =>
      rw [hq] at hp
      simp at hp
      rw [← hp]
      exact (w.vw j q l hq hl).swap
  · simp only [List.mem_map] at hp
    obtain ⟨q, hq, rfl⟩ := hp
    exact (w.rg q hq).symm

theorem nmIn_mk {j xo yo : Bool} {s : List Nat} {xs ys : List (List Nat)} (h1 : s ∈ xs ∨ s ∈ ys) (h2 : xo = j → s ∈ xs) (h3 : yo = j → s ∈ ys) : nmIn j xo yo s xs ys := ⟨h1, h2, h3⟩

/-- Both sides' bounds, the first side. -/
theorem PL.upA {A B L : List Hd} {ps : List Pt} (w : PL A B L ps) :
    (∀ (j : Nat) p (i : Nat), ps[j]? = some p → p.join = true → p.a = (i : Int) → Bel A i L j) ∧ (∀ (j : Nat) p (i : Nat), ps[j]? = some p → p.join = false → p.a = (i : Int) → Bel L j A i) := by
  obtain ⟨U, hU⟩ : ∃ U : Nat → Nat → Prop, U = fun (i j : Nat) => ∃ p : Pt, ps[j]? = some p ∧ p.join = true ∧ p.a = (i : Int) := ⟨_, rfl⟩
  obtain ⟨D, hD⟩ : ∃ D : Nat → Nat → Prop, D = fun (j i : Nat) => ∃ p : Pt, ps[j]? = some p ∧ p.join = false ∧ p.a = (i : Int) := ⟨_, rfl⟩
  have mkU : ∀ {i j : Nat} {p : Pt}, ps[j]? = some p → p.join = true → p.a = (i : Int) → U i j := fun h1 h2 h3 => by rw [hU]; exact ⟨_, h1, h2, h3⟩
  have mkD : ∀ {i j : Nat} {p : Pt}, ps[j]? = some p → p.join = false → p.a = (i : Int) → D j i := fun h1 h2 h3 => by rw [hD]; exact ⟨_, h1, h2, h3⟩
  have rgU : ∀ i j, U i j → i < A.length ∧ j < L.length := fun i j h => by
    rw [hU] at h
    obtain ⟨p, h1, _, h3⟩ := h
    have := w.rg p (List.mem_of_getElem? h1)
    exact ⟨by omega, by rw [w.len]; exact (List.getElem?_eq_some_iff.1 h1).1⟩
  have rgD : ∀ j i, D j i → i < A.length ∧ j < L.length := fun j i h => by
    rw [hD] at h
    obtain ⟨p, h1, _, h3⟩ := h
    have := w.rg p (List.mem_of_getElem? h1)
    exact ⟨by omega, by rw [w.len]; exact (List.getElem?_eq_some_iff.1 h1).1⟩
  have co := Bel.co w.oA w.oL U D rgU rgD (fun i j x l hx hl hu => ?_) (fun i j x l hx hl hd => ?_)
  · exact ⟨fun j p i h1 h2 h3 => co.1 i j (mkU h1 h2 h3), fun j p i h1 h2 h3 => co.2 j i (mkD h1 h2 h3)⟩
  · rw [hU] at hu
    obtain ⟨p, hp, hj, ha⟩ := hu
    have ox := w.oA i x hx
    have ol := w.oL j l hl
    cases w.vw j p l hp hl with
    | sA i' x' e1 e2 v _ =>
      have : i' = i := by omega
      subst this
      rw [hx] at e2
      obtain rfl := Option.some.inj e2
      rw [hj] at v
      refine .inr (.inr ⟨v.kind.symm, fun e h0 h1 k0 k1 g1 g2 => ?_, fun e s y hy => ?_, fun e ho => by rw [v.opn]; exact ho, fun e s k hk => ?_, fun e ho s y hy hn => ?_⟩)
      · obtain ⟨m0, m1, a, b, c⟩ := v.fn e h0 h1 g1
        rw [a] at g2
        simp only [List.cons.injEq, Int.natCast_inj, and_true] at g2
        obtain ⟨rfl, rfl⟩ := g2
        exact ⟨mkD b rfl rfl, mkU c rfl rfl⟩
      · obtain ⟨k, a, b⟩ := v.fro (by omega) s y hy
        exact ⟨k, a, mkU b rfl rfl⟩
      · obtain ⟨m, a, b⟩ := v.to (by omega) s k hk
        exact .inl ⟨m, a, mkU b rfl rfl⟩
      · obtain ⟨k, a, b⟩ := v.fro (by omega) s y hy
        omega
    | sB j' y e1 e2 v e3 =>
      rw [hj] at v e3
      rcases e3 with e3 | ⟨i', x', a, b, c⟩
      · omega
      · have : i' = i := by omega
        subst this
        rw [hx] at b
        obtain rfl := Option.some.inj b
        rcases c with c | c
        · exact .inl c
        · exact .inr (.inl (by rw [v.kind]; exact c))
    | df _ _ _ _ _ _ _ _ _ _ _ e => rw [hj] at e; exact .inr (.inl e)
    | fn i' j' x' y x0 x1 y0 y1 m0 m1 e1 e2 e3 e4 e5 e6 e7 e8 e9 e10 e11 e12 =>
      have : i' = i := by omega
      subst this
      rw [hx] at e2
      obtain rfl := Option.some.inj e2
      rw [hj] at e11 e12
      refine .inr (.inr ⟨by omega, fun e h0 h1 k0 k1 g1 g2 => ?_, fun e => by omega, fun e => by omega, fun e => by omega, fun e => by omega⟩)
      rw [e8] at g1
      rw [e10] at g2
      simp only [List.cons.injEq, Int.natCast_inj, and_true] at g1 g2
      obtain ⟨rfl, rfl⟩ := g1
      obtain ⟨rfl, rfl⟩ := g2
      exact ⟨mkD e11 rfl rfl, mkU e12 rfl rfl⟩
    | n8 i' j' x' y e1 e2 e3 e4 e5 e6 v =>
      have : i' = i := by omega
      subst this
      rw [hx] at e2
      obtain rfl := Option.some.inj e2
      rw [hj] at v
      refine .inr (.inr ⟨v.kind.symm, fun e => by omega, fun e s y hy => ?_, fun e => by omega, fun e => by omega, fun e => by omega⟩)
      have hs := (find_some ol).1 ⟨y, hy⟩
      obtain ⟨m, a, b⟩ := v.to s hs
      obtain ⟨k, hk⟩ := (find_some ox).2 (((v.names s).1 hs).2.1 rfl)
      have : m = y := by omega
      subst this
      exact ⟨k, hk, mkU b rfl hk⟩
    | n9 i' j' x' y e1 e2 e3 e4 e5 e6 v e7 =>
      have : i' = i := by omega
      subst this
      rw [hx] at e2
      obtain rfl := Option.some.inj e2
      rw [hj] at v e7
      simp only [if_true] at e7
      refine .inr (.inr ⟨v.kind.symm, fun e => by omega, fun e => by omega, fun e ho => by rw [e7, ho]; rfl, fun e s k hk => ?_, fun e ho s y hy hn => ?_⟩)
      · have hsx := (find_some ox).1 ⟨k, hk⟩
        by_cases hs : s ∈ l.names
        · obtain ⟨m, a, b⟩ := v.to s hs
          exact .inl ⟨m, a, mkU b rfl hk⟩
        · refine .inr ⟨findK_none hs, ?_⟩
          rw [v.names] at hs
          unfold nmIn at hs
          cases hyo : y.opn with
          | true => rw [e7, hyo]; simp
          | false =>
            exact absurd ⟨.inl hsx, fun _ => hsx, fun h => by rw [hyo] at h; cases h⟩ hs
      · have hs := (find_some ol).1 ⟨y, hy⟩
        have := ((v.names s).1 hs).2.1 ho
        exact absurd this ((find_none ox).1 hn)
    | cs i' j' x' y e1 e2 e3 e4 e5 e6 e7 e8 e9 =>
      have : i' = i := by omega
      subst this
      rw [hx] at e2
      obtain rfl := Option.some.inj e2
      exact .inr (.inr ⟨e9.symm, fun e => absurd e e6, fun e => absurd e e7, fun e => absurd e e8, fun e => absurd e e8, fun e => absurd e e8⟩)
  · rw [hD] at hd
    obtain ⟨p, hp, hj, ha⟩ := hd
    have ox := w.oA i x hx
    have ol := w.oL j l hl
    cases w.vw j p l hp hl with
    | sA i' x' e1 e2 v _ =>
      have : i' = i := by omega
      subst this
      rw [hx] at e2
      obtain rfl := Option.some.inj e2
      rw [hj] at v
      have vk := v.kind
      refine .inr (.inr ⟨v.kind, fun e h0 h1 k0 k1 g1 g2 => ?_, fun e s y hy => ?_, fun e ho => by rw [← v.opn]; exact ho, fun e s k hk => ?_, fun e ho s y hy hn => ?_⟩)
      · obtain ⟨m0, m1, a, b, c⟩ := v.fn (by omega) k0 k1 g2
        rw [a] at g1
        simp only [List.cons.injEq, Int.natCast_inj, and_true] at g1
        obtain ⟨rfl, rfl⟩ := g1
        exact ⟨mkU b rfl rfl, mkD c rfl rfl⟩
      · obtain ⟨m, a, b⟩ := v.to (by omega) s y hy
        exact ⟨m, a, mkD b rfl rfl⟩
      · obtain ⟨m, a, b⟩ := v.fro (by omega) s k hk
        exact .inl ⟨m, a, mkD b rfl rfl⟩
      · obtain ⟨m, a, b⟩ := v.to (by omega) s y hy
        omega
    | sB j' y e1 e2 v e3 =>
      rw [hj] at v e3
      rcases e3 with e3 | ⟨i', x', a, b, c⟩
      · omega
      · have : i' = i := by omega
        subst this
        rw [hx] at b
        obtain rfl := Option.some.inj b
        rcases c with c | c
        · exact .inr (.inl c)
        · exact .inl (by rw [v.kind]; exact c)
    | df _ _ _ _ _ _ _ _ _ _ _ e => rw [hj] at e; exact .inl e
    | fn i' j' x' y x0 x1 y0 y1 m0 m1 e1 e2 e3 e4 e5 e6 e7 e8 e9 e10 e11 e12 =>
      have : i' = i := by omega
      subst this
      rw [hx] at e2
      obtain rfl := Option.some.inj e2
      rw [hj] at e11 e12
      refine .inr (.inr ⟨by omega, fun e h0 h1 k0 k1 g1 g2 => ?_, fun e => by omega, fun e => by omega, fun e => by omega, fun e => by omega⟩)
      rw [e8] at g2
      rw [e10] at g1
      simp only [List.cons.injEq, Int.natCast_inj, and_true] at g1 g2
      obtain ⟨rfl, rfl⟩ := g1
      obtain ⟨rfl, rfl⟩ := g2
      exact ⟨mkU e11 rfl rfl, mkD e12 rfl rfl⟩
    | n8 i' j' x' y e1 e2 e3 e4 e5 e6 v =>
      have : i' = i := by omega
      subst this
      rw [hx] at e2
      obtain rfl := Option.some.inj e2
      rw [hj] at v
      have vk := v.kind
      refine .inr (.inr ⟨v.kind, fun e => by omega, fun e s k hk => ?_, fun e => by omega, fun e => by omega, fun e => by omega⟩)
      have hsx := (find_some ox).1 ⟨k, hk⟩
      have hs : s ∈ l.names := (v.names s).2 (nmIn_mk (.inl hsx) (fun h => by cases h) (fun h => by cases h))
      obtain ⟨m, a, b⟩ := v.to s hs
      exact ⟨m, a, mkD b rfl hk⟩
    | n9 i' j' x' y e1 e2 e3 e4 e5 e6 v e7 =>
      have : i' = i := by omega
      subst this
      rw [hx] at e2
      obtain rfl := Option.some.inj e2
      rw [hj] at v e7
      simp only [Bool.false_eq_true, if_false] at e7
      have vk := v.kind
      refine .inr (.inr ⟨v.kind, fun e => by omega, fun e => by omega, fun e ho => by rw [e7, Bool.and_eq_true] at ho; exact ho.1, fun e s m hm => ?_, fun e ho s k hk hn => ?_⟩)
      · have hs := (find_some ol).1 ⟨m, hm⟩
        obtain ⟨m', a, b⟩ := v.to s hs
        have : m' = m := by omega
        subst this
        rcases ox.find s with h | h
        · refine .inr ⟨h, ?_⟩
          have hn := (find_none ox).1 h
          cases hxo : x.opn with
          | true => rfl
          | false => exact absurd (((v.names s).1 hs).2.1 hxo) hn
        · obtain ⟨k, hk, _⟩ := nat_of h
          exact .inl ⟨k, hk, mkD b rfl hk⟩
      · rw [e7, Bool.and_eq_true] at ho
        have hsx := (find_some ox).1 ⟨k, hk⟩
        have hs : s ∈ l.names := (v.names s).2 (nmIn_mk (.inl hsx) (fun h => by rw [ho.1] at h; cases h) (fun h => by rw [ho.2] at h; cases h))
        exact absurd hs ((find_none ol).1 hn)
    | cs i' j' x' y e1 e2 e3 e4 e5 e6 e7 e8 e9 =>
      have : i' = i := by omega
      subst this
      rw [hx] at e2
      obtain rfl := Option.some.inj e2
      exact .inr (.inr ⟨e9, fun e => absurd (by omega) e6, fun e => absurd (by omega) e7, fun e => absurd (by omega) e8, fun e => absurd (by omega) e8, fun e => absurd (by omega) e8⟩)

theorem PL.upB {A B L : List Hd} {ps : List Pt} (w : PL A B L ps) :
    (∀ (j : Nat) p (i : Nat), ps[j]? = some p → p.join = true → p.b = (i : Int) → Bel B i L j) ∧ (∀ (j : Nat) p (i : Nat), ps[j]? = some p → p.join = false → p.b = (i : Int) → Bel L j B i) := by
  obtain ⟨h1, h2⟩ := w.swap.upA
  exact ⟨fun j p i a b c => h1 j p.swap i (swap_get.2 a) b c, fun j p i a b c => h2 j p.swap i (swap_get.2 a) b c⟩

/-- A meet of what is 'any' on each side is 'any'. -/
theorem PL.any {A B L : List Hd} {ps : List Pt} (w : PL A B L ps) {m : Nat} {q : Pt} (hq : ps[m]? = some q) (hj : q.join = false) (ha : ∀ i : Nat, q.a = (i : Int) → ∃ b, A[i]? = some b ∧ b.kind = 5) (hb : ∀ i : Nat, q.b = (i : Int) → ∃ b, B[i]? = some b ∧ b.kind = 5) : ∃ b, L[m]? = some b ∧ b.kind = 5 := by
  have hml : m < L.length := by rw [w.len]; exact (List.getElem?_eq_some_iff.1 hq).1
  have hl : L[m]? = some L[m] := List.getElem?_eq_getElem hml
  refine ⟨_, hl, ?_⟩
  have ga : ∀ (i : Nat) x, q.a = (i : Int) → A[i]? = some x → x.kind = 5 := fun i x h1 h2 => by
    obtain ⟨b, b1, b2⟩ := ha i h1
    rw [h2] at b1
    rw [Option.some.inj b1]; exact b2
  have gb : ∀ (i : Nat) x, q.b = (i : Int) → B[i]? = some x → x.kind = 5 := fun i x h1 h2 => by
    obtain ⟨b, b1, b2⟩ := hb i h1
    rw [h2] at b1
    rw [Option.some.inj b1]; exact b2
  cases w.vw m q _ hq hl with
  | sA i x e1 e2 v _ => rw [v.kind]; exact ga i x e1 e2
  | sB i x e1 e2 v _ => rw [v.kind]; exact gb i x e1 e2
  | df i j x y e1 e2 e3 e4 e5 _ _ _ => exact absurd ((ga i x e1 e2).trans (gb j y e3 e4).symm) e5
  | fn i j x y _ _ _ _ _ _ e1 e2 _ _ e5 _ _ _ _ _ _ _ => have := ga i x e1 e2; omega
  | n8 i j x y e1 e2 _ _ e5 _ _ => have := ga i x e1 e2; omega
  | n9 i j x y e1 e2 _ _ e5 _ _ _ => have := ga i x e1 e2; omega
  | cs i j x y e1 e2 _ _ _ _ _ _ e9 => rw [e9]; exact ga i x e1 e2

/-! ### The closest -/
theorem sideU {X C : List Hd} {ps : List Pt} {kp : Nat → Bool → Pt} {U D : Nat → Nat → Prop} {x l z : Hd} {i c n : Nat} (oX : OkL X) (oC : OkL C) (ol : HOk n l) (v : SV ps x l kp true) (hx : X[i]? = some x) (hz : C[c]? = some z) (b : Bel X i C c)
    (hU : ∀ (k c' m : Nat), Bel X k C c' → ps[m]? = some (kp k true) → U m c') (hD : ∀ (c' k m : Nat), Bel C c' X k → ps[m]? = some (kp k false) → D c' m) : May C U D l z := by
  have ox := oX i x hx
  have oz := oC c z hz
  have vk := v.kind
  rcases b.may oX oC hx hz with m | m | m
  · exact .inl (by omega)
  · exact .inr (.inl m)
  have mk := m.kind
  refine .inr (.inr ⟨by omega, fun e h0 h1 k0 k1 g1 g2 => ?_, fun e s y hy => ?_, fun e ho => m.op (by omega) (by rw [← v.opn]; exact ho), fun e s w hw => ?_, fun e ho s y hy hn => ?_⟩)
  · obtain ⟨x0, x1, gx, _⟩ := two_kids ox (by omega)
    obtain ⟨m0, m1, a, b, c⟩ := v.fn (by omega) x0 x1 gx
    rw [a] at g1
    simp only [List.cons.injEq, Int.natCast_inj, and_true] at g1
    obtain ⟨rfl, rfl⟩ := g1
    obtain ⟨d1, d2⟩ := m.fn (by omega) x0 x1 k0 k1 gx g2
    exact ⟨hD _ _ _ d1 b, hU _ _ _ d2 c⟩
  · obtain ⟨k, a, b⟩ := m.rc (by omega) s y hy
    obtain ⟨m', c, d⟩ := v.to (by omega) s k a
    exact ⟨m', c, hU _ _ _ b d⟩
  · obtain ⟨k, a, b⟩ := v.fro (by omega) s w hw
    rcases m.va (by omega) s k a with ⟨y, c, d⟩ | h
    · exact .inl ⟨y, c, hU _ _ _ d b⟩
    · exact .inr h
  · refine m.vb (by omega) (by rw [← v.opn]; exact ho) s y hy ?_
    rw [find_none ox, ← v.names]
    exact (find_none ol).1 hn

theorem sideD {X C L : List Hd} {ps : List Pt} {kp : Nat → Bool → Pt} {U D : Nat → Nat → Prop} {x l z : Hd} {i c n : Nat} (oX : OkL X) (oC : OkL C) (ol : HOk n l) (v : SV ps x l kp false) (hx : X[i]? = some x) (hz : C[c]? = some z) (b : Bel C c X i)
    (hU : ∀ (k c' m : Nat), Bel X k C c' → ps[m]? = some (kp k true) → U m c') (hD : ∀ (c' k m : Nat), Bel C c' X k → ps[m]? = some (kp k false) → D c' m) (hany : ∀ (k m : Nat), ps[m]? = some (kp k false) → (∃ b, X[k]? = some b ∧ b.kind = 5) → ∃ b, L[m]? = some b ∧ b.kind = 5) : May L D U z l := by
  have ox := oX i x hx
  have oz := oC c z hz
  have vk := v.kind
  rcases b.may oC oX hz hx with m | m | m
  · exact .inl m
  · exact .inr (.inl (by omega))
  have mk := m.kind
  refine .inr (.inr ⟨by omega, fun e h0 h1 k0 k1 g1 g2 => ?_, fun e s w hw => ?_, fun e ho => by rw [v.opn]; exact m.op e ho, fun e s y hy => ?_, fun e ho s w hw hn => ?_⟩)
  · obtain ⟨x0, x1, gx, _⟩ := two_kids ox (by omega)
    obtain ⟨m0, m1, a, b, c⟩ := v.fn (by omega) x0 x1 gx
    rw [a] at g2
    simp only [List.cons.injEq, Int.natCast_inj, and_true] at g2
    obtain ⟨rfl, rfl⟩ := g2
    obtain ⟨d1, d2⟩ := m.fn e h0 h1 x0 x1 g1 gx
    exact ⟨hU _ _ _ d1 b, hD _ _ _ d2 c⟩
  · obtain ⟨k, a, b⟩ := v.fro (by omega) s w hw
    obtain ⟨y, c, d⟩ := m.rc e s k a
    exact ⟨y, c, hD _ _ _ d b⟩
  · rcases m.va e s y hy with ⟨k, a, b⟩ | ⟨h1, h2⟩
    · obtain ⟨m', c, d⟩ := v.to (by omega) s k a
      exact .inl ⟨m', c, hD _ _ _ b d⟩
    · refine .inr ⟨?_, by rw [v.opn]; exact h2⟩
      rw [find_none ol, v.names]
      exact (find_none ox).1 h1
  · obtain ⟨k, a, b⟩ := v.fro (by omega) s w hw
    exact hany k w b (m.vb e ho s k a hn)

theorem PL.least {A B L C : List Hd} {ps : List Pt} (w : PL A B L ps) (oC : OkL C) :
    (∀ (j c : Nat) p, c < C.length → ps[j]? = some p → p.join = true → (∀ i : Nat, p.a = (i : Int) → Bel A i C c) → (∀ i : Nat, p.b = (i : Int) → Bel B i C c) → Bel L j C c) ∧
    (∀ (j c : Nat) p, c < C.length → ps[j]? = some p → p.join = false → (∀ i : Nat, p.a = (i : Int) → Bel C c A i) → (∀ i : Nat, p.b = (i : Int) → Bel C c B i) → Bel C c L j) := by
  obtain ⟨U, hU⟩ : ∃ U : Nat → Nat → Prop, U = fun (j c : Nat) => c < C.length ∧ ∃ p : Pt, ps[j]? = some p ∧ p.join = true ∧ (∀ i : Nat, p.a = (i : Int) → Bel A i C c) ∧ ∀ i : Nat, p.b = (i : Int) → Bel B i C c := ⟨_, rfl⟩
  obtain ⟨D, hD⟩ : ∃ D : Nat → Nat → Prop, D = fun (c j : Nat) => c < C.length ∧ ∃ p : Pt, ps[j]? = some p ∧ p.join = false ∧ (∀ i : Nat, p.a = (i : Int) → Bel C c A i) ∧ ∀ i : Nat, p.b = (i : Int) → Bel C c B i := ⟨_, rfl⟩
  have mkU : ∀ {j c : Nat} {p : Pt}, c < C.length → ps[j]? = some p → p.join = true → (∀ i : Nat, p.a = (i : Int) → Bel A i C c) → (∀ i : Nat, p.b = (i : Int) → Bel B i C c) → U j c := fun h0 h1 h2 h3 h4 => by rw [hU]; exact ⟨h0, _, h1, h2, h3, h4⟩
  have mkD : ∀ {j c : Nat} {p : Pt}, c < C.length → ps[j]? = some p → p.join = false → (∀ i : Nat, p.a = (i : Int) → Bel C c A i) → (∀ i : Nat, p.b = (i : Int) → Bel C c B i) → D c j := fun h0 h1 h2 h3 h4 => by rw [hD]; exact ⟨h0, _, h1, h2, h3, h4⟩
  have one : ∀ {a b : Nat}, ((a : Int) = (b : Int)) → a = b := fun h => by omega
  have uA : ∀ k c' m, Bel A k C c' → ps[m]? = some (kpA k true) → U m c' := fun k c' m h g => mkU h.lt.2 g rfl (fun i e => by have : k = i := one e; exact this ▸ h) (fun i e => by have : (-1 : Int) = i := e; omega)
  have dA : ∀ c' k m, Bel C c' A k → ps[m]? = some (kpA k false) → D c' m := fun c' k m h g => mkD h.lt.1 g rfl (fun i e => by have : k = i := one e; exact this ▸ h) (fun i e => by have : (-1 : Int) = i := e; omega)
  have uB : ∀ k c' m, Bel B k C c' → ps[m]? = some (kpB k true) → U m c' := fun k c' m h g => mkU h.lt.2 g rfl (fun i e => by have : (-1 : Int) = i := e; omega) (fun i e => by have : k = i := one e; exact this ▸ h)
  have dB : ∀ c' k m, Bel C c' B k → ps[m]? = some (kpB k false) → D c' m := fun c' k m h g => mkD h.lt.1 g rfl (fun i e => by have : (-1 : Int) = i := e; omega) (fun i e => by have : k = i := one e; exact this ▸ h)
  have nA : ∀ (k m : Nat), ps[m]? = some (kpA k false) → (∃ b, A[k]? = some b ∧ b.kind = 5) → ∃ b, L[m]? = some b ∧ b.kind = 5 := fun k m g h => w.any g rfl (fun i e => by have : k = i := one e; exact this ▸ h) (fun i e => by have : (-1 : Int) = i := e; omega)
  have nB : ∀ (k m : Nat), ps[m]? = some (kpB k false) → (∃ b, B[k]? = some b ∧ b.kind = 5) → ∃ b, L[m]? = some b ∧ b.kind = 5 := fun k m g h => w.any g rfl (fun i e => by have : (-1 : Int) = i := e; omega) (fun i e => by have : k = i := one e; exact this ▸ h)
  have co := Bel.co w.oL oC U D (fun j c h => by
      rw [hU] at h
      obtain ⟨h0, p, h1, _⟩ := h
      exact ⟨by rw [w.len]; exact (List.getElem?_eq_some_iff.1 h1).1, h0⟩) (fun c j h => by
      rw [hD] at h
      obtain ⟨h0, p, h1, _⟩ := h
      exact ⟨by rw [w.len]; exact (List.getElem?_eq_some_iff.1 h1).1, h0⟩) (fun j c l z hl hz hu => ?_) (fun j c l z hl hz hd => ?_)
  · exact ⟨fun j c p h0 h1 h2 h3 h4 => co.1 j c (mkU h0 h1 h2 h3 h4), fun j c p h0 h1 h2 h3 h4 => co.2 c j (mkD h0 h1 h2 h3 h4)⟩
  · rw [hU] at hu
    obtain ⟨hc, p, hp, hj, hba, hbb⟩ := hu
    have ol := w.oL j l hl
    have oz := oC c z hz
    cases w.vw j p l hp hl with
    | sA i x e1 e2 v _ => rw [hj] at v; exact sideU w.oA oC ol v e2 hz (hba i e1) uA dA
    | sB i y e1 e2 v _ => rw [hj] at v; exact sideU w.oB oC ol v e2 hz (hbb i e1) uB dB
    | df i i' x y e1 e2 e3 e4 e5 e6 e7 e8 =>
      rw [hj] at e6 e7 e8
      have e6' : x.kind ≠ 6 := e6
      have e7' : y.kind ≠ 6 := e7
      rcases (hba i e1).may w.oA oC e2 hz with m | m | m
      · exact absurd m e6'
      · exact .inr (.inl m)
      · rcases (hbb i' e3).may w.oB oC e4 hz with n | n | n
        · exact absurd n e7'
        · exact .inr (.inl n)
        · exact absurd (m.kind.trans n.kind.symm) e5
    | fn i i' x y x0 x1 y0 y1 m0 m1 e1 e2 e3 e4 e5 e6 e7 e8 e9 e10 e11 e12 =>
      rw [hj] at e11 e12
      rcases (hba i e1).may w.oA oC e2 hz with m | m | m
      · omega
      · exact .inr (.inl m)
      rcases (hbb i' e3).may w.oB oC e4 hz with n | n | n
      · omega
      · exact .inr (.inl n)
      have mk := m.kind
      refine .inr (.inr ⟨by omega, fun e h0 h1 k0 k1 g1 g2 => ?_, fun e => by omega, fun e => by omega, fun e => by omega, fun e => by omega⟩)
      rw [e10] at g1
      simp only [List.cons.injEq, Int.natCast_inj, and_true] at g1
      obtain ⟨rfl, rfl⟩ := g1
      obtain ⟨a1, a2⟩ := m.fn e5 x0 x1 k0 k1 e8 g2
      obtain ⟨b1, b2⟩ := n.fn e6 y0 y1 k0 k1 e9 g2
      exact ⟨mkD a1.lt.1 e11 rfl (fun i e => by have : x0 = i := one e; exact this ▸ a1) (fun i e => by have : y0 = i := one e; exact this ▸ b1), mkU a2.lt.2 e12 rfl (fun i e => by have : x1 = i := one e; exact this ▸ a2) (fun i e => by have : y1 = i := one e; exact this ▸ b2)⟩
    | n8 i i' x y e1 e2 e3 e4 e5 e6 v =>
      rw [hj] at v
      have ox := w.oA i x e2
      have oy := w.oB i' y e4
      have vk := v.kind
      rcases (hba i e1).may w.oA oC e2 hz with m | m | m
      · omega
      · exact .inr (.inl m)
      rcases (hbb i' e3).may w.oB oC e4 hz with n | n | n
      · omega
      · exact .inr (.inl n)
      have mk := m.kind
      refine .inr (.inr ⟨by omega, fun e => by omega, fun e s u hu => ?_, fun e => by omega, fun e => by omega, fun e => by omega⟩)
      obtain ⟨a, a1, a2⟩ := m.rc e5 s u hu
      obtain ⟨b, b1, b2⟩ := n.rc e6 s u hu
      have hsx := (find_some ox).1 ⟨a, a1⟩
      have hsy := (find_some oy).1 ⟨b, b1⟩
      obtain ⟨q, q1, q2⟩ := v.to s ((v.names s).2 (nmIn_mk (.inl hsx) (fun _ => hsx) (fun _ => hsy)))
      exact ⟨q, q1, mkU a2.lt.2 q2 rfl (fun i e => by have : a = i := one (a1.symm.trans e); exact this ▸ a2) (fun i e => by have : b = i := one (b1.symm.trans e); exact this ▸ b2)⟩
    | n9 i i' x y e1 e2 e3 e4 e5 e6 v e7 =>
      rw [hj] at v e7
      simp only [if_true] at e7
      have ox := w.oA i x e2
      have oy := w.oB i' y e4
      have vk := v.kind
      rcases (hba i e1).may w.oA oC e2 hz with m | m | m
      · omega
      · exact .inr (.inl m)
      rcases (hbb i' e3).may w.oB oC e4 hz with n | n | n
      · omega
      · exact .inr (.inl n)
      have mk := m.kind
      refine .inr (.inr ⟨by omega, fun e => by omega, fun e => by omega, fun e ho => ?_, fun e s q hq => ?_, fun e ho s u hu hn => ?_⟩)
      · rw [e7, Bool.or_eq_true] at ho
        rcases ho with ho | ho
        · exact m.op e5 ho
        · exact n.op e6 ho
      · have hs := (find_some ol).1 ⟨q, hq⟩
        obtain ⟨q', q1, q2⟩ := v.to s hs
        have : q' = q := by omega
        subst this
        rcases oz.find s with h | h
        · refine .inr ⟨h, ?_⟩
          rcases ((v.names s).1 hs).1 with g | g
          · obtain ⟨a, a1⟩ := (find_some ox).2 g
            rcases m.va e5 s a a1 with ⟨u, u1, _⟩ | ⟨_, u2⟩
            · omega
            · exact u2
          · obtain ⟨a, a1⟩ := (find_some oy).2 g
            rcases n.va e6 s a a1 with ⟨u, u1, _⟩ | ⟨_, u2⟩
            · omega
            · exact u2
        · obtain ⟨u, hu, hul⟩ := nat_of h
          refine .inl ⟨u, hu, mkU hul q2 rfl (fun a e => ?_) (fun a e => ?_)⟩
          · rcases m.va e5 s a e with ⟨u', u1, u2⟩ | ⟨u1, _⟩
            · have : u' = u := by omega
              exact this ▸ u2
            · omega
          · rcases n.va e6 s a e with ⟨u', u1, u2⟩ | ⟨u1, _⟩
            · have : u' = u := by omega
              exact this ▸ u2
            · omega
      · have hs := (find_none ol).1 hn
        by_cases hx : x.opn = true ∧ s ∉ x.names
        · exact m.vb e5 hx.1 s u hu ((find_none ox).2 hx.2)
        · by_cases hy : y.opn = true ∧ s ∉ y.names
          · exact n.vb e6 hy.1 s u hu ((find_none oy).2 hy.2)
          · have ix : x.opn = true → s ∈ x.names := fun h => Decidable.byContradiction fun h2 => hx ⟨h, h2⟩
            have iy : y.opn = true → s ∈ y.names := fun h => Decidable.byContradiction fun h2 => hy ⟨h, h2⟩
            rw [e7, Bool.or_eq_true] at ho
            refine absurd ((v.names s).2 (nmIn_mk ?_ ix iy)) hs
            rcases ho with ho | ho
            · exact .inl (ix ho)
            · exact .inr (iy ho)
    | cs i i' x y e1 e2 e3 e4 e5 e6 e7 e8 e9 =>
      rcases (hba i e1).may w.oA oC e2 hz with m | m | m
      · exact .inl (by omega)
      · exact .inr (.inl m)
      · have mk := m.kind
        exact .inr (.inr ⟨by omega, fun e => absurd (by omega) e6, fun e => absurd (by omega) e7, fun e => absurd (by omega) e8, fun e => absurd (by omega) e8, fun e => absurd (by omega) e8⟩)
  · rw [hD] at hd
    obtain ⟨hc, p, hp, hj, hba, hbb⟩ := hd
    have ol := w.oL j l hl
    have oz := oC c z hz
    cases w.vw j p l hp hl with
    | sA i x e1 e2 v _ => rw [hj] at v; exact sideD w.oA oC ol v e2 hz (hba i e1) uA dA nA
    | sB i y e1 e2 v _ => rw [hj] at v; exact sideD w.oB oC ol v e2 hz (hbb i e1) uB dB nB
    | df i i' x y e1 e2 e3 e4 e5 e6 e7 e8 =>
      rw [hj] at e6 e7 e8
      have e6' : x.kind ≠ 5 := e6
      have e7' : y.kind ≠ 5 := e7
      rcases (hba i e1).may oC w.oA hz e2 with m | m | m
      · exact .inl m
      · exact absurd m e6'
      · rcases (hbb i' e3).may oC w.oB hz e4 with n | n | n
        · exact .inl n
        · exact absurd n e7'
        · exact absurd (m.kind.symm.trans n.kind) e5
    | fn i i' x y x0 x1 y0 y1 m0 m1 e1 e2 e3 e4 e5 e6 e7 e8 e9 e10 e11 e12 =>
      rw [hj] at e11 e12
      rcases (hba i e1).may oC w.oA hz e2 with m | m | m
      · exact .inl m
      · omega
      rcases (hbb i' e3).may oC w.oB hz e4 with n | n | n
      · exact .inl n
      · omega
      have mk := m.kind
      refine .inr (.inr ⟨by omega, fun e h0 h1 k0 k1 g1 g2 => ?_, fun e => by omega, fun e => by omega, fun e => by omega, fun e => by omega⟩)
      rw [e10] at g2
      simp only [List.cons.injEq, Int.natCast_inj, and_true] at g2
      obtain ⟨rfl, rfl⟩ := g2
      obtain ⟨a1, a2⟩ := m.fn e h0 h1 x0 x1 g1 e8
      obtain ⟨b1, b2⟩ := n.fn e h0 h1 y0 y1 g1 e9
      exact ⟨mkU a1.lt.2 e11 rfl (fun i e => by have : x0 = i := one e; exact this ▸ a1) (fun i e => by have : y0 = i := one e; exact this ▸ b1), mkD a2.lt.1 e12 rfl (fun i e => by have : x1 = i := one e; exact this ▸ a2) (fun i e => by have : y1 = i := one e; exact this ▸ b2)⟩
    | n8 i i' x y e1 e2 e3 e4 e5 e6 v =>
      rw [hj] at v
      have ox := w.oA i x e2
      have oy := w.oB i' y e4
      have vk := v.kind
      rcases (hba i e1).may oC w.oA hz e2 with m | m | m
      · exact .inl m
      · omega
      rcases (hbb i' e3).may oC w.oB hz e4 with n | n | n
      · exact .inl n
      · omega
      have mk := m.kind
      refine .inr (.inr ⟨by omega, fun e => by omega, fun e s q hq => ?_, fun e => by omega, fun e => by omega, fun e => by omega⟩)
      have hs := (find_some ol).1 ⟨q, hq⟩
      obtain ⟨q', q1, q2⟩ := v.to s hs
      have : q' = q := by omega
      subst this
      have fin : ∀ u : Nat, findK z.names z.kids s = (u : Int) → ∃ x : Nat, findK z.names z.kids s = (x : Int) ∧ D x q' := fun u hu => by
        refine ⟨u, hu, mkD (find_lt oz hu) q2 rfl (fun a ea => ?_) (fun a ea => ?_)⟩
        · obtain ⟨u', u1, u2⟩ := m.rc e s a ea
          have : u' = u := by omega
          exact this ▸ u2
        · obtain ⟨u', u1, u2⟩ := n.rc e s a ea
          have : u' = u := by omega
          exact this ▸ u2
      rcases ((v.names s).1 hs).1 with g | g
      · obtain ⟨a, a1⟩ := (find_some ox).2 g
        obtain ⟨u, u1, _⟩ := m.rc e s a a1
        exact fin u u1
      · obtain ⟨a, a1⟩ := (find_some oy).2 g
        obtain ⟨u, u1, _⟩ := n.rc e s a a1
        exact fin u u1
    | n9 i i' x y e1 e2 e3 e4 e5 e6 v e7 =>
      rw [hj] at v e7
      simp only [Bool.false_eq_true, if_false] at e7
      have ox := w.oA i x e2
      have oy := w.oB i' y e4
      have vk := v.kind
      rcases (hba i e1).may oC w.oA hz e2 with m | m | m
      · exact .inl m
      · omega
      rcases (hbb i' e3).may oC w.oB hz e4 with n | n | n
      · exact .inl n
      · omega
      have mk := m.kind
      refine .inr (.inr ⟨by omega, fun e => by omega, fun e => by omega, fun e ho => ?_, fun e s u hu => ?_, fun e ho s q hq hn => ?_⟩)
      · rw [e7, m.op e ho, n.op e ho]; rfl
      · by_cases hs : s ∈ l.names
        · obtain ⟨q, q1, q2⟩ := v.to s hs
          refine .inl ⟨q, q1, mkD (find_lt oz hu) q2 rfl (fun a ea => ?_) (fun a ea => ?_)⟩
          · rcases m.va e s u hu with ⟨a', a1, a2⟩ | ⟨a1, _⟩
            · have : a' = a := one (a1.symm.trans ea)
              exact this ▸ a2
            · have ea' : findK x.names x.kids s = (a : Int) := ea
              omega
          · rcases n.va e s u hu with ⟨a', a1, a2⟩ | ⟨a1, _⟩
            · have : a' = a := one (a1.symm.trans ea)
              exact this ▸ a2
            · have ea' : findK y.names y.kids s = (a : Int) := ea
              omega
        · refine .inr ⟨(find_none ol).2 hs, ?_⟩
          have ix : s ∈ x.names ∨ x.opn = true := by
            rcases m.va e s u hu with ⟨a', a1, _⟩ | ⟨_, a2⟩
            · exact .inl ((find_some ox).1 ⟨a', a1⟩)
            · exact .inr a2
          have iy : s ∈ y.names ∨ y.opn = true := by
            rcases n.va e s u hu with ⟨a', a1, _⟩ | ⟨_, a2⟩
            · exact .inl ((find_some oy).1 ⟨a', a1⟩)
            · exact .inr a2
          have nx : ¬ (s ∈ x.names ∨ s ∈ y.names) := fun h => hs ((v.names s).2 (nmIn_mk h (fun hxo => ix.elim id fun h2 => by rw [hxo] at h2; cases h2) (fun hyo => iy.elim id fun h2 => by rw [hyo] at h2; cases h2)))
          rw [e7, Bool.and_eq_true]
          exact ⟨ix.elim (fun h => absurd (.inl h) nx) id, iy.elim (fun h => absurd (.inr h) nx) id⟩
      · have hs := (find_some ol).1 ⟨q, hq⟩
        obtain ⟨q', q1, q2⟩ := v.to s hs
        have : q' = q := by omega
        subst this
        exact w.any q2 rfl (fun a ea => m.vb e ho s a ea hn) (fun a ea => n.vb e ho s a ea hn)
    | cs i i' x y e1 e2 e3 e4 e5 e6 e7 e8 e9 =>
      rcases (hba i e1).may oC w.oA hz e2 with m | m | m
      · exact .inl m
      · exact .inr (.inl (by omega))
      · have mk := m.kind
        exact .inr (.inr ⟨by omega, fun e => absurd (by omega) e6, fun e => absurd (by omega) e7, fun e => absurd (by omega) e8, fun e => absurd (by omega) e8, fun e => absurd (by omega) e8⟩)


/-- A kid of a head of the normal graph, and one of a head in the class. -/
theorem NmOf.kid {L : List Hd} {cls ord : List Nat} {out : List Hd} (oL : OkL L) (st : Stable L cls) (nms : NmS L cls ord out) {t i c : Nat} {g h : Hd} (hg : out[t]? = some g) (hh : L[i]? = some h) (ht : ord[t]? = some c) (hi : cls[i]? = some c) :
    g.kind = h.kind ∧ g.names = h.names ∧ g.opn = h.opn ∧ g.kids.length = h.kids.length ∧ ∀ (a k : Nat), h.kids[a]? = some (k : Int) → ∃ m d : Nat, g.kids[a]? = some (m : Int) ∧ ord[m]? = some d ∧ cls[k]? = some d := by
  obtain ⟨c', i', h', a1, a2, a3, a4, a5, a6, a7, a8⟩ := nms t g hg
  rw [ht] at a1
  obtain rfl := Option.some.inj a1
  obtain ⟨b1, b2, b3, b4⟩ := st.st i' i h' h c a3 hh a2 hi
  have hkl : h'.kids.length = h.kids.length := by
    have := congrArg List.length b4
    simpa [kidsC] using this
  refine ⟨a4.trans b1, a5.trans b2, a6.trans b3, a7.trans hkl, fun a k hk => ?_⟩
  have hal := (List.getElem?_eq_some_iff.1 hk).1
  obtain ⟨m, m1, m2⟩ := a8 a _ (List.getElem?_eq_getElem (by omega))
  have e := congrArg (fun l => l[a]?) b4
  simp only [kidsC, List.getElem?_map, List.getElem?_eq_getElem (show a < h'.kids.length by omega), hk, Option.map_some, Option.some.injEq, Int.toNat_natCast] at e
  have hkr := (oL i h hh).kid _ (List.mem_of_getElem? hk)
  have hkL : k < cls.length := by rw [st.len]; omega
  refine ⟨m, _, m1, m2, ?_⟩
  rw [e, List.getD_eq_getElem?_getD, List.getElem?_eq_getElem hkL]; rfl

theorem NmOf.rhd {L : List Hd} {root : Int} {N : Gr} (hL : ∀ (i : Nat) h, L[i]? = some h → RHd L.length h) (nm : NmOf L root N) : ∀ (t : Nat) g, N.l[t]? = some g → RHd N.l.length g ∧ ∃ (i : Nat) (h : Hd), L[i]? = some h ∧ g.names = h.names := by
  obtain ⟨cls, ord, st, nms, hlen, _⟩ := nm.ex
  intro t g hg
  obtain ⟨c, i, h, a1, a2, a3, a4, a5, a6, a7, a8⟩ := nms t g hg
  have r := hL i h a3
  refine ⟨⟨⟨fun x hx => ?_, ?_, a5 ▸ r.ok.up⟩, fun s hs => ?_⟩, i, h, a3, a5⟩
  · obtain ⟨a, ha⟩ := List.mem_iff_getElem?.1 hx
    have hal := (List.getElem?_eq_some_iff.1 ha).1
    obtain ⟨m, m1, m2⟩ := a8 a _ (List.getElem?_eq_getElem (by omega))
    rw [ha] at m1
    obtain rfl := Option.some.inj m1
    have := (List.getElem?_eq_some_iff.1 m2).1
    omega
  · have f := r.ok.form
    unfold Form at f ⊢
    rw [a4, a5, a6, a7]
    refine ⟨f.1, ?_⟩
    rcases f.2 with f | f | ⟨f1, f2, f3, f4⟩
    · exact .inl f
    · exact .inr (.inl f)
    · exact .inr (.inr ⟨f1, f2, f3, List.eq_nil_of_length_eq_zero (by rw [a7, f4]; rfl)⟩)
  · rw [a4]; exact r.nm s (a5 ▸ hs)

theorem NmOf.rg {L : List Hd} {root : Int} {N : Gr} (hL : ∀ (i : Nat) h, L[i]? = some h → RHd L.length h) (nm : NmOf L root N) (hl : L.length ≤ 4096) : RG N := by
  have h := nm.rhd hL
  have hp := nm.pos
  have hle := nm.le
  have hr := nm.root
  exact ⟨⟨hp, by omega, by omega, by omega, fun i g hg => (h i g hg).1.ok⟩, fun i g hg => (h i g hg).1⟩

theorem NmOf.bel {L : List Hd} {root : Int} {N : Gr} (hL : ∀ (i : Nat) h, L[i]? = some h → RHd L.length h) (nm : NmOf L root N) : Bel N.l 0 L root.toNat ∧ Bel L root.toNat N.l 0 := by
  have oL : OkL L := fun i h hi => (hL i h hi).ok
  have oN : OkL N.l := fun i h hi => (nm.rhd hL i h hi).1.ok
  obtain ⟨cls, ord, st, nms, hlen, c0, hc1, hc2⟩ := nm.ex
  obtain ⟨U, hU⟩ : ∃ U : Nat → Nat → Prop, U = fun (t i : Nat) => ∃ c : Nat, ord[t]? = some c ∧ cls[i]? = some c := ⟨_, rfl⟩
  obtain ⟨D, hD⟩ : ∃ D : Nat → Nat → Prop, D = fun (i t : Nat) => ∃ c : Nat, ord[t]? = some c ∧ cls[i]? = some c := ⟨_, rfl⟩
  have rgU : ∀ t i, U t i → t < N.l.length ∧ i < L.length := fun t i h => by
    rw [hU] at h
    obtain ⟨c, h1, h2⟩ := h
    have := (List.getElem?_eq_some_iff.1 h1).1
    have := (List.getElem?_eq_some_iff.1 h2).1
    have := st.len
    omega
  have rgD : ∀ i t, D i t → t < N.l.length ∧ i < L.length := fun i t h => by
    rw [hD] at h
    obtain ⟨c, h1, h2⟩ := h
    have := (List.getElem?_eq_some_iff.1 h1).1
    have := (List.getElem?_eq_some_iff.1 h2).1
    have := st.len
    omega
  have both : ∀ (t i c : Nat) g h, N.l[t]? = some g → L[i]? = some h → ord[t]? = some c → cls[i]? = some c → MayS L U D g h ∧ MayS N.l D U h g := by
    intro t i c g h hg hh ht hi
    obtain ⟨a1, a2, a3, a4, a5⟩ := NmOf.kid oL st nms hg hh ht hi
    have og := oN t g hg
    have oh := oL i h hh
    have pr : ∀ (a m k : Nat), g.kids[a]? = some (m : Int) → h.kids[a]? = some (k : Int) → U m k ∧ D k m := fun a m k hm hk => by
      obtain ⟨m', d, b1, b2, b3⟩ := a5 a k hk
      rw [hm] at b1
      have : m = m' := by have := Option.some.inj b1; omega
      subst this
      rw [hU, hD]
      exact ⟨⟨d, b2, b3⟩, ⟨d, b2, b3⟩⟩
    have nm : ∀ (s : List Nat) (m : Nat), findK g.names g.kids s = (m : Int) → ∃ k : Nat, findK h.names h.kids s = (k : Int) ∧ U m k ∧ D k m := fun s m hm => by
      rcases findK_cases og s with ⟨_, e⟩ | ⟨a, h1, y, h2, _, e⟩
      · omega
      · have hal := (List.getElem?_eq_some_iff.1 h2).1
        obtain ⟨k, hk, _⟩ := nat_of (oh.kid _ (List.getElem_mem (show a < h.kids.length by omega)))
        have hka : h.kids[a]? = some (k : Int) := by rw [List.getElem?_eq_getElem (by omega), hk]
        have : y = m := by omega
        subst this
        exact ⟨k, findK_at oh.up.nodup (by rw [← a2]; exact h1) hka, pr a y k h2 hka⟩
    have mn : ∀ (s : List Nat) (k : Nat), findK h.names h.kids s = (k : Int) → ∃ m : Nat, findK g.names g.kids s = (m : Int) ∧ U m k ∧ D k m := fun s k hk => by
      have hs := (find_some oh).1 ⟨k, hk⟩
      rw [← a2] at hs
      obtain ⟨m, hm⟩ := (find_some og).2 hs
      obtain ⟨k', e1, e2⟩ := nm s m hm
      have : k' = k := by omega
      subst this
      exact ⟨m, hm, e2⟩
    refine ⟨⟨a1, fun e h0 h1 k0 k1 g1 g2 => ?_, fun e s y hy => ?_, fun e ho => by rw [← a3]; exact ho, fun e s x hx => ?_, fun e ho s y hy hn => ?_⟩, ⟨a1.symm, fun e h0 h1 k0 k1 g1 g2 => ?_, fun e s y hy => ?_, fun e ho => by rw [a3]; exact ho, fun e s x hx => ?_, fun e ho s y hy hn => ?_⟩⟩
    · exact ⟨(pr 0 h0 k0 (by rw [g1]; rfl) (by rw [g2]; rfl)).2, (pr 1 h1 k1 (by rw [g1]; rfl) (by rw [g2]; rfl)).1⟩
    · obtain ⟨m, e1, e2⟩ := mn s y hy
      exact ⟨m, e1, e2.1⟩
    · obtain ⟨k, e1, e2⟩ := nm s x hx
      exact .inl ⟨k, e1, e2.1⟩
    · obtain ⟨m, e1, e2⟩ := mn s y hy
      omega
    · exact ⟨(pr 0 k0 h0 (by rw [g2]; rfl) (by rw [g1]; rfl)).1, (pr 1 k1 h1 (by rw [g2]; rfl) (by rw [g1]; rfl)).2⟩
    · obtain ⟨m, e1, e2⟩ := nm s y hy
      exact ⟨m, e1, e2.2⟩
    · obtain ⟨k, e1, e2⟩ := mn s x hx
      exact .inl ⟨k, e1, e2.2⟩
    · obtain ⟨m, e1, e2⟩ := nm s y hy
      omega
  have co := Bel.co oN oL U D rgU rgD (fun t i g h hg hh hu => by
      rw [hU] at hu
      obtain ⟨c, h1, h2⟩ := hu
      exact .inr (.inr (both t i c g h hg hh h1 h2).1)) (fun t i g h hg hh hd => by
      rw [hD] at hd
      obtain ⟨c, h1, h2⟩ := hd
      exact .inr (.inr (both t i c g h hg hh h1 h2).2))
  exact ⟨co.1 0 root.toNat (by rw [hU]; exact ⟨c0, hc1, hc2⟩), co.2 root.toNat 0 (by rw [hD]; exact ⟨c0, hc1, hc2⟩)⟩

/-! ### Graphs -/
theorem below_bel {a b : Gr} : Below a b ↔ Bel a.l a.root.toNat b.l b.root.toNat := Iff.rfl
theorem Ok.okL {g : Gr} (o : Ok g) : OkL g.l := o.hd
theorem Below.refl {a : Gr} (o : Ok a) : Below a a := Bel.refl o.okL (by have := o.r0; have := o.r1; omega)
theorem Below.trans {a b c : Gr} (oa : Ok a) (ob : Ok b) (oc : Ok c) (h : Below a b) (k : Below b c) : Below a c := Bel.trans oa.okL ob.okL oc.okL h k

/-- Names: how many a head has at most, and how long they are. -/
structure Nm (k : Nat) (g : Gr) : Prop where
  n : ∀ (i : Nat) h, g.l[i]? = some h → h.names.length ≤ k ∧ ∀ s ∈ h.names, s.length < 60000

/-- What the join of two is; what the meet is. -/
structure Lub (a b n : Gr) (join : Bool) : Prop where
  rg : RG n
  ua : if join then Below a n else Below n a
  ub : if join then Below b n else Below n b
  le : ∀ c : Gr, Ok c → (if join then Below a c else Below c a) → (if join then Below b c else Below c b) → (if join then Below n c else Below c n)

theorem MadeOf.lub {A B N : Gr} {join : Bool} {k m : Nat} (rA : RG A) (rB : RG B) (nA : Nm k A) (nB : Nm m B) (h : MadeOf A B join N) : Lub A B N join ∧ Nm (k + m) N := by
  obtain ⟨ps, hs, md, hle, nm⟩ := h
  have hA : Heads A.l k := ⟨rA.hd, nA.n⟩
  have hB : Heads B.l m := ⟨rB.hd, nB.n⟩
  obtain ⟨rg, nms⟩ := md.rg hA hB hle
  have oL : OkL hs := fun i h hi => (rg.hd i h hi).ok
  have w : PL A.l B.l hs ps := by
    refine ⟨rA.ok.okL, rB.ok.okL, oL, md.hl, fun j p l hp hl => ?_, fun p hp => ?_⟩
    · have hj := (List.getElem?_eq_some_iff.1 hp).1
      obtain ⟨l', h1, h2⟩ := md.hd j p hj hp
      rw [hl] at h1
      obtain rfl := Option.some.inj h1
      exact part_view hA hB (md.ok p (List.mem_of_getElem? hp)) (oL j l hl) h2
    · have := (md.ok p hp).bd
      omega
  obtain ⟨b1, b2⟩ := nm.bel rg.hd
  have rN := nm.rg rg.hd rg.ok.n1
  have hroot : N.root.toNat = 0 := by rw [nm.root]; rfl
  have ra : (⟨A.root, B.root, join⟩ : Pt).a = (A.root.toNat : Int) := by have := rA.ok.r0; simp only; omega
  have rb : (⟨A.root, B.root, join⟩ : Pt).b = (B.root.toNat : Int) := by have := rB.ok.r0; simp only; omega
  have oA := rA.ok.okL
  have oB := rB.ok.okL
  have oN := rN.ok.okL
  refine ⟨⟨rN, ?_, ?_, fun c oc h1 h2 => ?_⟩, ⟨fun t g hg => ?_⟩⟩
  · cases hj : join with
    | true =>
      rw [hj] at ra md
      have := w.upA.1 0 _ A.root.toNat md.p0 rfl ra
      show Below A N
      rw [below_bel, hroot]
      exact Bel.trans oA oL oN this b2
    | false =>
      rw [hj] at ra md
      have := w.upA.2 0 _ A.root.toNat md.p0 rfl ra
      show Below N A
      rw [below_bel, hroot]
      exact Bel.trans oN oL oA b1 this
  · cases hj : join with
    | true =>
      rw [hj] at rb md
      have := w.upB.1 0 _ B.root.toNat md.p0 rfl rb
      show Below B N
      rw [below_bel, hroot]
      exact Bel.trans oB oL oN this b2
    | false =>
      rw [hj] at rb md
      have := w.upB.2 0 _ B.root.toNat md.p0 rfl rb
      show Below N B
      rw [below_bel, hroot]
      exact Bel.trans oN oL oB b1 this
  · have hc : c.root.toNat < c.l.length := by have := oc.r0; have := oc.r1; omega
    cases hj : join with
    | true =>
      rw [hj] at ra rb md h1 h2
      have h1' : Below A c := h1
      have h2' : Below B c := h2
      have := (w.least oc.okL).1 0 c.root.toNat _ hc md.p0 rfl (fun i e => by
        rw [ra] at e
        have : A.root.toNat = i := by omega
        exact this ▸ h1') (fun i e => by
        rw [rb] at e
        have : B.root.toNat = i := by omega
        exact this ▸ h2')
      show Below N c
      rw [below_bel, hroot]
      exact Bel.trans oN oL oc.okL b1 this
    | false =>
      rw [hj] at ra rb md h1 h2
      have h1' : Below c A := h1
      have h2' : Below c B := h2
      have := (w.least oc.okL).2 0 c.root.toNat _ hc md.p0 rfl (fun i e => by
        rw [ra] at e
        have : A.root.toNat = i := by omega
        exact this ▸ h1') (fun i e => by
        rw [rb] at e
        have : B.root.toNat = i := by omega
        exact this ▸ h2')
      show Below c N
      rw [below_bel, hroot]
      exact Bel.trans oc.okL oL oN this b2
  · obtain ⟨_, i, h, h1, h2⟩ := nm.rhd rg.hd t g hg
    rw [h2]; exact nms i h h1


/-- What a call of made's comes to, whatever it is. -/
theorem MadeR.tup {H H' : Heap} {A B : Gr} {join : Bool} {v : AVal} (h : MadeR H A B join v H') : ∃ (l : AVal) (r e : Int), v = .tup [.agg [l, .i .i64 r], .i .i64 e] ∧ l.cells? = some [l] := by
  obtain ⟨_, h1, h2⟩ := h
  cases hr : (rightB A && rightB B) with
  | false => exact ⟨.nsl, 0, 14, h1 hr, rfl⟩
  | true =>
    rcases h2 hr with ⟨h, _⟩ | ⟨w, N, rfl, hN, _⟩
    · exact ⟨.nsl, 0, 20, h, rfl⟩
    · obtain ⟨l, rfl, hl⟩ := hN.gr
      exact ⟨l, N.root, 0, rfl, hl.cells⟩

theorem MadeR.lift {H H1 H' : Heap} {A B : Gr} {join : Bool} {v : AVal} {r : Nat} {ob : AObj} (h : MadeR H1 A B join v H') (e : Ex H H1) (hr : H.nx ≤ r ∧ r < H1.nx) : MadeR H A B join v (H'.put r ob) := by
  obtain ⟨h0, h1, h2⟩ := h
  have n1 := e.nx
  have n2 := h0.nx
  refine ⟨⟨by simp; omega, fun i hi o ho => ?_⟩, h1, fun hh => ?_⟩
  · rw [Heap.get_put, if_neg (by omega)]
    exact h0.get i (by omega) o (e.get i hi o ho)
  · rcases h2 hh with h | ⟨w, N, rfl, hN, hm⟩
    · exact .inl h
    · refine .inr ⟨w, N, rfl, hN.fr (S := [some r]) ⟨by simp, fun i hi hm ob' ho => ?_⟩ (by simp; omega) (by simp) n1, hm⟩
      simp at hm
      rw [Heap.get_put, if_neg hm]; exact ho

theorem call11 {H : Heap} {va vb : AVal} {A B : Gr} {N M : Nat} (ga : GrOf H va A) (gb : GrOf H vb B) (fa : Fits A) (fb : Fits B) (la : A.l.length < 100000) (lb : B.l.length < 100000) (nA : ∀ (i : Nat) h, A.l[i]? = some h → h.names.length ≤ N) (nB : ∀ (i : Nat) h, B.l[i]? = some h → h.names.length ≤ M) (hN : N < 30000 ∧ M < 30000) :
    Call 11 [va, vb] H (MadeR H A B true) := by
  obtain ⟨lA, rfl, hA⟩ := ga
  obtain ⟨lB, rfl, hB⟩ := gb
  refine Call.by (a := a11) rfl (by simp [a11]) ?_
  simp [a11, c11, r11_0]
  obtain ⟨X, hX⟩ : ∃ P, P = ((H.push (.row [lA, .i .i64 A.root] true)).push (.row [lB, .i .i64 B.root] true)).push (.row [.nsl, .i .i64 0] true) := ⟨_, rfl⟩
  have nX : X.nx = H.nx + 3 := by rw [hX]; rfl
  have eX : Ex H X := by rw [hX]; exact (((Ex.refl _).push _).push _).push _
  have g3 : X.get H.nx = some (.row [lA, .i .i64 A.root] true) := by rw [hX, get_push_old (by simp; omega), get_push_old (by simp)]; exact get_push_nx _ _
  have g4 : X.get (H.nx + 1) = some (.row [lB, .i .i64 B.root] true) := by rw [hX, get_push_old (by simp)]; exact get_push_nx _ _
  have g6 : X.get (H.nx + 2) = some (.row [.nsl, .i .i64 0] true) := by rw [hX]; exact get_push_nx _ _
  have la3 : aLoad X (.p H.nx 0) 2 true = some (.agg [lA, .i .i64 A.root]) := by rw [load_agg (o := 0) (n := 2) g3 (by simp)]; rfl
  have la4 : aLoad X (.p (H.nx + 1) 0) 2 true = some (.agg [lB, .i .i64 B.root]) := by rw [load_agg (o := 0) (n := 2) g4 (by simp)]; rfl
  rw [← hX]
  simp [r11_1, la3, la4]
  refine Call.mono (call19 (A := A) (B := B) ⟨lA, rfl, hA.ex eX⟩ ⟨lB, rfl, hB.ex eX⟩ fa fb la lb nA nB hN) ?_
  rintro v H2 _ hm
  have hm' := hm
  obtain ⟨l, r, e, rfl, hl⟩ := MadeR.tup hm'
  have g62 := hm.1.get _ (by omega) _ g6
  have st : aStore H2 (.p (H.nx + 2) 0) (.agg [l, .i .i64 r]) 2 = some (H2.put (H.nx + 2) (.row [l, .i .i64 r] true)) := by simp [aStore, g62, splice]
  simp [kC, st]
  rw [load_agg (o := 0) (n := 2) (cs := [l, .i .i64 r]) (own := true) (by rw [Heap.get_put, if_pos rfl]) (by simp)]
  exact MadeR.lift hm eX ⟨by omega, by omega⟩

theorem call10 {H : Heap} {va vb : AVal} {A B : Gr} {N M : Nat} (ga : GrOf H va A) (gb : GrOf H vb B) (fa : Fits A) (fb : Fits B) (la : A.l.length < 100000) (lb : B.l.length < 100000) (nA : ∀ (i : Nat) h, A.l[i]? = some h → h.names.length ≤ N) (nB : ∀ (i : Nat) h, B.l[i]? = some h → h.names.length ≤ M) (hN : N < 30000 ∧ M < 30000) :
    Call 10 [va, vb] H (MadeR H A B false) := by
  obtain ⟨lA, rfl, hA⟩ := ga
  obtain ⟨lB, rfl, hB⟩ := gb
  refine Call.by (a := a10) rfl (by simp [a10]) ?_
  simp [a10, c10, r10_0]
  obtain ⟨X, hX⟩ : ∃ P, P = ((H.push (.row [lA, .i .i64 A.root] true)).push (.row [lB, .i .i64 B.root] true)).push (.row [.nsl, .i .i64 0] true) := ⟨_, rfl⟩
  have nX : X.nx = H.nx + 3 := by rw [hX]; rfl
  have eX : Ex H X := by rw [hX]; exact (((Ex.refl _).push _).push _).push _
  have g3 : X.get H.nx = some (.row [lA, .i .i64 A.root] true) := by rw [hX, get_push_old (by simp; omega), get_push_old (by simp)]; exact get_push_nx _ _
  have g4 : X.get (H.nx + 1) = some (.row [lB, .i .i64 B.root] true) := by rw [hX, get_push_old (by simp)]; exact get_push_nx _ _
  have g6 : X.get (H.nx + 2) = some (.row [.nsl, .i .i64 0] true) := by rw [hX]; exact get_push_nx _ _
  have la3 : aLoad X (.p H.nx 0) 2 true = some (.agg [lA, .i .i64 A.root]) := by rw [load_agg (o := 0) (n := 2) g3 (by simp)]; rfl
  have la4 : aLoad X (.p (H.nx + 1) 0) 2 true = some (.agg [lB, .i .i64 B.root]) := by rw [load_agg (o := 0) (n := 2) g4 (by simp)]; rfl
  rw [← hX]
  simp [r10_1, la3, la4]
  refine Call.mono (call19 (A := A) (B := B) ⟨lA, rfl, hA.ex eX⟩ ⟨lB, rfl, hB.ex eX⟩ fa fb la lb nA nB hN) ?_
  rintro v H2 _ hm
  have hm' := hm
  obtain ⟨l, r, e, rfl, hl⟩ := MadeR.tup hm'
  have g62 := hm.1.get _ (by omega) _ g6
  have st : aStore H2 (.p (H.nx + 2) 0) (.agg [l, .i .i64 r]) 2 = some (H2.put (H.nx + 2) (.row [l, .i .i64 r] true)) := by simp [aStore, g62, splice]
  simp [kC, st]
  rw [load_agg (o := 0) (n := 2) (cs := [l, .i .i64 r]) (own := true) (by rw [Heap.get_put, if_pos rfl]) (by simp)]
  exact MadeR.lift hm eX ⟨by omega, by omega⟩

def basicG (k : Int) : Gr := ⟨[⟨k, [], [], false⟩], 0⟩

theorem call23 {H : Heap} {k : Int} (hk : 0 ≤ k ∧ k ≤ 6) : Call 23 [.i .i64 k] H fun v H' => Ex H H' ∧ GrOf H' v (basicG k) := by
  refine Call.by (a := a23) rfl (by simp [a23]) ?_
  have h1 : ¬ k < 0 := by omega
  have h2 : ¬ (6 : Int) < k := by omega
  obtain ⟨X, hX⟩ : ∃ P, P = (H.push (.row [.nsl, .i .i64 0] true)).push (.row [.i .i64 k, .nsl, .nsl, .b false] true) := ⟨_, rfl⟩
  have eX : Ex H X := by rw [hX]; exact ((Ex.refl _).push _).push _
  have nX : X.nx = H.nx + 2 := by rw [hX]; rfl
  have g2 : X.get H.nx = some (.row [.nsl, .i .i64 0] true) := by rw [hX, get_push_old (by simp)]; exact get_push_nx _ _
  have g3 : X.get (H.nx + 1) = some (.row [.i .i64 k, .nsl, .nsl, .b false] true) := by rw [hX]; exact get_push_nx _ _
  have st : aStore X (.p H.nx 0) (.agg [.sl (H.nx + 1) 0 1 (some 1) 4, .i .i64 0]) 2 = some (X.put H.nx (.row [.sl (H.nx + 1) 0 1 (some 1) 4, .i .i64 0] true)) := by simp [aStore, g2, splice]
  simp [a23, c23, r23_0, r23_1, h1, h2, r23_3, aFill, splice]
  rw [← hX]
  simp [st]
  rw [load_agg (o := 0) (n := 2) (cs := [.sl (H.nx + 1) 0 1 (some 1) 4, .i .i64 0]) (own := true) (by rw [Heap.get_put, if_pos rfl]) (by simp)]
  refine ⟨eX.put (Nat.le_refl _) _, .sl (H.nx + 1) 0 1 (some 1) 4, rfl, rfl, ⟨by simp; omega, rfl⟩, fun j h hj => ?_⟩
  have hj0 : j = 0 := by
    have : j < 1 := (List.getElem?_eq_some_iff.1 hj).1
    omega
  subst hj0
  have hh : h = ⟨k, [], [], false⟩ := (Option.some.inj hj).symm
  subst hh
  refine ⟨[.i .i64 k, .nsl, .nsl, .b false], ?_, .nsl, .nsl, rfl, Sl.nil _ _ _, Sl.nil _ _ _⟩
  rw [sptr_sl, load_agg (n := 4) (cs := [.i .i64 k, .nsl, .nsl, .b false]) (own := true) (by rw [Heap.get_put, if_neg (by omega)]; exact g3) (by simp)]
  rfl

theorem call12 {X : Heap} {va vb : AVal} {a b : Gr} (ha : GrOf X va a) (hb : GrOf X vb b) (oa : Ok a) (ob : Ok b) (fa : Fits a) (fb : Fits b) :
    Call 12 [va, vb] X fun v H' => H' = X ∧ v = .b (belB a b && belB b a) := by
  refine Call.forget ?_
  obtain ⟨la, rfl, hla⟩ := ha
  obtain ⟨lb, rfl, hlb⟩ := hb
  refine Call.by (a := a12) rfl (by simp [a12]) ?_
  obtain ⟨X1, hX1⟩ : ∃ P, P = (X.push (.row [la, .i .i64 a.root] true)).push (.row [lb, .i .i64 b.root] true) := ⟨_, rfl⟩
  have ga : X1.get X.nx = some (.row [la, .i .i64 a.root] true) := by rw [hX1, get_push_old (by simp)]; simp
  have gb : X1.get (X.nx + 1) = some (.row [lb, .i .i64 b.root] true) := by rw [hX1]; exact get_push_nx _ _
  have e1 : Ex X X1 := by rw [hX1]; exact ((Ex.refl X).push _).push _
  have l1 : aLoad X1 (.p X.nx 0) 2 true = some (.agg [la, .i .i64 a.root]) := by rw [load_agg (o := 0) (n := 2) ga (by simp)]; rfl
  have l2 : aLoad X1 (.p (X.nx + 1) 0) 2 true = some (.agg [lb, .i .i64 b.root]) := by rw [load_agg (o := 0) (n := 2) gb (by simp)]; rfl
  simp [a12, c12, r12_0, hla.cells, hlb.cells]
  rw [← hX1]
  simp [r12_1, l1, l2]
  refine Call.is (call14 (a := a) (b := b) ⟨la, rfl, hla.ex e1⟩ ⟨lb, rfl, hlb.ex e1⟩ oa ob fa fb) ?_
  cases h1 : belB a b with
  | false =>
    simp [kC]
    exact ⟨e1, by simp [AM.inB]⟩
  | true =>
    simp [kC, l1, l2]
    refine Call.is (call14 (a := b) (b := a) ⟨lb, rfl, hlb.ex e1⟩ ⟨la, rfl, hla.ex e1⟩ ob oa fb fa) ?_
    simp [kC]
    exact ⟨e1, by simp [AM.inB]⟩


structure Grs (H : Heap) (v : AVal) (l : List Gr) : Prop where
  len : AM.slen v = some l.length
  ins : slin H.nx 2 v
  at' : ∀ (j : Nat) g, l[j]? = some g → ∃ w, aLoad H (sptr 2 v j) 2 true = some w ∧ GrOf H w g

theorem Grs.ex {H H' : Heap} (he : Ex H H') {v : AVal} {l : List Gr} (h : Grs H v l) : Grs H' v l := by
  refine ⟨h.len, slin_le he.nx h.ins, fun j x hx => ?_⟩
  obtain ⟨c, h1, h3⟩ := h.at' j x hx
  refine ⟨c, ?_, h3.ex he⟩
  have h2 := h.ins
  have hlen := h.len
  cases v <;> simp only [slin] at h2
  · simp at hlen
    have := (List.getElem?_eq_some_iff.1 hx).1
    omega
  · exact load_ex he h2.1 h1

/-- Lengths that the machine can hold. -/
def Szs (g : Gr) : Prop := g.l.length < 4611686018427387904 ∧ ∀ h ∈ g.l, h.names.length < 4611686018427387904

theorem fewB_fits {g : Gr} (h : fewB g = true) : Fits g ∧ g.l.length ≤ 25 ∧ Nm 20 g := by
  unfold fewB at h
  simp only [Bool.and_eq_true, List.all_eq_true, decide_eq_true_eq] at h
  obtain ⟨h1, h2⟩ := h
  have key : ∀ x ∈ g.l, x.names.length ≤ 20 ∧ x.kids.length ≤ 20 ∧ ∀ s ∈ x.names, s.length ≤ 60 := fun x hx => by
    have := h1 x hx
    unfold fewH at this
    simp only [Bool.and_eq_true, Bool.not_eq_true', Bool.or_eq_false_iff, decide_eq_false_iff_not, List.all_eq_true] at this
    obtain ⟨⟨a, b⟩, c⟩ := this
    exact ⟨by omega, by omega, fun s hs => by have := c s hs; omega⟩
  refine ⟨fun x hx => ?_, by omega, ⟨fun i x hx => ?_⟩⟩
  · obtain ⟨a, b, c⟩ := key x hx
    exact ⟨by omega, by omega, fun s hs => by have := c s hs; omega⟩
  · obtain ⟨a, b, c⟩ := key x (List.mem_of_getElem? hx)
    exact ⟨a, fun s hs => by have := c s hs; omega⟩

def okB (g : Gr) : Bool := fewB g && rightB g
def okAll : List Gr → Bool
  | [] => true
  | g :: r => okB g && okAll r
theorem okAll_cons (g : Gr) (r : List Gr) : okAll (g :: r) = (okB g && okAll r) := rfl

theorem call9 {H : Heap} {v : AVal} {l : List Gr} (hg : Grs H v l) (hs : ∀ g ∈ l, Szs g) (hl : l.length < 4611686018427387904) :
    Call 9 [v] H fun w H' => H' = H ∧ w = .b (okAll l) := by
  refine Call.forget ?_
  refine Call.by (a := a9) rfl (by simp [a9]) ?_
  simp [a9, c9, r9_0, r9_1, hg.len]
  refine Loop.by (fun r T H' => Ex H H' ∧ T.get 5 = some v ∧ T.get 6 = some (.i .i64 (l.length : Int)) ∧ ∃ j : Nat, j + r = l.length ∧ T.get 7 = some (.i .i64 (j : Int)) ∧ okAll l = okAll (l.drop j)) l.length ?_ ?_
  · exact ⟨Ex.refl _, by simp, by simp, 0, by simp, by simp, by simp⟩
  · rintro r T H1 ⟨e1, g5, g6, j, hj, g7, hall⟩
    by_cases hlt : j < l.length
    · obtain ⟨g, hgj⟩ : ∃ y, l[j]? = some y := ⟨_, List.getElem?_eq_getElem hlt⟩
      have hlt' : (j : Int) < (l.length : Int) := by omega
      obtain ⟨w, ld, hw⟩ := (hg.ex e1).at' j g hgj
      obtain ⟨lw, rfl, hlw⟩ := hw
      have cw := hlw.cells
      have hdr : l.drop j = g :: l.drop (j + 1) := by
        rw [List.drop_eq_getElem_cons hlt]
        congr 1
        exact Option.some.inj ((List.getElem?_eq_getElem hlt).symm.trans hgj)
      rw [hdr, okAll_cons] at hall
      obtain ⟨H2, hH2⟩ : ∃ P, P = (H1.push (.row [.nsl, .i .i64 0] true)).put H1.nx (.row [lw, .i .i64 g.root] true) := ⟨_, rfl⟩
      have st : aStore (H1.push (.row [.nsl, .i .i64 0] true)) (.p H1.nx 0) (.agg [lw, .i .i64 g.root]) 2 = some H2 := by rw [hH2]; simp [aStore, splice]
      have n2 : H2.nx = H1.nx + 1 := by rw [hH2]; rfl
      have e2 : Ex H1 H2 := by rw [hH2]; exact ((Ex.refl _).push _).put (Nat.le_refl _) _
      have g4 : H2.get H1.nx = some (.row [lw, .i .i64 g.root] true) := by rw [hH2, Heap.get_put, if_pos rfl]
      have l4 : aLoad H2 (.p H1.nx 0) 2 true = some (.agg [lw, .i .i64 g.root]) := by rw [load_agg (o := 0) (n := 2) g4 (by simp)]; rfl
      have hgr : GrOf H2 (.agg [lw, .i .i64 g.root]) g := ⟨lw, rfl, hlw.ex e2⟩
      have sz := hs g (List.mem_of_getElem? hgj)
      simp [l9_0, r9_2, r9_3, g5, g6, g7, hlt', sidx_at hg.len hlt, ld, st]
      simp [r9_4, l4]
      refine Call.is (call16 hgr sz.1 sz.2) ?_
      cases hf : fewB g with
      | false =>
        simp [kC, r9_5]
        refine ⟨e1.trans e2, by simp [AM.inB], ?_⟩
        rw [hall]; simp [okB, hf]
      | true =>
        have ff := (fewB_fits hf).1
        simp [kC, l4]
        refine Call.is (call13 hgr sz.1 fun h hh => by
          obtain ⟨a, b, c⟩ := ff h hh
          exact ⟨by omega, by omega, fun s hs => by have := c s hs; omega⟩) ?_
        cases hr : rightB g with
        | false =>
          simp [kC, r9_5]
          refine ⟨e1.trans e2, by simp [AM.inB], ?_⟩
          rw [hall]; simp [okB, hf, hr]
        | true =>
          simp [kC, r9_6, g5, g6, g7, b_inc (show j < 4611686018427387904 by omega)]
          refine ⟨r - 1, by omega, e1.trans e2, j + 1, by omega, by simp, ?_⟩
          rw [hall]; simp [okB, hf, hr]
    · have hlt' : ¬ (j : Int) < (l.length : Int) := by omega
      have hd : l.drop j = [] := List.drop_eq_nil_of_le (by omega)
      rw [hd] at hall
      simp [l9_0, r9_2, g5, g6, g7, hlt', r9_7]
      refine ⟨e1, by simp [AM.inB], ?_⟩
      rw [hall]; rfl


/-- What lives() comes to. -/
def Lives : Prop := ∀ H, Call 8 [] H fun v H' => H' = H ∧ v = .b true

theorem rg_fits {g : Gr} {k : Nat} (r : RG g) (n : Nm k g) (hk : k < 30000) : Fits g := fun h hh => by
  obtain ⟨i, hi⟩ := List.mem_iff_getElem?.1 hh
  obtain ⟨a1, a2⟩ := n.n i h hi
  refine ⟨by omega, ?_, a2⟩
  rcases (r.hd i h hi).ok.form.2 with ⟨_, _, b⟩ | ⟨_, b⟩ | ⟨_, _, _, b⟩
  · omega
  · omega
  · rw [b]; simp

theorem okB_right {g : Gr} (h : okB g = true) : RG g ∧ Fits g ∧ Nm 20 g ∧ g.l.length ≤ 25 := by
  unfold okB at h
  rw [Bool.and_eq_true] at h
  obtain ⟨a, b, c⟩ := fewB_fits h.1
  exact ⟨(rightB_iff g).1 h.2, a, c, b⟩

theorem grs3 {H : Heap} {q : Nat} {la lb lc : AVal} {a b c : Gr} (hq : q < H.nx) (hg : H.get q = some (.row [la, .i .i64 a.root, lb, .i .i64 b.root, lc, .i .i64 c.root] true)) (ha : Hds H la a.l) (hb : Hds H lb b.l) (hc : Hds H lc c.l) : Grs H (.sl q 0 3 (some 3) 2) [a, b, c] := by
  refine ⟨rfl, ⟨hq, rfl⟩, fun j g hj => ?_⟩
  match j with
  | 0 =>
    obtain rfl := Option.some.inj hj
    exact ⟨.agg [la, .i .i64 a.root], by rw [sptr_sl, load_agg (n := 2) hg (by simp)]; rfl, la, rfl, ha⟩
  | 1 =>
    obtain rfl := Option.some.inj hj
    exact ⟨.agg [lb, .i .i64 b.root], by rw [sptr_sl, load_agg (n := 2) hg (by simp)]; rfl, lb, rfl, hb⟩
  | 2 =>
    obtain rfl := Option.some.inj hj
    exact ⟨.agg [lc, .i .i64 c.root], by rw [sptr_sl, load_agg (n := 2) hg (by simp)]; rfl, lc, rfl, hc⟩
  | j + 3 => simp at hj

theorem grs2 {H : Heap} {q : Nat} {la lb : AVal} {a b : Gr} (hq : q < H.nx) (hg : H.get q = some (.row [la, .i .i64 a.root, lb, .i .i64 b.root] true)) (ha : Hds H la a.l) (hb : Hds H lb b.l) : Grs H (.sl q 0 2 (some 2) 2) [a, b] := by
  refine ⟨rfl, ⟨hq, rfl⟩, fun j g hj => ?_⟩
  match j with
  | 0 =>
    obtain rfl := Option.some.inj hj
    exact ⟨.agg [la, .i .i64 a.root], by rw [sptr_sl, load_agg (n := 2) hg (by simp)]; rfl, la, rfl, ha⟩
  | 1 =>
    obtain rfl := Option.some.inj hj
    exact ⟨.agg [lb, .i .i64 b.root], by rw [sptr_sl, load_agg (n := 2) hg (by simp)]; rfl, lb, rfl, hb⟩
  | j + 2 => simp at hj

/-- A graph of a law, in a memory. -/
structure Arg (H : Heap) (q : Nat) (g : Gr) (k : Nat) : Prop where
  lt : q < H.nx
  ex : ∃ l, H.get q = some (.row [l, .i .i64 g.root] true) ∧ Hds H l g.l
  rg : RG g
  nm : Nm k g
  kl : k < 30000
theorem Arg.ex' {H H' : Heap} (e : Ex H H') {q : Nat} {g : Gr} {k : Nat} (a : Arg H q g k) : Arg H' q g k := by
  obtain ⟨l, h1, h2⟩ := a.ex
  exact ⟨by have := a.lt; have := e.nx; omega, ⟨l, e.get _ a.lt _ h1, h2.ex e⟩, a.rg, a.nm, a.kl⟩
theorem Arg.load {H : Heap} {q : Nat} {g : Gr} {k : Nat} (a : Arg H q g k) : ∃ w, aLoad H (.p q 0) 2 true = some w ∧ GrOf H w g := by
  obtain ⟨l, h1, h2⟩ := a.ex
  exact ⟨.agg [l, .i .i64 g.root], by rw [load_agg (o := 0) (n := 2) h1 (by simp)]; rfl, l, rfl, h2⟩
theorem Arg.fits {H : Heap} {q : Nat} {g : Gr} {k : Nat} (a : Arg H q g k) : Fits g := rg_fits a.rg a.nm a.kl
theorem Arg.n {H : Heap} {q : Nat} {g : Gr} {k : Nat} (a : Arg H q g k) : g.l.length < 100000 := by have := a.rg.ok.n1; omega

/-- The result of a join, a meet of two that may be: many, or the closest one. -/
theorem MadeR.two {H H' : Heap} {A B : Gr} {join : Bool} {v : AVal} {k m : Nat} (h : MadeR H A B join v H') (rA : RG A) (rB : RG B) (nA : Nm k A) (nB : Nm m B) :
    Ex H H' ∧ ((v = .tup [.agg [.nsl, .i .i64 0], .i .i64 20] ∧ 4096 < bndP A.l B.l) ∨ ∃ l N, v = .tup [.agg [l, .i .i64 N.root], .i .i64 0] ∧ Hds H' l N.l ∧ Lub A B N join ∧ Nm (k + m) N) := by
  refine ⟨h.1, ?_⟩
  have hr : (rightB A && rightB B) = true := by rw [Bool.and_eq_true]; exact ⟨(rightB_iff A).2 rA, (rightB_iff B).2 rB⟩
  rcases h.2.2 hr with h | ⟨w, N, rfl, hN, hm⟩
  · exact .inl h
  · obtain ⟨l, rfl, hl⟩ := hN.gr
    obtain ⟨h1, h2⟩ := hm.lub rA rB nA nB
    exact .inr ⟨l, N, rfl, hl, h1, h2⟩

theorem stt (Y : Heap) (l : AVal) (r : Int) (hl : l.cells? = some [l]) : aStore (Y.push (.row [.nsl, .i .i64 0] true)) (.p Y.nx 0) (.agg [l, .i .i64 r]) 2 = some ((Y.push (.row [.nsl, .i .i64 0] true)).put Y.nx (.row [l, .i .i64 r] true)) := by simp [aStore, splice, hl]

theorem belB_true {a b : Gr} (h : Below a b) : belB a b = true := (belB_iff a b).2 h

theorem mkY (Y0 : Heap) (l : AVal) (g : Gr) (hl : Hds Y0 l g.l) : ∃ Y, Y = (Y0.push (.row [.nsl, .i .i64 0] true)).put Y0.nx (.row [l, .i .i64 g.root] true) ∧ Ex Y0 Y ∧ (∀ Z, Ex Y Z → aLoad Z (.p Y0.nx 0) 2 true = some (.agg [l, .i .i64 g.root])) ∧ (∀ Z, Ex Y Z → GrOf Z (.agg [l, .i .i64 g.root]) g) := by
  obtain ⟨Y, hY⟩ : ∃ P, P = (Y0.push (.row [.nsl, .i .i64 0] true)).put Y0.nx (.row [l, .i .i64 g.root] true) := ⟨_, rfl⟩
  have e : Ex Y0 Y := by rw [hY]; exact ((Ex.refl _).push _).put (Nat.le_refl _) _
  have nY : Y.nx = Y0.nx + 1 := by rw [hY]; rfl
  have gY : Y.get Y0.nx = some (.row [l, .i .i64 g.root] true) := by rw [hY, Heap.get_put, if_pos rfl]
  refine ⟨Y, hY, e, fun Z eZ => load_ex eZ (by omega) ?_, fun Z eZ => ⟨l, rfl, hl.ex (e.trans eZ)⟩⟩
  rw [load_agg (o := 0) (n := 2) gY (by simp)]; rfl

theorem bnd_le {A B : List Hd} {n m : Nat} (ha : A.length ≤ n) (hb : B.length ≤ m) : bndP A B ≤ 2 * ((n + 1) * (m + 1)) - 2 := by
  unfold bndP
  have : (A.length + 1) * (B.length + 1) ≤ (n + 1) * (m + 1) := Nat.mul_le_mul (by omega) (by omega)
  omega

theorem eqB {a b : Gr} (h : Below a b) (k : Below b a) : (belB a b && belB b a) = true := by rw [belB_true h, belB_true k]; rfl


/-- A memory that tells of what lies in a world. -/
structure Sn (W : World) (θ : Th) (H : Heap) : Prop where
  fr : ∀ i, H.nx ≤ i → θ i = none ∧ H.get i = none
  ob : ∀ i l, θ i = some l → ∃ cs c, H.get i = some (.row cs false) ∧ W.heap[l.b]? = some c ∧ ObjRel θ l (.row cs false) c
  z : ∃ l, θ 0 = some l

theorem Sn.wrel {W : World} {θ : Th} {H : Heap} (s : Sn W θ H) (g : KOk ⟨fun b => W.heap[b]?, W.os, W.tape, W.output⟩) : WRel ⟨fun b => W.heap[b]?, W.os, W.tape, W.output⟩ θ H W := by
  refine ⟨rfl, rfl, rfl, g, fun b o h => h, s.fr, fun i l hi => ?_, fun i l o hi ho hown => ?_⟩
  · obtain ⟨cs, c, h1, h2, h3⟩ := s.ob i l hi
    refine ⟨(Array.getElem?_eq_some_iff.1 h2).1, fun o ho => ⟨c, h2, ?_⟩⟩
    rw [h1] at ho
    obtain rfl := Option.some.inj ho
    exact h3
  · obtain ⟨cs, c, h1, _⟩ := s.ob i l hi
    rw [h1] at ho
    obtain rfl := Option.some.inj ho
    simp [AObj.isOwn] at hown

theorem push_other {H : Heap} {o : AObj} {i : Nat} (h : i ≠ H.nx) : (H.push o).get i = H.get i := by
  show (H.t.put H.nx o).get i = H.t.get i
  rw [Tr.get_put, if_neg h]

theorem Sn.add {W : World} {θ : Th} {H : Heap} (s : Sn W θ H) {l : AM.Loc} {cs : List AVal} {c : Obj} (hc : W.heap[l.b]? = some c) (ho : ObjRel θ l (.row cs false) c) :
    Sn W (θ.ext H.nx l) (H.push (.row cs false)) ∧ θ.Le (θ.ext H.nx l) ∧ Ex H (H.push (.row cs false)) := by
  have hle := Th.ext_le (l := l) (s.fr H.nx (Nat.le_refl _)).1
  refine ⟨⟨fun i hi => ?_, fun i l' hi => ?_, ?_⟩, hle, (Ex.refl _).push _⟩
  · have hi' : H.nx + 1 ≤ i := hi
    have := s.fr i (by omega)
    refine ⟨by rw [Th.ext_other (by omega)]; exact this.1, ?_⟩
    rw [push_other (by omega)]; exact this.2
  · by_cases he : i = H.nx
    · subst he
      rw [Th.ext_same] at hi
      obtain rfl := Option.some.inj hi
      exact ⟨cs, c, get_push_nx _ _, hc, ho.mono hle⟩
    · rw [Th.ext_other he] at hi
      obtain ⟨cs', c', h1, h2, h3⟩ := s.ob i l' hi
      exact ⟨cs', c', by rw [push_other he]; exact h1, h2, h3.mono hle⟩
  · obtain ⟨l0, h⟩ := s.z
    exact ⟨l0, hle _ _ h⟩

theorem cell_row {W : World} {a : Addr} {u : Value} (h : W.cell? a = some u) : ∃ c e fr, W.heap[a.block]? = some (.cells c e fr) ∧ a.spot = none ∧ c[a.off]? = some u := by
  unfold World.cell? at h
  split at h
  · rename_i c e fr hc
    split at h
    · cases h
    · rename_i hs
      exact ⟨c, e, fr, hc, by simpa using hs, h⟩
  · cases h

/-- What a slice of the model's comes to. -/
theorem Sn.row {W : World} {θ : Th} {H : Heap} (s : Sn W θ H) {a : Addr} {len cap es : Nat} {xs : List AVal} (he : 0 < es) (hl : len ≤ cap) (hx : xs.length = len * es)
    (hc : ∀ j, j < cap * es → ∃ u, W.cell? (a.add j) = some u) (hr : ∀ (j : Nat) x, xs[j]? = some x → ∃ u, W.cell? (a.add j) = some u ∧ VRel θ x u ∧ u.oneCell' = true) :
    ∃ θ' H' i, Sn W θ' H' ∧ θ.Le θ' ∧ Ex H H' ∧ VRel θ' (.sl i 0 len none es) (.slice (some a) len cap) ∧ i < H'.nx ∧ (0 < len → H'.get i = some (.row xs false)) := by
  by_cases h0 : cap = 0
  · subst h0
    obtain rfl : len = 0 := by omega
    obtain ⟨l, hz⟩ := s.z
    refine ⟨θ, H, 0, s, Th.Le.refl _, Ex.refl _, ⟨l, a, 0, hz, rfl, Nat.le_refl _, ?_, nofun, fun h => absurd h (Nat.lt_irrefl _)⟩, ?_, fun h => absurd h (Nat.lt_irrefl _)⟩
    · obtain ⟨cs, c, _, _, cc, e, fr, _, h1, h2, _⟩ := s.ob _ _ hz
      rw [h1]; simp; omega
    · rcases Nat.lt_or_ge 0 H.nx with h | h
      · exact h
      · have := (s.fr 0 h).1
        rw [hz] at this; cases this
  · have hpos : 0 < cap * es := Nat.mul_pos (by omega) he
    obtain ⟨u, hu⟩ := hc 0 hpos
    rw [Addr.add_zero'] at hu
    obtain ⟨c, e, fr, hb, hs, _⟩ := cell_row hu
    obtain ⟨b, o, sp⟩ := a
    simp only at hs
    subst hs
    simp only [Addr.add_lit] at hc hr
    have at' : ∀ (j : Nat) u, W.cell? ⟨b, o + j, none⟩ = some u → c[o + j]? = some u := fun j u hj => by
      obtain ⟨c2, e2, fr2, hb2, _, h2⟩ := cell_row hj
      have hb3 : W.heap[b]? = some (.cells c2 e2 fr2) := hb2
      rw [hb] at hb3
      simp only [Option.some.injEq, Obj.cells.injEq] at hb3
      rw [hb3.1]; exact h2
    have hsz : o + cap * es ≤ c.size := by
      obtain ⟨u', hu'⟩ := hc (cap * es - 1) (by omega)
      have := (Array.getElem?_eq_some_iff.1 (at' _ _ hu')).1
      omega
    have hle : len * es ≤ cap * es := Nat.mul_le_mul_right _ hl
    obtain ⟨s', l', e'⟩ := s.add (l := ⟨b, o, c.size⟩) (cs := xs) hb ⟨c, e, fr, rfl, rfl, by show o + xs.length ≤ c.size; omega, fun j x hj => by
      obtain ⟨u, h1, h2, h3⟩ := hr j x hj
      exact ⟨u, at' j u h1, h2, h3⟩, nofun⟩
    exact ⟨_, _, H.nx, s', l', e', ⟨_, _, cap, Th.ext_same _ _ _, rfl, hl, by show o + 0 + cap * es ≤ c.size; omega, nofun, fun _ => rfl⟩, Nat.lt_succ_self _, fun _ => get_push_nx _ _⟩

/-- A slice of one cell an element. -/
theorem Sn.flat {α : Type} [Inhabited α] {W : World} {θ : Th} {H : Heap} (s : Sn W θ H) (f : α → AVal) {a : Addr} {len cap : Nat} (hl : len ≤ cap)
    (hx : ∀ i, i < cap → ∃ y : α, ∃ u, W.cell? (a.add i) = some u ∧ (∀ θ, VRel θ (f y) u) ∧ u.oneCell' = true) :
    ∃ θ' H' u, ∃ l : List α, Sn W θ' H' ∧ θ.Le θ' ∧ Ex H H' ∧ VRel θ' u (.slice (some a) len cap) ∧ Sl H' 1 false u (l.map f) ∧ l.length = len := by
  obtain ⟨g, hg⟩ := Deep.choose_lt hx
  obtain ⟨θ', H', i, s', l', e', v', hi, hrow⟩ := s.row (es := 1) (xs := ((List.range len).map g).map f) (a := a) (by omega) hl (by simp) (fun j hj => by
    obtain ⟨u, h, _⟩ := hg j (by omega)
    exact ⟨u, h⟩) (fun j x hj => by
    have hj' : j < len := by simpa using (List.getElem?_eq_some_iff.1 hj).1
    simp [hj'] at hj
    obtain ⟨u, h1, h2, h3⟩ := hg j (by omega)
    exact ⟨u, h1, by rw [← hj]; exact h2 θ, h3⟩)
  refine ⟨θ', H', _, (List.range len).map g, s', l', e', v', ⟨by simp [AM.slen], ⟨hi, rfl⟩, fun j x hj => ?_⟩, by simp⟩
  have hj' : j < len := by simpa using (List.getElem?_eq_some_iff.1 hj).1
  rw [sptr_sl, load_row (hrow (by omega))]
  simpa using hj

theorem fm_len {α : Type} (c : Nat → List α) (n : Nat) : ∀ k, (∀ j, j < k → (c j).length = n) → ((List.range k).flatMap c).length = k * n
  | 0, _ => by simp
  | k + 1, h => by
    rw [List.range_succ, List.flatMap_append, List.length_append, fm_len c n k (fun j hj => h j (by omega))]
    simp [h k (by omega), Nat.succ_mul]
theorem fm_get {α : Type} (c : Nat → List α) (n : Nat) : ∀ k, (∀ j, j < k → (c j).length = n) → ∀ j, j < k → ∀ r, r < n → ((List.range k).flatMap c)[j * n + r]? = (c j)[r]?
  | 0, _, j, hj, _, _ => by omega
  | k + 1, h, j, hj, r, hr => by
    have hk := fm_len c n k (fun j hj => h j (by omega))
    rw [List.range_succ, List.flatMap_append]
    by_cases he : j = k
    · subst he
      rw [List.getElem?_append_right (by omega), hk]
      simp
    · have : (j + 1) * n ≤ k * n := Nat.mul_le_mul_right _ (by omega)
      rw [Nat.succ_mul] at this
      rw [List.getElem?_append_left (by omega)]
      exact fm_get c n k (fun j hj => h j (by omega)) j (by omega) r hr
theorem fm_seg {α : Type} (c : Nat → List α) (n k : Nat) (h : ∀ j, j < k → (c j).length = n) (j : Nat) (hj : j < k) : (((List.range k).flatMap c).drop (j * n)).take n = c j := by
  apply List.ext_getElem?
  intro r
  rw [List.getElem?_take]
  by_cases hr : r < n
  · rw [if_pos hr, List.getElem?_drop]
    exact fm_get c n k h j hj r hr
  · rw [if_neg hr, List.getElem?_eq_none (by rw [h j hj]; omega)]

/-- Elements of several cells, one behind the other. -/
theorem Sn.steps {α : Type} [Inhabited α] {W : World} (Q : Heap → List AVal → α → Prop) (mono : ∀ H H' c y, Ex H H' → Q H c y → Q H' c y) {es : Nat} (a : Addr) :
    ∀ k, (∀ i, i < k → ∀ θ H, Sn W θ H → ∃ θ' H' c, ∃ y : α, Sn W θ' H' ∧ θ.Le θ' ∧ Ex H H' ∧ c.length = es ∧ Q H' c y ∧ ∀ (j : Nat) x, c[j]? = some x → ∃ u, W.cell? (a.add (i * es + j)) = some u ∧ VRel θ' x u ∧ u.oneCell' = true) →
    ∀ θ H, Sn W θ H → ∃ θ' H', ∃ (c : Nat → List AVal) (g : Nat → α), Sn W θ' H' ∧ θ.Le θ' ∧ Ex H H' ∧ ∀ i, i < k → (c i).length = es ∧ Q H' (c i) (g i) ∧ ∀ (j : Nat) x, (c i)[j]? = some x → ∃ u, W.cell? (a.add (i * es + j)) = some u ∧ VRel θ' x u ∧ u.oneCell' = true
  | 0, _, θ, H, s => ⟨θ, H, fun _ => [], fun _ => default, s, Th.Le.refl _, Ex.refl _, fun i hi => by omega⟩
  | k + 1, st, θ, H, s => by
    obtain ⟨θ1, H1, c, g, s1, l1, e1, h1⟩ := Sn.steps Q mono a k (fun i hi => st i (by omega)) θ H s
    obtain ⟨θ2, H2, c', y, s2, l2, e2, h2⟩ := st k (by omega) θ1 H1 s1
    refine ⟨θ2, H2, fun i => if i = k then c' else c i, fun i => if i = k then y else g i, s2, l1.trans l2, e1.trans e2, fun i hi => ?_⟩
    by_cases he : i = k
    · subst he
      simp only [if_true]
      exact h2
    · simp only [if_neg he]
      obtain ⟨p1, p2, p3⟩ := h1 i (by omega)
      refine ⟨p1, mono _ _ _ _ e2 p2, fun j x hj => ?_⟩
      obtain ⟨u, q1, q2, q3⟩ := p3 j x hj
      exact ⟨u, q1, q2.mono l2, q3⟩

theorem Sn.many {α : Type} [Inhabited α] {W : World} (Q : Heap → List AVal → α → Prop) (mono : ∀ H H' c y, Ex H H' → Q H c y → Q H' c y) {es : Nat} (he : 0 < es) {a : Addr} {len cap : Nat} (hl : len ≤ cap)
    (hc : ∀ j, j < cap * es → ∃ u, W.cell? (a.add j) = some u)
    (st : ∀ i, i < len → ∀ θ H, Sn W θ H → ∃ θ' H' c, ∃ y : α, Sn W θ' H' ∧ θ.Le θ' ∧ Ex H H' ∧ c.length = es ∧ Q H' c y ∧ ∀ (j : Nat) x, c[j]? = some x → ∃ u, W.cell? (a.add (i * es + j)) = some u ∧ VRel θ' x u ∧ u.oneCell' = true)
    {θ : Th} {H : Heap} (s : Sn W θ H) :
    ∃ θ' H' v, ∃ l : List α, Sn W θ' H' ∧ θ.Le θ' ∧ Ex H H' ∧ VRel θ' v (.slice (some a) len cap) ∧ AM.slen v = some l.length ∧ l.length = len ∧ slin H'.nx es v ∧
      ∀ (j : Nat) y, l[j]? = some y → ∃ c, aLoad H' (sptr es v j) es true = some (.agg c) ∧ Q H' c y := by
  obtain ⟨θ1, H1, c, g, s1, l1, e1, h1⟩ := Sn.steps Q mono a len st θ H s
  have hlen : ∀ j, j < len → (c j).length = es := fun j hj => (h1 j hj).1
  obtain ⟨θ2, H2, i, s2, l2, e2, v2, hi, hrow⟩ := s1.row (es := es) (xs := (List.range len).flatMap c) (a := a) he hl (fm_len c es len hlen) hc (fun j x hj => by
    have hj' := (List.getElem?_eq_some_iff.1 hj).1
    rw [fm_len c es len hlen] at hj'
    have hm : j % es < es := Nat.mod_lt _ he
    have hd : j / es < len := (Nat.div_lt_iff_lt_mul he).2 hj'
    have hj2 : j / es * es + j % es = j := Nat.div_add_mod' j es
    have := fm_get c es len hlen (j / es) hd (j % es) hm
    rw [hj2, hj] at this
    obtain ⟨u, q⟩ := (h1 (j / es) hd).2.2 (j % es) x this.symm
    rw [hj2] at q
    exact ⟨u, q⟩)
  refine ⟨θ2, H2, _, (List.range len).map g, s2, l1.trans l2, e1.trans e2, v2, by simp [AM.slen], by simp, ⟨hi, rfl⟩, fun j y hj => ?_⟩
  have hj' : j < len := by simpa using (List.getElem?_eq_some_iff.1 hj).1
  simp [hj'] at hj
  subst hj
  have hle : (j + 1) * es ≤ len * es := Nat.mul_le_mul_right _ (by omega)
  rw [Nat.succ_mul] at hle
  refine ⟨c j, ?_, mono _ _ _ _ e2 (h1 j hj').2.1⟩
  rw [sptr_sl, load_agg (hrow (by omega)) (by rw [fm_len c es len hlen]; omega)]
  rw [Nat.zero_add, fm_seg c es len hlen j hj']


theorem uT3 : Tryz.prog.underlying 3 = some (.int .i64) := by kernel_rfl
theorem uT4 : Tryz.prog.underlying 4 = some .bool := by kernel_rfl
theorem uT9 : Tryz.prog.underlying 9 = some .string := by kernel_rfl
theorem uT22 : Tryz.prog.underlying 22 = some (.slice 42) := by kernel_rfl
theorem uT34 : Tryz.prog.underlying 34 = some (.slice 24) := by kernel_rfl
theorem uT39 : Tryz.prog.underlying 39 = some (.slice 9) := by kernel_rfl
theorem uT40 : Tryz.prog.underlying 40 = some (.slice 3) := by kernel_rfl
def fl : Option TypeDesc → Option (List (TypeId × Nat))
  | some (.struct fs) => some (fs.toList.map fun f => (f.type, f.offset))
  | _ => none
theorem fl_struct {o : Option TypeDesc} {l : List (TypeId × Nat)} (h : fl o = some l) : ∃ fs, o = some (.struct fs) ∧ fs.toList.map (fun f => (f.type, f.offset)) = l := by
  unfold fl at h
  split at h
  · rename_i fs
    exact ⟨fs, rfl, Option.some.inj h⟩
  · cases h
theorem fl24 : fl (Tryz.prog.underlying 24) = some [(22, 0), (3, 1)] := by kernel_rfl
theorem fl42 : fl (Tryz.prog.underlying 42) = some [(3, 0), (39, 1), (40, 2), (4, 3)] := by kernel_rfl
theorem uT24 : ∃ f0 f1 : Field, Tryz.prog.underlying 24 = some (.struct #[f0, f1]) ∧ f0.type = 22 ∧ f0.offset = 0 ∧ f1.type = 3 ∧ f1.offset = 1 := by
  obtain ⟨⟨l⟩, h1, h2⟩ := fl_struct fl24
  match l, h2 with
  | [f0, f1], h2 =>
    simp only [List.map_cons, List.map_nil, List.cons.injEq, Prod.mk.injEq, and_true] at h2
    obtain ⟨⟨a, b⟩, c, d⟩ := h2
    exact ⟨f0, f1, h1, a, b, c, d⟩
theorem uT42 : ∃ f0 f1 f2 f3 : Field, Tryz.prog.underlying 42 = some (.struct #[f0, f1, f2, f3]) ∧ f0.type = 3 ∧ f0.offset = 0 ∧ f1.type = 39 ∧ f1.offset = 1 ∧ f2.type = 40 ∧ f2.offset = 2 ∧ f3.type = 4 ∧ f3.offset = 3 := by
  obtain ⟨⟨l⟩, h1, h2⟩ := fl_struct fl42
  match l, h2 with
  | [f0, f1, f2, f3], h2 =>
    simp only [List.map_cons, List.map_nil, List.cons.injEq, Prod.mk.injEq, and_true] at h2
    obtain ⟨⟨a, b⟩, ⟨c, d⟩, ⟨e, f⟩, g, h⟩ := h2
    exact ⟨f0, f1, f2, f3, h1, a, b, c, d, e, f, g, h⟩
theorem cT3 : Tryz.prog.cellsOf 3 = 1 := by kernel_rfl
theorem cT4 : Tryz.prog.cellsOf 4 = 1 := by kernel_rfl
theorem cT9 : Tryz.prog.cellsOf 9 = 1 := by kernel_rfl
theorem cT22 : Tryz.prog.cellsOf 22 = 1 := by kernel_rfl
theorem cT24 : Tryz.prog.cellsOf 24 = 2 := by kernel_rfl
theorem cT39 : Tryz.prog.cellsOf 39 = 1 := by kernel_rfl
theorem cT40 : Tryz.prog.cellsOf 40 = 1 := by kernel_rfl
theorem cT42 : Tryz.prog.cellsOf 42 = 4 := by kernel_rfl
theorem bT9 : Tryz.prog.bytesOf 9 = 16 := by kernel_rfl
theorem bT42 : 0 < Tryz.prog.bytesOf 42 := of_decide_eq_true (by kernel_rfl)
theorem bT24 : 0 < Tryz.prog.bytesOf 24 := of_decide_eq_true (by kernel_rfl)
theorem reach_lt : reachBytes < 4611686018427387904 := by decide

section
variable {H0 : Type} {enc : TypeId × Value → H0} {W : World} {base : Nat} {held : Bool}

/-- What it weighs is within reach. -/
def Lt (d : DataW H0) (t : TypeId) : Prop := ∀ n ∈ d.weights Tryz.prog t, n ≤ reachBytes
theorem weightsAll_mem {e : TypeId} {d : DataW H0} {n : Nat} : ∀ {l : List (DataW H0)}, d ∈ l → n ∈ d.weights Tryz.prog e → n ∈ DataW.weightsAll Tryz.prog e l
  | [], h, _ => by simp at h
  | x :: l, h, hn => by
    simp only [DataW.weightsAll, List.mem_append]
    rcases List.mem_cons.1 h with rfl | h
    · exact .inl hn
    · exact .inr (weightsAll_mem h hn)
theorem Lt.slice {t e : TypeId} {a b : List (DataW H0)} (hu : Tryz.prog.underlying t = some (.slice e)) (h : Lt (.slice a b) t) (hb : 0 < Tryz.prog.bytesOf e) : a.length ≤ reachBytes ∧ ∀ d ∈ a, Lt d e := by
  unfold Lt at h
  simp only [DataW.weights, hu, List.mem_cons, List.mem_append] at h
  refine ⟨?_, fun d hd n hn => h n (.inr (.inl (weightsAll_mem hd hn)))⟩
  have h1 := h _ (.inl rfl)
  have h2 := Nat.le_mul_of_pos_right (a.length + b.length) hb
  omega

theorem Sn.ints {θ : Th} {H : Heap} (s : Sn W θ H) {fuel : Nat} {v : Value} {x : DataW H0 × List MemPlace} (h : DataW.trod enc Tryz.prog W base (fun _ => true) held fuel 40 [v] = some x) :
    ∃ θ' H' u, ∃ l : List Int, Sn W θ' H' ∧ θ.Le θ' ∧ Ex H H' ∧ VRel θ' u v ∧ v.oneCell' = true ∧ Ints H' u l := by
  rcases Deep.open_slice1 uT40 cT3 h with ⟨h1, _⟩ | ⟨a, len, cap, m, n, V, D, Pl, h1, _, h3, _, rfl, _, hx⟩
  · simp only [List.cons.injEq, and_true] at h1
    subst h1
    exact ⟨θ, H, .nsl, [], s, Th.Le.refl _, Ex.refl _, rfl, rfl, Sl.nil _ _ _⟩
  · simp only [List.cons.injEq, and_true] at h1
    subst h1
    obtain ⟨θ', H', u, l, s', l', e', v', sl, _⟩ := s.flat (AVal.i .i64) h3 (fun i hi => by
      obtain ⟨c1, c2⟩ := hx i (by simpa using hi)
      obtain ⟨k, k1, _, _⟩ := DataW.trod_int uT3 c2
      simp only [List.cons.injEq, and_true] at k1
      exact ⟨k, _, c1, fun θ => k1, by rw [k1]; rfl⟩)
    exact ⟨θ', H', u, l, s', l', e', v', rfl, sl⟩

theorem Sn.strs {θ : Th} {H : Heap} (s : Sn W θ H) {fuel : Nat} {v : Value} {x : DataW H0 × List MemPlace} (h : DataW.trod enc Tryz.prog W base (fun _ => true) held fuel 39 [v] = some x) (hw : Lt x.1 39) :
    ∃ θ' H' u, ∃ l : List (List Nat), Sn W θ' H' ∧ θ.Le θ' ∧ Ex H H' ∧ VRel θ' u v ∧ v.oneCell' = true ∧ Strs H' u l ∧ l.length ≤ reachBytes := by
  rcases Deep.open_slice1 uT39 cT9 h with ⟨h1, _⟩ | ⟨a, len, cap, m, n, V, D, Pl, h1, _, h3, _, rfl, h4, hx⟩
  · simp only [List.cons.injEq, and_true] at h1
    subst h1
    exact ⟨θ, H, .nsl, [], s, Th.Le.refl _, Ex.refl _, rfl, rfl, Sl.nil _ _ _, Nat.zero_le _⟩
  · simp only [List.cons.injEq, and_true] at h1
    subst h1
    obtain ⟨θ', H', u, l, s', l', e', v', sl, hl⟩ := s.flat AVal.s h3 (fun i hi => by
      obtain ⟨c1, c2⟩ := hx i (by simpa using hi)
      obtain ⟨b, k1, _, _⟩ := DataW.trod_string uT9 c2
      simp only [List.cons.injEq, and_true] at k1
      exact ⟨b.data.toList.map UInt8.toNat, _, c1, fun θ => ⟨b, k1, rfl⟩, by rw [k1]; rfl⟩)
    rw [h4] at hw
    have := (hw.slice uT39 (by rw [bT9]; omega)).1
    simp at this
    exact ⟨θ', H', u, l, s', l', e', v', rfl, sl, by omega⟩

instance : Inhabited Hd := ⟨⟨0, [], [], false⟩⟩
instance : Inhabited Gr := ⟨⟨[], 0⟩⟩

theorem rel4 {θ : Th} {a b c d : AVal} {p q r t : Value} {b0 : Addr} {W : World} {n : Nat} (ca : W.cell? (b0.add (n + 0)) = some p) (cb : W.cell? (b0.add (n + 1)) = some q) (cc : W.cell? (b0.add (n + 2)) = some r) (cd : W.cell? (b0.add (n + 3)) = some t)
    (ha : VRel θ a p ∧ p.oneCell' = true) (hb : VRel θ b q ∧ q.oneCell' = true) (hc : VRel θ c r ∧ r.oneCell' = true) (hd : VRel θ d t ∧ t.oneCell' = true) :
    ∀ (j : Nat) x, [a, b, c, d][j]? = some x → ∃ u, W.cell? (b0.add (n + j)) = some u ∧ VRel θ x u ∧ u.oneCell' = true
  | 0, x, h => by obtain rfl := Option.some.inj h; exact ⟨p, ca, ha⟩
  | 1, x, h => by obtain rfl := Option.some.inj h; exact ⟨q, cb, hb⟩
  | 2, x, h => by obtain rfl := Option.some.inj h; exact ⟨r, cc, hc⟩
  | 3, x, h => by obtain rfl := Option.some.inj h; exact ⟨t, cd, hd⟩
  | j + 4, x, h => by simp at h

theorem Sn.head {θ : Th} {H : Heap} (s : Sn W θ H) {fuel n : Nat} {a : Addr} {cs : List Value} {x : DataW H0 × List MemPlace} (hc : W.cells? base (a.add n) 4 = some cs) (h : DataW.trod enc Tryz.prog W base (fun _ => true) held fuel 42 cs = some x) (hw : Lt x.1 42) :
    ∃ θ' H' c, ∃ y : Hd, Sn W θ' H' ∧ θ.Le θ' ∧ Ex H H' ∧ c.length = 4 ∧ (HdOf H' c y ∧ y.names.length ≤ reachBytes) ∧ ∀ (j : Nat) x, c[j]? = some x → ∃ u, W.cell? (a.add (n + j)) = some u ∧ VRel θ' x u ∧ u.oneCell' = true := by
  obtain ⟨f0, f1, f2, f3, hu, t0, o0, t1, o1, t2, o2, t3, o3⟩ := uT42
  obtain ⟨y0, y1, y2, y3, m, hx, _, h0, h1, h2, h3⟩ := Joins.trod_struct4 hu h
  have hw1 : Lt y1.1 39 := fun n hn => hw n (by rw [hx]; simp [DataW.weights, hu, DataW.weightsEach, t1, hn])
  obtain ⟨_, hlen, hat⟩ := World.cells?_some hc
  match cs, hlen with
  | [c0, c1, c2, c3], _ =>
    rw [t0, o0, cT3] at h0
    rw [t1, o1, cT39] at h1
    rw [t2, o2, cT40] at h2
    rw [t3, o3, cT4] at h3
    simp only [List.drop_zero, List.drop_succ_cons, List.take_succ_cons, List.take_zero] at h0 h1 h2 h3
    obtain ⟨k, k1, _⟩ := DataW.trod_int uT3 h0
    obtain ⟨b, k3, _⟩ := DataW.trod_bool uT4 h3
    simp only [List.cons.injEq, and_true] at k1 k3
    subst k1 k3
    obtain ⟨θ1, H1, u1, ns, s1, l1, e1, v1, oc1, hn, hnl⟩ := s.strs h1 hw1
    obtain ⟨θ2, H2, u2, ks, s2, l2, e2, v2, oc2, hk⟩ := s1.ints h2
    have add : ∀ j, (a.add n).add j = a.add (n + j) := fun j => Addr.add_add _ _ _
    refine ⟨θ2, H2, [.i .i64 k, u1, u2, .b b], ⟨k, ns, ks, b⟩, s2, l1.trans l2, e1.trans e2, rfl, ⟨⟨u1, u2, rfl, hn.ex e2, hk⟩, hnl⟩, ?_⟩
    refine rel4 ((add 0) ▸ hat 0 (by omega)) ((add 1) ▸ hat 1 (by omega)) ((add 2) ▸ hat 2 (by omega)) ((add 3) ▸ hat 3 (by omega)) ⟨rfl, rfl⟩ ⟨v1.mono l2, oc1⟩ ⟨v2, oc2⟩ ⟨rfl, rfl⟩

theorem all_cells {W : World} {a : Addr} {cap es : Nat} (he : 0 < es) (h : ∀ i, i < cap → ∃ cs, W.cells? base (a.add (i * es)) es = some cs) : ∀ j, j < cap * es → ∃ u, W.cell? (a.add j) = some u := by
  intro j hj
  have hd : j / es < cap := (Nat.div_lt_iff_lt_mul he).2 hj
  have hm : j % es < es := Nat.mod_lt _ he
  obtain ⟨cs, hc⟩ := h (j / es) hd
  obtain ⟨_, hlen, hat⟩ := World.cells?_some hc
  have := hat (j % es) hm
  have hj2 : j / es * es + j % es = j := Nat.div_add_mod' j es
  have add : (a.add (j / es * es)).add (j % es) = a.add j := by rw [Addr.add_add, hj2]
  rw [add, List.getElem?_eq_getElem (by omega)] at this
  exact ⟨_, this⟩

theorem Sn.hds {θ : Th} {H : Heap} (s : Sn W θ H) {fuel : Nat} {v : Value} {x : DataW H0 × List MemPlace} (h : DataW.trod enc Tryz.prog W base (fun _ => true) held fuel 22 [v] = some x) (hw : Lt x.1 22) :
    ∃ θ' H' u, ∃ l : List Hd, Sn W θ' H' ∧ θ.Le θ' ∧ Ex H H' ∧ VRel θ' u v ∧ v.oneCell' = true ∧ Hds H' u l ∧ l.length ≤ reachBytes ∧ ∀ h ∈ l, h.names.length ≤ reachBytes := by
  rcases Deep.open_slice uT22 h with ⟨h1, _⟩ | ⟨a, len, cap, m, n, D, Pl, h1, _, h3, _, rfl, h4, hx⟩
  · simp only [List.cons.injEq, and_true] at h1
    subst h1
    exact ⟨θ, H, .nsl, [], s, Th.Le.refl _, Ex.refl _, rfl, rfl, ⟨rfl, trivial, fun j h hj => by simp at hj⟩, Nat.zero_le _, fun h hh => by simp at hh⟩
  · simp only [List.cons.injEq, and_true] at h1
    subst h1
    rw [h4] at hw
    obtain ⟨hw1, hw2⟩ := hw.slice uT22 bT42
    simp at hw1
    rw [cT42] at hx
    obtain ⟨θ', H', u, l, s', l', e', v', hs, hl, hi, hat⟩ := Sn.many (W := W) (fun H c (y : Hd) => HdOf H c y ∧ y.names.length ≤ reachBytes) (fun H H' c y e q => ⟨q.1.ex e, q.2⟩) (es := 4) (by omega) (a := a) h3
      (all_cells (by omega) fun i hi => by obtain ⟨cs, q, _⟩ := hx i hi; exact ⟨cs, q⟩)
      (fun i hi θ H s => by
        obtain ⟨cs, q1, q2⟩ := hx i (by omega)
        exact s.head q1 q2 (hw2 _ (List.mem_map.2 ⟨i, List.mem_range.2 hi, rfl⟩))) s
    refine ⟨θ', H', u, l, s', l', e', v', rfl, ⟨hs, hi, fun j h hj => ?_⟩, by omega, fun h hh => ?_⟩
    · obtain ⟨c, q1, q2, _⟩ := hat j h hj
      exact ⟨c, q1, q2⟩
    · obtain ⟨j, hj⟩ := List.mem_iff_getElem?.1 hh
      obtain ⟨c, _, _, q3⟩ := hat j h hj
      exact q3

/-- A graph's two cells. -/
theorem Sn.gr {θ : Th} {H : Heap} (s : Sn W θ H) {p q : Value} {x y : DataW H0 × List MemPlace} {f g : Nat} (h0 : DataW.trod enc Tryz.prog W base (fun _ => true) held f 22 [p] = some x) (h1 : DataW.trod enc Tryz.prog W base (fun _ => true) held g 3 [q] = some y) (hw : Lt x.1 22) :
    ∃ θ' H' l, ∃ G : Gr, Sn W θ' H' ∧ θ.Le θ' ∧ Ex H H' ∧ VRel θ' l p ∧ p.oneCell' = true ∧ q = .int .i64 G.root ∧ Hds H' l G.l ∧ Szs G := by
  obtain ⟨k, k1, _⟩ := DataW.trod_int uT3 h1
  simp only [List.cons.injEq, and_true] at k1
  obtain ⟨θ', H', u, l, s', l', e', v', oc, hh, hl, hn⟩ := s.hds h0 hw
  have := reach_lt
  exact ⟨θ', H', u, ⟨l, k⟩, s', l', e', v', oc, k1, hh, by show l.length < _; omega, fun h hh => by have := hn h hh; omega⟩


theorem rels2 {θ : Th} {l r : AVal} {p q : Value} (hl : VRel θ l p) (hp : p.oneCell' = true) (hr : VRel θ r q) (hq : q.oneCell' = true) : VRel θ (.agg [l, r]) (.agg #[p, q]) :=
  ⟨#[p, q], rfl, ⟨p, [q], rfl, hl, q, [], rfl, hr, rfl⟩, fun u hu => by
    simp at hu
    rcases hu with rfl | rfl
    · exact hp
    · exact hq⟩

/-- A graph by value. -/
theorem Sn.arg {θ : Th} {H : Heap} (s : Sn W θ H) {r : Reach} {b0 : Nat} {v : Value} {d : DataW H0} {p : List MemPlace} (hv : Value.okWide Tryz.prog W r b0 24 v) (h : DataW.Trod enc Tryz.prog W base (fun _ => true) held 24 v d p) (hw : Lt d 24) :
    ∃ θ' H' u, ∃ G : Gr, Sn W θ' H' ∧ θ.Le θ' ∧ Ex H H' ∧ VRel θ' u v ∧ GrOf H' u G ∧ Szs G := by
  obtain ⟨f0, f1, hu, t0, o0, t1, o1⟩ := uT24
  obtain ⟨cs, rfl, hsz⟩ := WideShapes.okWide_struct hu hv
  obtain ⟨fuel, hf⟩ := h
  obtain ⟨y0, y1, m, hx, _, h0, h1⟩ := ChangeShapes.trod_struct2 hu hf
  rw [cT24] at hsz
  obtain ⟨l⟩ := cs
  match l, hsz with
  | [c0, c1], _ =>
    rw [t0, o0, cT22] at h0
    rw [t1, o1, cT3] at h1
    simp only [Value.cells, List.drop_zero, List.drop_succ_cons, List.take_succ_cons, List.take_zero] at h0 h1
    simp only [Prod.mk.injEq] at hx
    obtain ⟨θ', H', u, G, s', l', e', v', oc, rfl, hh, hz⟩ := s.gr h0 h1 (fun n hn => hw n (by rw [hx.1]; simp [DataW.weights, hu, DataW.weightsEach, t0, hn]))
    exact ⟨θ', H', .agg [u, .i .i64 G.root], G, s', l', e', rels2 v' oc rfl rfl, ⟨u, rfl, hh⟩, hz⟩

/-- A row of graphs. -/
theorem Sn.args {θ : Th} {H : Heap} (s : Sn W θ H) {r : Reach} {b0 : Nat} {v : Value} {d : DataW H0} {p : List MemPlace} (hv : Value.okWide Tryz.prog W r b0 34 v) (h : DataW.Trod enc Tryz.prog W base (fun _ => true) held 34 v d p) (hw : Lt d 34) :
    ∃ θ' H' u, ∃ l : List Gr, Sn W θ' H' ∧ θ.Le θ' ∧ Ex H H' ∧ VRel θ' u v ∧ Grs H' u l ∧ (∀ g ∈ l, Szs g) ∧ l.length < 4611686018427387904 := by
  obtain ⟨a0, len0, cap0, rfl⟩ := WideShapes.okWide_slice uT34 hv
  obtain ⟨fuel, hf⟩ := h
  have := reach_lt
  rcases Deep.open_slice uT34 hf with ⟨h1, _⟩ | ⟨a, len, cap, m, n, D, Pl, h1, _, h3, _, rfl, h4, hx⟩
  · simp only [Value.cells, List.cons.injEq, and_true] at h1
    rw [h1]
    exact ⟨θ, H, .nsl, [], s, Th.Le.refl _, Ex.refl _, rfl, ⟨rfl, trivial, fun j h hj => by simp at hj⟩, fun h hh => by simp at hh, by simp⟩
  · simp only [Value.cells, List.cons.injEq, and_true] at h1
    rw [h1]
    simp only [Prod.mk.injEq] at h4
    rw [h4.1] at hw
    obtain ⟨hw1, hw2⟩ := hw.slice uT34 bT24
    simp at hw1
    rw [cT24] at hx
    obtain ⟨f0, f1, hu, t0, o0, t1, o1⟩ := uT24
    obtain ⟨θ', H', u, l, s', l', e', v', hs, hl, hi, hat⟩ := Sn.many (W := W) (fun H c (y : Gr) => GrOf H (.agg c) y ∧ Szs y) (fun H H' c y e q => ⟨q.1.ex e, q.2⟩) (es := 2) (by omega) (a := a) h3
      (all_cells (by omega) fun i hi => by obtain ⟨cs, q, _⟩ := hx i hi; exact ⟨cs, q⟩)
      (fun i hi θ H s => by
        obtain ⟨cs, q1, q2⟩ := hx i (by omega)
        obtain ⟨_, hlen, hat⟩ := World.cells?_some q1
        obtain ⟨y0, y1, m, hx, _, h0, h1⟩ := ChangeShapes.trod_struct2 hu q2
        have hwi := hw2 _ (List.mem_map.2 ⟨i, List.mem_range.2 hi, rfl⟩)
        match cs, hlen with
        | [c0, c1], _ =>
          rw [t0, o0, cT22] at h0
          rw [t1, o1, cT3] at h1
          simp only [List.drop_zero, List.drop_succ_cons, List.take_succ_cons, List.take_zero] at h0 h1
          simp only [Prod.mk.injEq] at hx
          obtain ⟨θ', H', u, G, s', l', e', v', oc, rfl, hh, hz⟩ := s.gr h0 h1 (fun n hn => hwi n (by rw [hx.1]; simp [DataW.weights, hu, DataW.weightsEach, t0, hn]))
          have add : ∀ j, (a.add (i * 2)).add j = a.add (i * 2 + j) := fun j => Addr.add_add _ _ _
          refine ⟨θ', H', [u, .i .i64 G.root], G, s', l', e', rfl, ⟨⟨u, rfl, hh⟩, hz⟩, fun j x hj => ?_⟩
          match j, hj with
          | 0, hj => obtain rfl := Option.some.inj hj; exact ⟨_, (add 0) ▸ hat 0 (by omega), v', oc⟩
          | 1, hj => obtain rfl := Option.some.inj hj; exact ⟨_, (add 1) ▸ hat 1 (by omega), rfl, rfl⟩
          | j + 2, hj => simp at hj) s
    refine ⟨θ', H', u, l, s', l', e', v', ⟨hs, hi, fun j g hj => ?_⟩, fun g hg => ?_, by omega⟩
    · obtain ⟨c, q1, q2, _⟩ := hat j g hj
      exact ⟨_, q1, q2⟩
    · obtain ⟨j, hj⟩ := List.mem_iff_getElem?.1 hg
      obtain ⟨c, _, _, q3⟩ := hat j g hj
      exact q3

end

end
end K
end Go.Proofs.YtlgbgbngdhhjaaaGreatDoor
