/- What made comes to; one state below another. No condition. -/
import Derived.Test.YtlgbgbngdhhjaaaGreatDoorB10
import Derived.Test.YtlgbgbngdhhjaaaGreatDoorB09
import Derived.Test.YtlgbgbngdhhjaaaGreatDoorB07
set_option linter.unusedSimpArgs false
set_option linter.unusedVariables false
set_option maxRecDepth 10000
namespace Go.Proofs.YtlgbgbngdhhjaaaGreatDoor
namespace K
noncomputable section
open Go AM

structure RHd (n : Nat) (h : Hd) : Prop where
  ok : HOk n h
  nm : ∀ s ∈ h.names, (h.kind = 8 → nameB s = true) ∧ (h.kind = 9 → tagB s = true)

theorem headR_iff (n : Nat) (h : Hd) : headR n h = true ↔ RHd n h := by
  unfold headR
  simp only [Bool.and_eq_true, kidsR_iff, namesR_iff, formR_iff]
  constructor
  · rintro ⟨⟨h1, h2, h3⟩, h4⟩
    exact ⟨⟨fun x hx => by
      obtain ⟨i, hi⟩ := List.mem_iff_getElem?.1 hx
      exact (h1 i x hi).1, h4, rise_up h2⟩, h3⟩
  · rintro ⟨⟨h1, h2, h3⟩, h4⟩
    refine ⟨⟨fun i k hk => ⟨h1 k (List.mem_of_getElem? hk), fun h0 => ?_⟩, up_rise h3, h4⟩, h2⟩
    have hil := (List.getElem?_eq_some_iff.1 hk).1
    rcases h2.2 with ⟨_, a, b⟩ | ⟨_, a⟩ | ⟨_, _, a, b⟩
    · rw [a] at h0; simp at h0
    · omega
    · rw [a] at h0; simp at h0

structure RG (g : Gr) : Prop where
  ok : Ok g
  hd : ∀ (i : Nat) h, g.l[i]? = some h → RHd g.l.length h

theorem rightB_iff (g : Gr) : rightB g = true ↔ RG g := by
  unfold rightB
  simp only [Bool.and_eq_true, Bool.not_eq_true', Bool.or_eq_false_iff, decide_eq_false_iff_not, beq_eq_false_iff_ne, List.all_eq_true, headR_iff]
  constructor
  · rintro ⟨⟨⟨⟨h1, h2⟩, h3⟩, h4⟩, h5⟩
    exact ⟨⟨by omega, by omega, by omega, by omega, fun i h hi => (h5 h (List.mem_of_getElem? hi)).ok⟩, fun i h hi => h5 h (List.mem_of_getElem? hi)⟩
  · rintro ⟨⟨h1, h2, h3, h4, _⟩, h5⟩
    refine ⟨⟨⟨⟨by omega, by omega⟩, by omega⟩, by omega⟩, fun h hh => ?_⟩
    obtain ⟨i, hi⟩ := List.mem_iff_getElem?.1 hh
    exact h5 i h hi

theorem RHd.sok {n : Nat} {h : Hd} (r : RHd n h) : SOk h := by
  have f := r.ok.form
  refine ⟨?_, f.1, fun s hs => ?_⟩
  · rcases f.2 with ⟨a, _⟩ | ⟨a | a, _⟩ | ⟨a, b, _⟩ <;> omega
  · rcases f.2 with ⟨_, a, _⟩ | ⟨a | a, _⟩ | ⟨_, _, a, _⟩
    · rw [a] at hs; simp at hs
    · have := (r.nm s hs).1 a
      simp only [nameB, Bool.and_eq_true] at this
      exact this.1
    · exact (r.nm s hs).2 a
    · rw [a] at hs; simp at hs

/-! ### Names of two -/
theorem mem_both {a b : List (List Nat)} {x : List Nat} : x ∈ bothN a b ↔ x ∈ a ∧ x ∈ b := by
  unfold bothN
  rw [List.mem_filter, List.any_eq_true]
  constructor
  · rintro ⟨h1, y, h2, h3⟩
    have : x = y := by simpa using h3
    exact ⟨h1, this ▸ h2⟩
  · rintro ⟨h1, h2⟩
    exact ⟨h1, x, h2, by simp⟩
theorem up_both {a b : List (List Nat)} (h : Up a) : Up (bothN a b) := List.Pairwise.sublist List.filter_sublist h

theorem mem_comp : ∀ {l : List (List Nat)} {x : List Nat}, x ∈ compN l ↔ x ∈ l
  | [], x => Iff.rfl
  | [y], x => Iff.rfl
  | y :: z :: r, x => by
    have ih := mem_comp (l := z :: r) (x := x)
    unfold compN
    split
    · rename_i e
      have e' : y = z := by simpa using e
      subst e'
      rw [ih]; simp
    · rw [List.mem_cons, ih]; simp
theorem up_comp : ∀ {l : List (List Nat)}, l.Pairwise (fun a b => natsLess b a = false) → Up (compN l)
  | [], _ => List.Pairwise.nil
  | [y], _ => List.pairwise_singleton _ _
  | y :: z :: r, h => by
    have h2 := (List.pairwise_cons.1 h).2
    have ih := up_comp h2
    unfold compN
    split
    · exact ih
    · rename_i e
      have e' : y ≠ z := by simpa using e
      refine List.pairwise_cons.2 ⟨fun x hx => ?_, ih⟩
      rw [mem_comp] at hx
      have yz : natsLess y z = true := by
        have := (List.pairwise_cons.1 h).1 z (by simp)
        rcases less_total y z with k | k | k
        · exact k
        · exact absurd k e'
        · rw [k] at this; cases this
      rcases List.mem_cons.1 hx with rfl | hx
      · exact yz
      · have zx := (List.pairwise_cons.1 h2).1 x hx
        rcases less_total z x with k | k | k
        · exact less_trans yz k
        · exact k ▸ yz
        · rw [k] at zx; cases zx
theorem mem_union {a b : List (List Nat)} {x : List Nat} : x ∈ unionN a b ↔ x ∈ a ∨ x ∈ b := by
  unfold unionN
  rw [mem_comp]
  unfold sortN
  rw [List.mem_mergeSort, List.mem_append]
theorem up_union (a b : List (List Nat)) : Up (unionN a b) := by
  unfold unionN
  refine up_comp ?_
  unfold sortN
  have := List.pairwise_mergeSort (le := fun a b : List Nat => !natsLess b a) (fun a b c h1 h2 => by
    simp only [Bool.not_eq_true'] at h1 h2 ⊢
    cases h3 : natsLess c a with
    | false => rfl
    | true =>
      rcases less_total a b with k | k | k
      · rw [less_trans h3 k] at h2; cases h2
      · rw [← k, h3] at h2; cases h2
      · rw [k] at h1; cases h1) (fun a b => by
    cases h1 : natsLess b a with
    | false => simp
    | true =>
      cases h2 : natsLess a b with
      | false => simp
      | true =>
        have := less_trans h1 h2
        rw [less_irr] at this; cases this) (a ++ b)
  exact this.imp fun h => by simpa using h

/-! ### Parts -/
theorem addP_nmI (q : Pt) (ps : List Pt) : (addP q ps)[nmI q ps]? = some q := by
  rw [addP_eq]
  unfold nmI
  cases h : posP q ps 0 with
  | none => simp
  | some i =>
    have := (posP_ge h).2
    simpa using this
theorem addP_nodup {q : Pt} {ps : List Pt} (h : ps.Nodup) : (addP q ps).Nodup := by
  rw [addP_eq]
  cases hp : posP q ps 0 with
  | none =>
    have := posP_none hp
    simp only [Option.isSome_none, Bool.false_eq_true, if_false]
    rw [List.nodup_append]
    refine ⟨h, by simp, fun a ha b hb => ?_⟩
    simp at hb
    rintro rfl
    exact this (hb ▸ ha)
  | some i => simpa using h
theorem addA_nodup : ∀ {qs ps : List Pt}, ps.Nodup → (addA ps qs).Nodup
  | [], _, h => h
  | _ :: qs, _, h => addA_nodup (qs := qs) (addP_nodup h)
theorem addA_mem : ∀ {qs ps : List Pt} {k : Pt}, k ∈ addA ps qs → k ∈ ps ∨ k ∈ qs
  | [], _, _, h => .inl h
  | q :: qs, ps, k, h => by
    rcases addA_mem (qs := qs) h with h | h
    · rw [addP_eq] at h
      split at h
      · exact .inl h
      · rcases List.mem_append.1 h with h | h
        · exact .inl h
        · simp at h; exact .inr (by simp [h])
    · exact .inr (by simp [h])
theorem numA_get : ∀ {qs ps : List Pt} {i : Nat} {k : Pt}, qs[i]? = some k → ∃ m, (numA ps qs)[i]? = some m ∧ (addA ps qs)[m]? = some k
  | [], _, i, _, h => by simp at h
  | q :: qs, ps, 0, k, h => by
    simp at h
    subst h
    exact ⟨nmI q ps, by simp [numA], pre_get (addA_pre qs _) (addP_nmI q ps)⟩
  | q :: qs, ps, i + 1, k, h => by
    obtain ⟨m, h1, h2⟩ := numA_get (qs := qs) (ps := addP q ps) (i := i) (by simpa using h)
    exact ⟨m, by simpa [numA] using h1, h2⟩

structure HdP (ps : List Pt) (s : Shape) (h : Hd) : Prop where
  kind : h.kind = s.kind
  names : h.names = s.names
  opn : h.opn = s.opn
  len : h.kids.length = s.kids.length
  kid : ∀ (a : Nat) q, s.kids[a]? = some q → ∃ m : Nat, h.kids[a]? = some (m : Int) ∧ ps[m]? = some q

theorem HdP.of (ps : List Pt) (s : Shape) : HdP (addA ps s.kids) s (shH ps s) := by
  refine ⟨rfl, rfl, rfl, by simp [shH, numA_length], fun a q hq => ?_⟩
  obtain ⟨m, h1, h2⟩ := numA_get (ps := ps) hq
  exact ⟨m, by simp [shH, h1], h2⟩
theorem HdP.grow {ps ps' : List Pt} {s : Shape} {h : Hd} (k : HdP ps s h) (hp : ps <+: ps') : HdP ps' s h :=
  ⟨k.kind, k.names, k.opn, k.len, fun a q hq => by
    obtain ⟨m, h1, h2⟩ := k.kid a q hq
    exact ⟨m, h1, pre_get hp h2⟩⟩

/-- A shape that may be. -/
structure ShR (s : Shape) : Prop where
  opn : s.opn = true → s.kind = 9
  form : (s.kind = 7 ∧ s.names = [] ∧ s.kids.length = 2) ∨ ((s.kind = 8 ∨ s.kind = 9) ∧ s.names.length = s.kids.length) ∨ (0 ≤ s.kind ∧ s.kind ≤ 6 ∧ s.names = [] ∧ s.kids = [])
  up : Up s.names
  nm : ∀ x ∈ s.names, (s.kind = 8 → nameB x = true) ∧ (s.kind = 9 → tagB x = true)

theorem HdP.rhd {ps : List Pt} {s : Shape} {h : Hd} (k : HdP ps s h) (r : ShR s) : RHd ps.length h := by
  refine ⟨⟨fun x hx => ?_, ⟨?_, ?_⟩, k.names ▸ r.up⟩, fun x hx => ?_⟩
  · obtain ⟨a, ha⟩ := List.mem_iff_getElem?.1 hx
    have hal := (List.getElem?_eq_some_iff.1 ha).1
    obtain ⟨m, h1, h2⟩ := k.kid a _ (List.getElem?_eq_getElem (by rw [← k.len]; exact hal))
    rw [ha] at h1
    obtain rfl := Option.some.inj h1
    have := (List.getElem?_eq_some_iff.1 h2).1
    omega
  · rw [k.opn, k.kind]; exact r.opn
  · rw [k.kind, k.names, k.len]
    rcases r.form with h | h | ⟨a, b, c, d⟩
    · exact .inl h
    · exact .inr (.inl h)
    · exact .inr (.inr ⟨a, b, c, List.eq_nil_of_length_eq_zero (by rw [k.len, d]; rfl)⟩)
  · rw [k.kind]; exact r.nm x (k.names ▸ hx)

theorem findK_cases {n : Nat} {h : Hd} (o : HOk n h) (nm : List Nat) : (nm ∉ h.names ∧ findK h.names h.kids nm = -1) ∨ ∃ i : Nat, h.names[i]? = some nm ∧ ∃ y : Nat, h.kids[i]? = some (y : Int) ∧ y < n ∧ findK h.names h.kids nm = y := by
  by_cases hm : nm ∈ h.names
  · obtain ⟨i, hi⟩ := List.mem_iff_getElem?.1 hm
    have hil := (List.getElem?_eq_some_iff.1 hi).1
    have hkl : i < h.kids.length := Nat.lt_of_lt_of_le hil o.le
    have hr := o.kid _ (List.getElem_mem hkl)
    refine .inr ⟨i, hi, h.kids[i].toNat, ?_, by omega, ?_⟩
    · rw [List.getElem?_eq_getElem hkl]; congr 1; omega
    · rw [findK_at o.up.nodup hi (List.getElem?_eq_getElem hkl)]; omega
  · exact .inl ⟨hm, findK_none hm⟩

structure Heads (A : List Hd) (N : Nat) : Prop where
  hd : ∀ (i : Nat) h, A[i]? = some h → RHd A.length h
  nn : ∀ (i : Nat) h, A[i]? = some h → h.names.length ≤ N ∧ ∀ s ∈ h.names, s.length < 60000

/-- What a shape's parts, names are. -/
structure ShP (A B : List Hd) (N : Nat) (s : Shape) : Prop where
  r : ShR s
  k : ∀ q ∈ s.kids, POk A B q
  nl : s.names.length ≤ N
  ns : ∀ x ∈ s.names, x.length < 60000

theorem nat_of {n : Nat} {x : Int} (h : 0 ≤ x ∧ x < n) : ∃ i : Nat, x = i ∧ i < n := ⟨x.toNat, by omega, by omega⟩

theorem sideS_ok {A B : List Hd} {N n : Nat} {p : Pt} {h : Hd} (r : RHd n h) (hl : h.names.length ≤ N) (hs : ∀ s ∈ h.names, s.length < 60000) (hp : (p.b < 0 ∧ n = A.length) ∨ (¬ p.b < 0 ∧ n = B.length)) : ShP A B N (sideS p h) := by
  have f := r.ok.form
  refine ⟨⟨f.1, ?_, r.ok.up, r.nm⟩, fun q hq => ?_, hl, hs⟩
  · have hkl : (sideS p h).kids.length = h.kids.length := sideK_len p h
    rcases f.2 with ⟨a, b, c⟩ | ⟨a, b⟩ | ⟨a, b, c, d⟩
    · exact .inl ⟨a, b, by rw [hkl]; exact c⟩
    · exact .inr (.inl ⟨a, by rw [hkl]; exact b⟩)
    · exact .inr (.inr ⟨a, b, c, List.eq_nil_of_length_eq_zero (by rw [hkl, d]; rfl)⟩)
  · obtain ⟨j, hj⟩ := List.mem_iff_getElem?.1 hq
    have hjl : j < h.kids.length := by
      have := (List.getElem?_eq_some_iff.1 hj).1
      have hkl : (sideS p h).kids.length = h.kids.length := sideK_len p h
      omega
    have hk := sideK_at (p := p) (h := h) (List.getElem?_eq_getElem hjl)
    have hj' : (sideK p h)[j]? = some q := hj
    rw [hk] at hj'
    obtain rfl := Option.some.inj hj'
    obtain ⟨i, hi, hin⟩ := nat_of (r.ok.kid _ (List.getElem_mem hjl))
    rcases hp with ⟨hb, rfl⟩ | ⟨hb, rfl⟩
    · rw [if_pos hb]
      exact ⟨.inr ⟨i, hi, hin⟩, .inl rfl, by simp only; omega⟩
    · rw [if_neg hb]
      exact ⟨.inl rfl, .inr ⟨i, hi, hin⟩, by simp only; omega⟩

theorem namS_ok {A B : List Hd} {N : Nat} {p : Pt} {x y : Hd} {nms : List (List Nat)} {opn : Bool} (rx : RHd A.length x) (ry : RHd B.length y) (hk : x.kind = y.kind) (h89 : x.kind = 8 ∨ x.kind = 9) (ho : opn = true → x.kind = 9) (hu : Up nms) (hm : ∀ s ∈ nms, s ∈ x.names ∨ s ∈ y.names) (hn : nms.length ≤ N) (sx : ∀ s ∈ x.names, s.length < 60000) (sy : ∀ s ∈ y.names, s.length < 60000) : ShP A B N (namS p x y nms opn) := by
  refine ⟨⟨ho, .inr (.inl ⟨h89, by simp [namS, namK]⟩), hu, fun s hs => ?_⟩, fun q hq => ?_, hn, fun s hs => ?_⟩
  · rcases hm s hs with h | h
    · exact rx.nm s h
    · have := ry.nm s h
      rw [← hk] at this; exact this
  · simp only [namS, namK, List.mem_map] at hq
    obtain ⟨nm, hnm, rfl⟩ := hq
    have cx := findK_cases rx.ok nm
    have cy := findK_cases ry.ok nm
    refine ⟨?_, ?_, ?_⟩
    · rcases cx with ⟨_, h⟩ | ⟨i, _, v, _, h1, h2⟩
      · exact .inl h
      · exact .inr ⟨v, h2, h1⟩
    · rcases cy with ⟨_, h⟩ | ⟨i, _, v, _, h1, h2⟩
      · exact .inl h
      · exact .inr ⟨v, h2, h1⟩
    · rintro ⟨e1, e2⟩
      simp only at e1 e2
      rcases hm nm hnm with h | h
      · rcases cx with ⟨h', _⟩ | ⟨i, _, v, _, h1, h2⟩
        · exact h' h
        · omega
      · rcases cy with ⟨h', _⟩ | ⟨i, _, v, _, h1, h2⟩
        · exact h' h
        · omega
  · rcases hm s hs with h | h
    · exact sx s h
    · exact sy s h

theorem var_mem {x y : Hd} {j : Bool} {s : List Nat} (h : s ∈ (varN x y j).1) : s ∈ x.names ∨ s ∈ y.names := by
  unfold varN at h
  split at h <;> (try split at h) <;> (try split at h) <;> (try split at h) <;> (try split at h) <;> (try split at h) <;> (try split at h) <;> simp only [mem_both, mem_union] at h <;> simp [h]
theorem var_up {x y : Hd} {j : Bool} (hx : Up x.names) (hy : Up y.names) : Up (varN x y j).1 := by
  unfold varN
  split <;> (try split) <;> (try split) <;> (try split) <;> (try split) <;> (try split) <;> (try split) <;> simp only <;> first | exact up_both hx | exact up_union _ _ | exact hx | exact hy
theorem both_le (a b : List (List Nat)) : (bothN a b).length ≤ a.length := List.length_filter_le _ _
theorem union_le (a b : List (List Nat)) : (unionN a b).length ≤ a.length + b.length := by
  have h1 := compN_le (sortN (a ++ b))
  have h2 : (sortN (a ++ b)).length = (a ++ b).length := by unfold sortN; exact List.length_mergeSort _
  rw [List.length_append] at h2
  unfold unionN; omega
theorem var_le {x y : Hd} {j : Bool} : (varN x y j).1.length ≤ x.names.length + y.names.length := by
  have h1 := both_le x.names y.names
  have h2 := union_le x.names y.names
  unfold varN
  split <;> (try split) <;> (try split) <;> (try split) <;> (try split) <;> (try split) <;> (try split) <;> simp only <;> omega

theorem const_ok {A B : List Hd} {N : Nat} {k : Int} (h : 0 ≤ k ∧ k ≤ 6) : ShP A B N ⟨k, [], false, []⟩ :=
  ⟨⟨by simp, .inr (.inr ⟨h.1, h.2, rfl, rfl⟩), List.Pairwise.nil, by simp⟩, by simp, by simp, by simp⟩

theorem shape_ok {A B : List Hd} {N M : Nat} {p : Pt} (hA : Heads A N) (hB : Heads B M) (hp : POk A B p) : ShP A B (N + M) (shape A B p) := by
  obtain ⟨pa, pb, pn⟩ := hp
  have ga : ∀ i : Nat, i < A.length → ∃ x, A[i]? = some x ∧ RHd A.length x ∧ x.names.length ≤ N ∧ ∀ s ∈ x.names, s.length < 60000 := fun i hi => ⟨_, List.getElem?_eq_getElem hi, hA.hd i _ (List.getElem?_eq_getElem hi), hA.nn i _ (List.getElem?_eq_getElem hi)⟩
  have gb : ∀ i : Nat, i < B.length → ∃ x, B[i]? = some x ∧ RHd B.length x ∧ x.names.length ≤ M ∧ ∀ s ∈ x.names, s.length < 60000 := fun i hi => ⟨_, List.getElem?_eq_getElem hi, hB.hd i _ (List.getElem?_eq_getElem hi), hB.nn i _ (List.getElem?_eq_getElem hi)⟩
  have ha : ∀ i : Nat, p.a = i → hdA A p.a = A[i]? := fun i h => by unfold hdA; rw [if_neg (by omega), h]; rfl
  have hb : ∀ i : Nat, p.b = i → hdA B p.b = B[i]? := fun i h => by unfold hdA; rw [if_neg (by omega), h]; rfl
  unfold shape
  rcases pa with pa | ⟨i, pa, hi⟩
  · have e1 : hdA A p.a = none := by unfold hdA; rw [if_pos (by omega)]
    rcases pb with pb | ⟨j, pb, hj⟩
    · exact absurd ⟨pa, pb⟩ pn
    · obtain ⟨y, y1, y2, y3, y4⟩ := gb j hj
      rw [e1, hb j pb, y1]
      exact sideS_ok y2 (by omega) y4 (.inr ⟨by omega, rfl⟩)
  · obtain ⟨x, x1, x2, x3, x4⟩ := ga i hi
    rw [ha i pa, x1]
    rcases pb with pb | ⟨j, pb, hj⟩
    · have e1 : hdA B p.b = none := by unfold hdA; rw [if_pos (by omega)]
      rw [e1]
      exact sideS_ok x2 (by omega) x4 (.inl ⟨by omega, rfl⟩)
    · obtain ⟨y, y1, y2, y3, y4⟩ := gb j hj
      rw [hb j pb, y1]
      simp only
      unfold shape2
      split
      · exact sideS_ok y2 (by omega) y4 (.inr ⟨by simp only; omega, rfl⟩)
      split
      · exact sideS_ok x2 (by omega) x4 (.inl ⟨by simp only; omega, rfl⟩)
      split
      · refine const_ok ?_
        unfold hiK; split <;> omega
      rename_i hk
      have hk' : x.kind = y.kind := Decidable.not_not.1 hk
      have fx := x2.ok.form.2
      have fy := y2.ok.form.2
      split
      · rename_i k7
        have lx : x.kids.length = 2 := by rcases fx with ⟨_, _, h⟩ | ⟨h, _⟩ | ⟨_, h, _⟩ <;> omega
        have ly : y.kids.length = 2 := by rcases fy with ⟨_, _, h⟩ | ⟨h, _⟩ | ⟨_, h, _⟩ <;> omega
        have kx : ∀ a, a < 2 → ∃ i : Nat, x.kids.getD a 0 = i ∧ i < A.length := fun a ha => by
          rw [List.getD_eq_getElem?_getD, List.getElem?_eq_getElem (by omega)]
          exact nat_of (x2.ok.kid _ (List.getElem_mem (by omega)))
        have ky : ∀ a, a < 2 → ∃ i : Nat, y.kids.getD a 0 = i ∧ i < B.length := fun a ha => by
          rw [List.getD_eq_getElem?_getD, List.getElem?_eq_getElem (by omega)]
          exact nat_of (y2.ok.kid _ (List.getElem_mem (by omega)))
        refine ⟨⟨by simp, .inl ⟨rfl, rfl, rfl⟩, List.Pairwise.nil, by simp⟩, fun q hq => ?_, by simp, by simp⟩
        simp at hq
        obtain ⟨a0, a1, a2⟩ := kx 0 (by omega)
        obtain ⟨b0, b1, b2⟩ := ky 0 (by omega)
        obtain ⟨c0, c1, c2⟩ := kx 1 (by omega)
        obtain ⟨d0, d1, d2⟩ := ky 1 (by omega)
        simp only [List.getD_eq_getElem?_getD] at a1 b1 c1 d1
        rcases hq with rfl | rfl
        · exact ⟨.inr ⟨a0, a1, a2⟩, .inr ⟨b0, b1, b2⟩, by simp only; omega⟩
        · exact ⟨.inr ⟨c0, c1, c2⟩, .inr ⟨d0, d1, d2⟩, by simp only; omega⟩
      split
      · rename_i k8
        refine namS_ok x2 y2 hk' (.inl k8) (by simp) ?_ (fun s hs => ?_) ?_ x4 y4
        · split
          · exact up_both x2.ok.up
          · exact up_union _ _
        · split at hs
          · exact .inl (mem_both.1 hs).1
          · exact mem_union.1 hs
        · split
          · have := both_le x.names y.names; omega
          · have := union_le x.names y.names; omega
      split
      · rename_i k9
        exact namS_ok x2 y2 hk' (.inr k9) (fun _ => k9) (var_up x2.ok.up y2.ok.up) (fun s hs => var_mem hs) (by have := var_le (x := x) (y := y) (j := p.join); omega) x4 y4
      · refine const_ok ?_
        rcases fx with ⟨a, _⟩ | ⟨a | a, _⟩ | ⟨a, b, _⟩ <;> omega


/-! ### How many parts there can be -/
def codeP (m : Nat) (p : Pt) : Nat := ((p.a + 1).toNat * (m + 1) + (p.b + 1).toNat) * 2 + (if p.join then 1 else 0)
theorem POk.bd {A B : List Hd} {p : Pt} (h : POk A B p) : -1 ≤ p.a ∧ p.a < (A.length : Int) ∧ -1 ≤ p.b ∧ p.b < (B.length : Int) := by
  have h1 := h.a
  have h2 := h.b
  refine ⟨?_, ?_, ?_, ?_⟩
  · rcases h1 with h1 | ⟨i, h1, _⟩ <;> omega
  · rcases h1 with h1 | ⟨i, h1, _⟩ <;> omega
  · rcases h2 with h1 | ⟨i, h1, _⟩ <;> omega
  · rcases h2 with h1 | ⟨i, h1, _⟩ <;> omega
theorem codeP_inj {A B : List Hd} {p q : Pt} (hp : POk A B p) (hq : POk A B q) (h : codeP B.length p = codeP B.length q) : p = q := by
  obtain ⟨pa, pb, pj⟩ := p
  obtain ⟨qa, qb, qj⟩ := q
  have h1 := hp.bd
  have h2 := hq.bd
  simp only at h1 h2
  unfold codeP at h
  simp only at h
  obtain ⟨a, ha⟩ : ∃ a : Nat, pa = (a : Int) - 1 := ⟨(pa + 1).toNat, by omega⟩
  obtain ⟨b, hb⟩ : ∃ a : Nat, pb = (a : Int) - 1 := ⟨(pb + 1).toNat, by omega⟩
  obtain ⟨c, hc⟩ : ∃ a : Nat, qa = (a : Int) - 1 := ⟨(qa + 1).toNat, by omega⟩
  obtain ⟨d, hd⟩ : ∃ a : Nat, qb = (a : Int) - 1 := ⟨(qb + 1).toNat, by omega⟩
  subst ha hb hc hd
  have e1 : ((a : Int) - 1 + 1).toNat = a := by omega
  have e2 : ((b : Int) - 1 + 1).toNat = b := by omega
  have e3 : ((c : Int) - 1 + 1).toNat = c := by omega
  have e4 : ((d : Int) - 1 + 1).toNat = d := by omega
  rw [e1, e2, e3, e4] at h
  have hbm : b < B.length + 1 := by omega
  have hdm : d < B.length + 1 := by omega
  have hj : pj = qj := by
    cases pj <;> cases qj <;> simp only [Bool.false_eq_true, if_false, if_true] at h <;> first | rfl | omega
  subst hj
  have h5 : a * (B.length + 1) + b = c * (B.length + 1) + d := by omega
  have hac : a = c := by
    have t1 : (a * (B.length + 1) + b) / (B.length + 1) = a := by
      rw [Nat.mul_comm, Nat.mul_add_div (by omega), Nat.div_eq_of_lt hbm]; omega
    have t2 : (c * (B.length + 1) + d) / (B.length + 1) = c := by
      rw [Nat.mul_comm, Nat.mul_add_div (by omega), Nat.div_eq_of_lt hdm]; omega
    rw [← t1, h5, t2]
  subst hac
  have : b = d := by omega
  subst this
  rfl
theorem codeP_lt {A B : List Hd} {p : Pt} (hp : POk A B p) : 2 ≤ codeP B.length p ∧ codeP B.length p < 2 * ((A.length + 1) * (B.length + 1)) := by
  obtain ⟨pa, pb, pj⟩ := p
  have h1 := hp.bd
  have h3 := hp.n
  simp only at h1 h3
  unfold codeP
  simp only
  obtain ⟨a, ha⟩ : ∃ a : Nat, pa = (a : Int) - 1 := ⟨(pa + 1).toNat, by omega⟩
  obtain ⟨b, hb⟩ : ∃ a : Nat, pb = (a : Int) - 1 := ⟨(pb + 1).toNat, by omega⟩
  subst ha hb
  have e1 : ((a : Int) - 1 + 1).toNat = a := by omega
  have e2 : ((b : Int) - 1 + 1).toNat = b := by omega
  rw [e1, e2]
  have hal : a ≤ A.length := by omega
  have hbl : b ≤ B.length := by omega
  have hm : a * (B.length + 1) ≤ A.length * (B.length + 1) := Nat.mul_le_mul_right _ hal
  constructor
  · by_cases h0 : a = 0
    · subst h0
      have : b ≠ 0 := by omega
      split <;> omega
    · have : 1 * (B.length + 1) ≤ a * (B.length + 1) := Nat.mul_le_mul_right _ (by omega)
      split <;> omega
  · rw [Nat.add_mul A.length 1]
    split <;> omega

def bndP (A B : List Hd) : Nat := 2 * ((A.length + 1) * (B.length + 1)) - 2

theorem parts_le {A B : List Hd} {ps : List Pt} (hd : ps.Nodup) (hp : ∀ p ∈ ps, POk A B p) : ps.length ≤ bndP A B := by
  have key : (ps.map (codeP B.length)).Nodup := by
    unfold List.Nodup
    rw [List.pairwise_map]
    have : ∀ l : List Pt, (∀ p ∈ l, POk A B p) → l.Nodup → l.Pairwise fun a b => codeP B.length a ≠ codeP B.length b := by
      intro l
      induction l with
      | nil => intro _ _; exact List.Pairwise.nil
      | cons x r ih =>
        intro h1 h2
        rw [List.nodup_cons] at h2
        refine List.pairwise_cons.2 ⟨fun y hy e => ?_, ih (fun p hp => h1 p (by simp [hp])) h2.2⟩
        have := codeP_inj (h1 x (by simp)) (h1 y (by simp [hy])) e
        exact h2.1 (this ▸ hy)
    exact this ps hp hd
  have k2 : (ps.map fun p => codeP B.length p - 2).Nodup := by
    unfold List.Nodup at key ⊢
    rw [List.pairwise_map] at key ⊢
    refine List.Pairwise.imp_of_mem (fun {a b} ha hb h => ?_) key
    have h1 := codeP_lt (hp a ha)
    have h2 := codeP_lt (hp b hb)
    omega
  have := nodup_le (m := bndP A B) k2 fun x hx => by
    simp only [List.mem_map] at hx
    obtain ⟨p, hpm, rfl⟩ := hx
    have h1 := codeP_lt (hp p hpm)
    unfold bndP
    omega
  simpa using this

/-! ### The maker's row and queue -/
theorem MK.pop {X H : Heap} {d pm sm : Nat} {a b lv fv : AVal} {ps : List Pt} {hs : List Hd} {lf : List Pt} {p : Pt} (m : MK X H d pm sm a b lv fv ps hs (p :: lf)) :
    ∃ q o, fv = .sl q o (lf.length + 1) none 3 ∧ aLoad H (.p q o) 3 true = some (.agg (ptC p)) ∧ MK X (H.put pm (.row [a, b, .m sm, lv, .sl q (o + 3) lf.length none 3] true)) d pm sm a b lv (.sl q (o + 3) lf.length none 3) ps hs lf := by
  rcases m.qq with ⟨_, h⟩ | ⟨q, o, cs, hfv, hq, hg, h1, h2⟩
  · cases h
  · have hfv' : fv = .sl q o (lf.length + 1) none 3 := by simpa using hfv
    have hsid : sid fv = some q := by rw [hfv']; rfl
    obtain ⟨x1, x2, x3⟩ := m.sf q hsid
    refine ⟨q, o, hfv', ?_, ?_⟩
    · rw [load_agg (n := 3) hg (by simp at h1; omega)]
      congr 2
      rw [h2]
      simp [ptC]
    · obtain ⟨lc, l1, l2, l3, l4, l5⟩ := m.ll
      have frp : Fr [some pm] H (H.put pm (.row [a, b, .m sm, lv, .sl q (o + 3) lf.length none 3] true)) := ⟨by simp, fun i hi hm ob ho => by
        simp at hm
        rw [Heap.get_put, if_neg hm]; exact ho⟩
      have hsid' : sid (.sl q (o + 3) lf.length none 3 : AVal) = some q := rfl
      have hown : own4 pm sm lv (.sl q (o + 3) lf.length none 3) = own4 pm sm lv fv := by simp [own4, hsid, hsid']
      have pmo : ∀ v, Outs (own4 pm sm lv fv) v → Outs [some pm] v := fun v h => h.imp id fun h hm => h (by simp at hm; simp [own4, hm])
      refine ⟨⟨by simp; exact m.ex.nx, fun i hi ob ho => ?_⟩, by simpa using m.dl, by simpa using m.pml, by simpa using m.sml, by rw [Heap.get_put, if_pos rfl], ?_, ⟨lc, ?_, l2, l3, l4, fun j c h hc hh => ?_⟩, .inr ⟨q, o + 3, cs, rfl, by simpa using hq, ?_, ?_, ?_⟩, fun i hi => ?_, fun i hi => ?_⟩
      · have := m.pml.1
        rw [Heap.get_put, if_neg (by omega)]; exact m.ex.get i hi ob ho
      · rw [Heap.get_put, if_neg m.sml.2.2]; exact m.se
      · exact l1.keepS (by simp) fun i hi ob ho => by rw [Heap.get_put, if_neg (m.sl i hi).2.1]; exact ho
      · obtain ⟨ns, ks, rfl, y1, y2, y3, y4⟩ := l5 j c h hc hh
        rw [hown]
        exact ⟨ns, ks, rfl, y1.fr frp (pmo _ y3.1), y2.fr frp (pmo _ y4.1), y3, y4⟩
      · rw [Heap.get_put, if_neg x2]; exact hg
      · simp at h1; omega
      · rw [← List.drop_drop, h2]; simp [ptC]
      · rw [hsid']
        obtain ⟨z1, z2, z3, z4⟩ := m.sl i hi
        exact ⟨z1, z2, z3, by rw [hsid] at z4; exact z4⟩
      · rw [hsid'] at hi
        exact m.sf i (by rw [hsid]; exact hi)

theorem flat4_set : ∀ {oc : List (List AVal)} {j : Nat} {c : List AVal}, (∀ c ∈ oc, c.length = 4) → c.length = 4 → j < oc.length → splice oc.flatten (j * 4) c = (oc.set j c).flatten
  | [], j, c, _, _, h => by simp at h
  | x :: r, 0, c, hl, hc, h => by
    have hx := hl x (by simp)
    unfold splice
    simp only [Nat.zero_mul, List.take_zero, List.nil_append, Nat.zero_add, List.flatten_cons, List.set_cons_zero, hc]
    rw [List.drop_append, List.drop_of_length_le (by omega), hx]
    simp
  | x :: r, j + 1, c, hl, hc, h => by
    have hx := hl x (by simp)
    have ih := flat4_set (oc := r) (j := j) (c := c) (fun c hc => hl c (by simp [hc])) hc (by simpa using h)
    unfold splice at ih ⊢
    rw [List.set_cons_succ, List.flatten_cons, List.flatten_cons, ← ih, Nat.add_mul, Nat.one_mul, hc]
    rw [List.take_append, List.take_of_length_le (by omega), hx, Nat.add_sub_cancel, List.drop_append, List.drop_of_length_le (by omega), hx]
    simp only [List.nil_append, List.append_assoc]
    rw [show j * 4 + 4 + 4 - 4 = j * 4 + 4 by omega]

theorem MK.put {X H : Heap} {d pm sm : Nat} {a b lv fv : AVal} {ps : List Pt} {hs : List Hd} {lf : List Pt} {j : Nat} {c : List AVal} {h : Hd} (m : MK X H d pm sm a b lv fv ps hs lf) (hj : j < ps.length) (hc : HdO H d (own4 pm sm lv fv) c h) :
    ∃ H', aStore H (sptr 4 lv j) (.agg c) 4 = some H' ∧ MK X H' d pm sm a b lv fv ps (hs.set j h) lf ∧ H'.nx = H.nx := by
  obtain ⟨lc, l1, l2, l3, l4, l5⟩ := m.ll
  obtain ⟨i, rfl, hi, hg⟩ := l1.own (by omega)
  have hsid : sid (.sl i 0 ps.length none 4 : AVal) = some i := rfl
  have hcl : c.length = 4 := by obtain ⟨ns, ks, rfl, _⟩ := hc; rfl
  have hfl : lc.flatten.length = ps.length * 4 := l1.1.symm
  obtain ⟨z1, z2, z3, z4⟩ := m.sl i hsid
  have frp : Fr [some i] H (H.put i (.row (lc.set j c).flatten true)) := ⟨by simp, fun k hk hm ob ho => by
    simp at hm
    rw [Heap.get_put, if_neg hm]; exact ho⟩
  have io : ∀ v, Outs (own4 pm sm (.sl i 0 ps.length none 4) fv) v → Outs [some i] v := fun v h => h.imp id fun h hm => h (by simp at hm; simp [own4, hsid, hm])
  refine ⟨H.put i (.row (lc.set j c).flatten true), ?_, ⟨⟨by simp; exact m.ex.nx, fun k hk ob ho => ?_⟩, by simpa using m.dl, by simpa using m.pml, by simpa using m.sml, ?_, ?_, ⟨lc.set j c, ?_, by simp [l2], fun x hx => ?_, by simp [l4], fun k x y hx hy => ?_⟩, m.qq.keepS (by simp) fun k hk ob ho => ?_, m.sl, m.sf⟩, rfl⟩
  · simp only [sptr_sl, aStore, cells_agg, hg, Nat.zero_add]
    rw [if_pos ⟨hcl, by omega⟩, flat4_set l3 hcl (by omega)]
  · rw [Heap.get_put, if_neg (by omega)]; exact m.ex.get k hk ob ho
  · rw [Heap.get_put, if_neg (fun e => z2 e.symm)]; exact m.ob
  · rw [Heap.get_put, if_neg (fun e => z3 e.symm)]; exact m.se
  · refine ⟨?_, .inr (.inr ⟨i, rfl, by simpa using hi, by omega, by rw [Heap.get_put, if_pos rfl]⟩)⟩
    rw [← flat4_set l3 hcl (by omega), splice_length _ _ _ (by omega), hfl]
  · rcases List.mem_or_eq_of_mem_set hx with h | h
    · exact l3 x h
    · rw [h]; exact hcl
  · by_cases hkj : k = j
    · subst hkj
      rw [List.getElem?_set_self (by omega)] at hx hy
      obtain rfl := Option.some.inj hx
      obtain rfl := Option.some.inj hy
      obtain ⟨ns, ks, rfl, y1, y2, y3, y4⟩ := hc
      exact ⟨ns, ks, rfl, y1.fr frp (io _ y3.1), y2.fr frp (io _ y4.1), y3, y4⟩
    · rw [List.getElem?_set_ne (by omega)] at hx hy
      obtain ⟨ns, ks, rfl, y1, y2, y3, y4⟩ := l5 k x y hx hy
      exact ⟨ns, ks, rfl, y1.fr frp (io _ y3.1), y2.fr frp (io _ y4.1), y3, y4⟩
  · rw [Heap.get_put, if_neg (by rintro rfl; exact z4 hk)]; exact ho

/-- The parts, and the heads that are made of the first k of them. -/
structure MdS (A B : List Hd) (p0 : Pt) (ps : List Pt) (hs : List Hd) (k : Nat) : Prop where
  nd : ps.Nodup
  p0 : ps[0]? = some p0
  ok : ∀ p ∈ ps, POk A B p
  kl : k ≤ ps.length
  hl : hs.length = ps.length
  hd : ∀ (j : Nat) p, j < k → ps[j]? = some p → ∃ h, hs[j]? = some h ∧ HdP ps (shape A B p) h

theorem MdS.step {A B : List Hd} {p0 : Pt} {ps : List Pt} {hs : List Hd} {k : Nat} {p : Pt} {N M : Nat} (m : MdS A B p0 ps hs k) (hA : Heads A N) (hB : Heads B M) (hp : ps[k]? = some p) :
    MdS A B p0 (addA ps (shape A B p).kids) ((growH hs ps (addA ps (shape A B p).kids)).set k (shH ps (shape A B p))) (k + 1) := by
  have hpk := m.ok p (List.mem_of_getElem? hp)
  have sp := shape_ok hA hB hpk
  have hpre := addA_pre (shape A B p).kids ps
  have hle := hpre.length_le
  have hkl := (List.getElem?_eq_some_iff.1 hp).1
  have hml := m.hl
  refine ⟨addA_nodup m.nd, pre_get hpre m.p0, fun q hq => ?_, by omega, by simp [growH, m.hl]; omega, fun j q hj hq => ?_⟩
  · rcases addA_mem hq with h | h
    · exact m.ok q h
    · exact sp.k q h
  · by_cases hjk : j = k
    · subst hjk
      rw [pre_get hpre hp] at hq
      obtain rfl := Option.some.inj hq
      refine ⟨_, List.getElem?_set_self (by simp [growH]; omega), HdP.of ps _⟩
    · rw [List.getElem?_set_ne (by omega)]
      have hjl : j < ps.length := by omega
      have hq' : ps[j]? = some q := by
        have := pre_get hpre (List.getElem?_eq_getElem hjl)
        rw [this] at hq
        rw [List.getElem?_eq_getElem hjl]; exact hq
      obtain ⟨h, h1, h2⟩ := m.hd j q (by omega) hq'
      refine ⟨h, ?_, h2.grow hpre⟩
      unfold growH
      rw [List.getElem?_append_left (by omega)]; exact h1

/-- What a call of made has to do with. -/
structure MdI (X : Heap) (a b : AVal) (A B : List Hd) (N M : Nat) : Prop where
  hA : Hds X a A
  hB : Hds X b B
  nA : Heads A N
  nB : Heads B M
  nN : N < 30000 ∧ M < 30000

def Iv19 (X : Heap) (T : Tm) (pm sm : Nat) (a b : AVal) (A B : List Hd) (p0 : Pt) (r : Nat) (T' : Tm) (H' : Heap) : Prop :=
  Keep [6, 8] T T' ∧ ∃ lv fv ps hs k, MK X H' H'.nx pm sm a b lv fv ps hs (ps.drop k) ∧ MdS A B p0 ps hs k ∧ (ps.length ≤ 4096 ∨ k < ps.length) ∧ (r + k = 5000 ∨ 4096 < ps.length) ∧ ps.length < 500000

theorem Heads.oks {A : List Hd} {N : Nat} (h : Heads A N) (hN : N < 30000) : ∀ (i : Nat) x, A[i]? = some x → HOk A.length x ∧ x.names.length < 40000 ∧ x.kids.length < 40000 := fun i x hx => by
  have r := h.hd i x hx
  have n := h.nn i x hx
  refine ⟨r.ok, by omega, ?_⟩
  rcases r.ok.form.2 with ⟨_, _, h⟩ | ⟨_, h⟩ | ⟨_, _, _, h⟩
  · omega
  · omega
  · rw [h]; simp

theorem posP_at {p : Pt} {ps : List Pt} {k : Nat} (hd : ps.Nodup) (hp : ps[k]? = some p) : posP p ps 0 = some k := by
  cases h : posP p ps 0 with
  | none => exact absurd (List.mem_of_getElem? hp) (posP_none h)
  | some i =>
    have := (posP_ge h).2
    rw [Nat.sub_zero] at this
    rw [nodup_at hd this hp]

theorem ShR.kids_le {s : Shape} (r : ShR s) : s.kids.length ≤ s.names.length + 2 := by
  rcases r.form with ⟨_, _, h⟩ | ⟨_, h⟩ | ⟨_, _, _, h⟩
  · omega
  · omega
  · rw [h]; simp

theorem lp19_0 {X H : Heap} {T : Tm} {Q : Post} {pm sm q6 : Nat} {a b : AVal} {A B : List Hd} {N M : Nat} {p0 : Pt} {lv fv : AVal} (z : MdI X a b A B N M) (m : MK X H H.nx pm sm a b lv fv [p0] [hd0] [p0]) (hp0 : POk A B p0) (h6 : T.get 6 = some (.p q6 0)) (h8 : T.get 8 = some (.p pm 0)) (g6 : X.get q6 = some (.row [.nsl, .i .i64 0] true)) (q6l : q6 < X.nx)
    (hQ : ∀ T' H' lv fv ps hs, Keep [6, 8] T T' → MK X H' H'.nx pm sm a b lv fv ps hs [] → MdS A B p0 ps hs ps.length → ps.length ≤ 4096 → Q (.exit 0) T' H')
    (hE : ∀ T' H' lv fv ps hs lf, T'.get 6 = some (.p q6 0) → T'.get 7 = some (.i .i64 20) → MK X H' H'.nx pm sm a b lv fv ps hs lf → ps.Nodup → (∀ p ∈ ps, POk A B p) → 4096 < ps.length → Q .ret T' (H'.put q6 (.row [.nsl, .i .i64 0] true))) : Loop l19_0 T H Q := by
  refine Loop.by (Iv19 X T pm sm a b A B p0) 5000 ?_ ?_
  · refine ⟨fun t _ => rfl, lv, fv, [p0], [hd0], 0, m, ⟨by simp, rfl, by simpa using hp0, by simp, rfl, fun j p hj => by omega⟩, by simp, .inl rfl, by simp⟩
  · rintro r T1 H1 ⟨hkp, lv, fv, ps, hs, k, mk, md, hlim, hr, hpn⟩
    have k6 := (hkp 6 (by simp)).trans h6
    have k8 := (hkp 8 (by simp)).trans h8
    have gob := mk.ob
    have lf4 : aLoad H1 (.p pm 4) 1 false = some fv := by rw [load_row gob]; rfl
    have ll3 : aLoad H1 (.p pm 3) 1 false = some lv := by rw [load_row gob]; rfl
    obtain ⟨lc, l1, l2, _⟩ := mk.ll
    have hls := l1.slen
    by_cases hk : k < ps.length
    · obtain ⟨p, hp⟩ : ∃ y, ps[k]? = some y := ⟨_, List.getElem?_eq_getElem hk⟩
      have hdr : ps.drop k = p :: ps.drop (k + 1) := by
        rw [List.drop_eq_getElem_cons hk]
        congr 1
        exact Option.some.inj ((List.getElem?_eq_getElem hk).symm.trans hp)
      rw [hdr] at mk
      obtain ⟨q, o, rfl, ldp, mk2⟩ := mk.pop
      obtain ⟨lf, hlf⟩ : ∃ z, z = ps.drop (k + 1) := ⟨_, rfl⟩
      rw [← hlf] at mk mk2 lf4 gob
      have hx6 : H1.get q6 = some (.row [.nsl, .i .i64 0] true) := mk.ex.get q6 q6l _ g6
      have lfl : lf.length ≤ ps.length := by rw [hlf, List.length_drop]; omega
      have pml := mk.pml
      have sml := mk.sml
      have xle := mk.ex.nx
      obtain ⟨fn, hfn⟩ : ∃ z, z = lf.length + 1 := ⟨_, rfl⟩
      rw [← hfn] at mk lf4 gob
      have h0 : (0 : Int) < (fn : Int) := by omega
      have h0n : 0 < fn := by omega
      by_cases hbig : 4096 < ps.length
      · have hb : (4096 : Int) < (ps.length : Int) := by omega
        have st6 : aStore H1 (.p q6 0) (.agg [.nsl, .i .i64 0]) 2 = some (H1.put q6 (.row [.nsl, .i .i64 0] true)) := by simp [aStore, hx6, splice]
        simp [l19_0, r19_5, k8, lf4, r19_6, ll3, hls, hb, h0, h0n, r19_7, k6, aFill, st6]
        exact hE _ H1 lv _ ps hs _ (by simp [k6]) (by simp) mk md.nd md.ok hbig
      · have hb : ¬ (4096 : Int) < (ps.length : Int) := by omega
        have i0 : sidx 3 (.sl q o fn none 3) (.i .i64 0) = some (.p q o) := by
          have := sidx_at (es := 3) (v := .sl q o fn none 3) (j := 0) (k := .i64) rfl (by omega)
          simpa using this
        obtain ⟨H3, hH3⟩ : ∃ P, P = (H1.push (.row [.i .i64 0, .i .i64 0, .b false] true)).put H1.nx (.row (ptC p) true) := ⟨_, rfl⟩
        have st9 : aStore (H1.push (.row [.i .i64 0, .i .i64 0, .b false] true)) (.p H1.nx 0) (.agg (ptC p)) 3 = some H3 := by
          rw [hH3]; simp [aStore, splice, ptC]
        have n3 : H3.nx = H1.nx + 1 := by rw [hH3]; rfl
        have old3 : ∀ i, i < H1.nx → H3.get i = H1.get i := fun i hi => by rw [hH3, Heap.get_put, if_neg (by omega), get_push_old hi]
        have g93 : H3.get H1.nx = some (.row (ptC p) true) := by rw [hH3, Heap.get_put, if_pos rfl]
        have mk3 := mk.fr (S := []) (Fr.eq (by omega) fun i hi _ => old3 i hi) (by simp)
        have gob3 := mk3.ob
        have lf43 : aLoad H3 (.p pm 4) 1 false = some (.sl q o fn none 3) := by rw [load_row gob3]; rfl
        obtain ⟨q', o', hq', _, mk4⟩ := mk3.pop
        simp only [AVal.sl.injEq] at hq'
        obtain ⟨rfl, rfl, hfn', _, _⟩ := hq'
        have sl1 := slc_lo (es := 3) (q := q) (o := o) (n := fn) (i := 1) (k := .i64) (by omega)
        have hf1 : fn - 1 = lf.length := by omega
        rw [hf1, Nat.one_mul] at sl1
        simp only [Int.natCast_one] at sl1
        obtain ⟨H4, hH4⟩ : ∃ P, P = H3.put pm (.row [a, b, .m sm, lv, .sl q (o + 3) lf.length none 3] true) := ⟨_, rfl⟩
        have st4 : aStore H3 (.p pm 4) (.sl q (o + 3) lf.length none 3) 1 = some H4 := by
          rw [hH4]; simp only [aStore, cells_sl, gob3]; rfl
        rw [← hH4] at mk4
        have n4 : H4.nx = H1.nx + 1 := by rw [hH4, nx_put', n3]
        have g94 : H4.get H1.nx = some (.row (ptC p) true) := by rw [hH4, Heap.get_put, if_neg (by omega)]; exact g93
        have l94 : aLoad H4 (.p H1.nx 0) 3 true = some (.agg (ptC p)) := by rw [load_agg (o := 0) (n := 3) g94 (by simp [ptC])]; rfl
        have gob4 := mk4.ob
        have lse : aLoad H4 (.p pm 2) 1 false = some (.m sm) := by rw [load_row gob4]; rfl
        have hkey : aKeyOk .part (.agg (ptC p)) = true := rfl
        have hlook : aLook H4 .part (.i .i64 0) false (.m sm) (.agg (ptC p)) = some (.i .i64 (k : Int)) := by
          simp only [aLook, hkey, if_true, mk4.se, find_ents, posP_at md.nd hp]
          simp
        simp [l19_0, r19_5, k8, lf4, r19_6, ll3, hls, hb, h0, h0n, r19_8, i0, ldp, st9]
        simp [r19_9, k8, lf43, sl1, st4]
        simp [d19_10, k8, lse, l94, hlook]
        simp [r19_11, k8, l94]
        refine Call.mono (call30 (p := p) mk4 z.hA z.hB (z.nA.oks z.nN.1) (z.nB.oks z.nN.2) (md.ok p (List.mem_of_getElem? hp)) (by omega) lfl) ?_
        obtain ⟨s, hs'⟩ : ∃ z, z = shape A B p := ⟨_, rfl⟩
        rintro v H5 _ hrr
        rw [← hs'] at hrr
        obtain ⟨ns, ks, lv', fv', rfl, kR⟩ := hrr
        have n5 := kR.fr.nx
        have cn := kR.hn.cells
        have ck := kR.hk.cells
        obtain ⟨H7, hH7⟩ : ∃ P, P = (H5.push (.row [.i .i64 0, .nsl, .nsl, .b false] true)).put H5.nx (.row [.i .i64 s.kind, ns, ks, .b s.opn] true) := ⟨_, rfl⟩
        have st11 : aStore (H5.push (.row [.i .i64 0, .nsl, .nsl, .b false] true)) (.p H5.nx 0) (.agg [.i .i64 s.kind, ns, ks, .b s.opn]) 4 = some H7 := by
          rw [hH7]; simp [aStore, splice]
        have n7 : H7.nx = H5.nx + 1 := by rw [hH7]; rfl
        have fr7 : Fr [] H5 H7 := Fr.eq (by omega) fun i hi _ => by rw [hH7, Heap.get_put, if_neg (by omega), get_push_old hi]
        have g117 : H7.get H5.nx = some (.row [.i .i64 s.kind, ns, ks, .b s.opn] true) := by rw [hH7, Heap.get_put, if_pos rfl]
        have l117 : aLoad H7 (.p H5.nx 0) 4 true = some (.agg [.i .i64 s.kind, ns, ks, .b s.opn]) := by rw [load_agg (o := 0) (n := 4) g117 (by simp)]; rfl
        have mk7 := (kR.mk'.fr (S := []) fr7 (by simp)).more (d' := H7.nx) (by omega) (Nat.le_refl _)
        have gob7 := mk7.ob
        have ll7 : aLoad H7 (.p pm 3) 1 false = some lv' := by rw [load_row gob7]; rfl
        have hpre := addA_pre s.kids ps
        have hple := hpre.length_le
        have hklt : k < (addA ps s.kids).length := by omega
        have hout : ∀ v, NewS H4 H5 (own4 pm sm lv' fv') v → Outd H7.nx (own4 pm sm lv' fv') v := fun v h => by
          refine ⟨?_, fun i hi => by have := (h i hi).2.1; omega⟩
          cases hsv : sid v with
          | none => exact .inl hsv
          | some i => exact .inr (by rw [hsv]; exact (h i hsv).2.2)
        obtain ⟨H8, st8, mk8, n8⟩ := mk7.put (c := [.i .i64 s.kind, ns, ks, .b s.opn]) (h := shH ps s) hklt ⟨ns, ks, rfl, kR.hn.fr fr7 (.inr (by simp)), kR.hk.fr fr7 (.inr (by simp)), hout _ kR.nn, hout _ kR.nk⟩
        have hlc7 : AM.slen lv' = some (addA ps s.kids).length := by
          obtain ⟨lc', l1', _⟩ := mk7.ll
          exact l1'.slen
        have sx := sidx_at (es := 4) (k := .i64) hlc7 hklt
        simp [kC, st11, d19_12, k8, ll7, l117, sx, st8]
        have hF : growF lf ps (addA ps s.kids) = (addA ps s.kids).drop (k + 1) := by
          rw [hlf]
          unfold growF
          obtain ⟨t, ht⟩ := hpre
          rw [← ht, List.drop_left, List.drop_append_of_le_length (by omega)]
        rw [hF] at mk8
        have spo := shape_ok z.nA z.nB (md.ok p (List.mem_of_getElem? hp))
        have hkids := spo.r.kids_le
        have hnl := spo.nl
        have hzN := z.nN
        have hal := addA_le s.kids ps
        have mdS := md.step z.nA z.nB hp
        rw [← hs'] at hkids hnl mdS
        refine ⟨r - 1, by omega, fun t ht => ?_, lv', fv', addA ps s.kids, _, k + 1, by rw [n8]; exact mk8, mdS, by omega, ?_, by omega⟩
        · simp at ht
          rcases ht with rfl | rfl <;> simp [k6, k8, h6, h8]
        · rcases hr with h | h
          · exact .inl (by omega)
          · omega
    · have hk' : k = ps.length := by have := md.kl; omega
      subst hk'
      rw [List.drop_length] at mk
      have hle : ps.length ≤ 4096 := by omega
      have hfl : AM.slen fv = some 0 := by
        rcases mk.qq with ⟨rfl, _⟩ | ⟨q, o, cs, rfl, _⟩ <;> rfl
      simp [l19_0, r19_5, k8, lf4, hfl]
      refine hQ _ H1 lv fv ps hs (fun t ht => ?_) mk md hle
      have e2 := hkp t ht
      simp at ht
      rcases ht with rfl | rfl <;> simp [e2]


def MadeOf (A B : Gr) (join : Bool) (N : Gr) : Prop := ∃ ps hs, MdS A.l B.l ⟨A.root, B.root, join⟩ ps hs ps.length ∧ ps.length ≤ 4096 ∧ NmOf hs 0 N

def MadeR (H : Heap) (A B : Gr) (join : Bool) (v : AVal) (H' : Heap) : Prop :=
  Ex H H' ∧ ((rightB A && rightB B) = false → v = .tup [.agg [.nsl, .i .i64 0], .i .i64 14]) ∧ ((rightB A && rightB B) = true → (v = .tup [.agg [.nsl, .i .i64 0], .i .i64 20] ∧ 4096 < bndP A.l B.l) ∨ ∃ w N, v = .tup [w, .i .i64 0] ∧ GrN H.nx H' w N ∧ MadeOf A B join N)

theorem MdS.rg {A B : List Hd} {p0 : Pt} {ps : List Pt} {hs : List Hd} {N M : Nat} (m : MdS A B p0 ps hs ps.length) (hA : Heads A N) (hB : Heads B M) (hl : ps.length ≤ 4096) :
    RG ⟨hs, 0⟩ ∧ ∀ (i : Nat) h, hs[i]? = some h → h.names.length ≤ N + M ∧ ∀ s ∈ h.names, s.length < 60000 := by
  have h0 : 0 < ps.length := by have := (List.getElem?_eq_some_iff.1 m.p0).1; omega
  have key : ∀ (i : Nat) h, hs[i]? = some h → ∃ p, HdP ps (shape A B p) h ∧ ShP A B (N + M) (shape A B p) := fun i h hi => by
    have hil := (List.getElem?_eq_some_iff.1 hi).1
    rw [m.hl] at hil
    obtain ⟨h', h1, h2⟩ := m.hd i _ hil (List.getElem?_eq_getElem hil)
    rw [hi] at h1
    obtain rfl := Option.some.inj h1
    exact ⟨_, h2, shape_ok hA hB (m.ok _ (List.getElem_mem hil))⟩
  have rh : ∀ (i : Nat) h, hs[i]? = some h → RHd hs.length h := fun i h hi => by
    obtain ⟨p, h1, h2⟩ := key i h hi
    rw [m.hl]; exact h1.rhd h2.r
  refine ⟨⟨⟨by rw [m.hl]; exact h0, by rw [m.hl]; exact hl, Int.le_refl _, by show (0 : Int) < hs.length; rw [m.hl]; omega, fun i h hi => (rh i h hi).ok⟩, rh⟩, fun i h hi => ?_⟩
  obtain ⟨p, h1, h2⟩ := key i h hi
  rw [h1.names]
  exact ⟨h2.nl, h2.ns⟩

theorem reg19_1 {H : Heap} {T : Tm} {Q : Post} {q3 q4 : Nat} {va vb : AVal} {A B : Gr} (ga : GrOf H va A) (gb : GrOf H vb B) (fa : Fits A) (fb : Fits B) (la : A.l.length < 4611686018427387904) (lb : B.l.length < 4611686018427387904) (h3 : T.get 3 = some (.p q3 0)) (h4 : T.get 4 = some (.p q4 0)) (l3 : aLoad H (.p q3 0) 2 true = some va) (l4 : aLoad H (.p q4 0) 2 true = some vb)
    (hQ : ∀ T', Keep [2, 3, 4, 6] T T' → T'.get 19 = some (.b (!(rightB A && rightB B))) → Q .normal T' H) : runO r19_1 T H Q := by
  simp [r19_1, h3, l3]
  refine Call.is (call28 ga fa la) ?_
  cases ra : rightB A with
  | false =>
    simp [kC, aEq]
    apply hQ
    · simp [Keep]
    · simp [ra]
  | true =>
    simp [kC, aEq, h4, l4]
    refine Call.is (call28 gb fb lb) ?_
    cases rb : rightB B with
    | false =>
      simp [kC, aEq]
      apply hQ
      · simp [Keep]
      · simp [ra, rb]
    | true =>
      simp [kC, aEq]
      apply hQ
      · simp [Keep]
      · simp [ra, rb]

theorem call19 {H : Heap} {va vb : AVal} {A B : Gr} {join : Bool} {N M : Nat} (ga : GrOf H va A) (gb : GrOf H vb B) (fa : Fits A) (fb : Fits B) (la : A.l.length < 100000) (lb : B.l.length < 100000) (nA : ∀ (i : Nat) h, A.l[i]? = some h → h.names.length ≤ N) (nB : ∀ (i : Nat) h, B.l[i]? = some h → h.names.length ≤ M) (hN : N < 30000 ∧ M < 30000) :
    Call 19 [va, vb, .b join] H (MadeR H A B join) := by
  obtain ⟨lA, rfl, hA⟩ := ga
  obtain ⟨lB, rfl, hB⟩ := gb
  have cA := hA.cells
  have cB := hB.cells
  refine Call.by (a := a19) rfl (by simp [a19]) ?_
  simp [a19, c19, r19_0]
  obtain ⟨X, hX⟩ : ∃ P, P = ((H.push (.row [lA, .i .i64 A.root] true)).push (.row [lB, .i .i64 B.root] true)).push (.row [.nsl, .i .i64 0] true) := ⟨_, rfl⟩
  have nX : X.nx = H.nx + 3 := by rw [hX]; rfl
  have eX : Ex H X := by rw [hX]; exact (((Ex.refl _).push _).push _).push _
  have g3 : X.get H.nx = some (.row [lA, .i .i64 A.root] true) := by rw [hX, get_push_old (by simp; omega), get_push_old (by simp)]; exact get_push_nx _ _
  have g4 : X.get (H.nx + 1) = some (.row [lB, .i .i64 B.root] true) := by rw [hX, get_push_old (by simp)]; exact get_push_nx _ _
  have g6 : X.get (H.nx + 2) = some (.row [.nsl, .i .i64 0] true) := by rw [hX]; exact get_push_nx _ _
  have la3 : aLoad X (.p H.nx 0) 2 true = some (.agg [lA, .i .i64 A.root]) := by rw [load_agg (o := 0) (n := 2) g3 (by simp)]; rfl
  have la4 : aLoad X (.p (H.nx + 1) 0) 2 true = some (.agg [lB, .i .i64 B.root]) := by rw [load_agg (o := 0) (n := 2) g4 (by simp)]; rfl
  rw [← hX]
  refine reg19_1 (A := A) (B := B) ⟨lA, rfl, hA.ex eX⟩ ⟨lB, rfl, hB.ex eX⟩ fa fb (by omega) (by omega) (by simp) (by simp) la3 la4 fun T1 hk1 h19 => ?_
  have k2 := hk1 2 (by simp)
  have k3 := hk1 3 (by simp)
  have k4 := hk1 4 (by simp)
  have k6 := hk1 6 (by simp)
  simp at k2 k3 k4 k6
  cases hr : (rightB A && rightB B) with
  | false =>
    rw [hr] at h19
    have st6 : aStore X (.p (H.nx + 2) 0) (.agg [.nsl, .i .i64 0]) 2 = some (X.put (H.nx + 2) (.row [.nsl, .i .i64 0] true)) := by simp [aStore, g6, splice]
    simp [h19, r19_2, k6, aFill, st6]
    rw [load_agg (o := 0) (n := 2) (cs := [.nsl, .i .i64 0]) (own := true) (by rw [Heap.get_put, if_pos rfl]) (by simp)]
    refine ⟨eX.put (by omega) _, fun _ => rfl, fun h => by rw [hr] at h; cases h⟩
  | true =>
    rw [hr] at h19
    rw [Bool.and_eq_true] at hr
    have rA := (rightB_iff A).1 hr.1
    have rB := (rightB_iff B).1 hr.2
    have hdA : Heads A.l N := ⟨rA.hd, fun i h hi => ⟨nA i h hi, fun s hs => (fa h (List.mem_of_getElem? hi)).2.2 s hs⟩⟩
    have hdB : Heads B.l M := ⟨rB.hd, fun i h hi => ⟨nB i h hi, fun s hs => (fb h (List.mem_of_getElem? hi)).2.2 s hs⟩⟩
    have z : MdI X lA lB A.l B.l N M := ⟨hA.ex eX, hB.ex eX, hdA, hdB, hN⟩
    have hp0 : POk A.l B.l ⟨A.root, B.root, join⟩ := by
      have a1 := rA.ok.r0
      have a2 := rA.ok.r1
      have b1 := rB.ok.r0
      have b2 := rB.ok.r1
      exact ⟨.inr ⟨A.root.toNat, by simp only; omega, by omega⟩, .inr ⟨B.root.toNat, by simp only; omega, by omega⟩, by simp only; omega⟩
    have q0 : aLoad X (.p H.nx 0) 1 false = some lA := by rw [load_row g3]; rfl
    have q1 : aLoad X (.p (H.nx + 1) 0) 1 false = some lB := by rw [load_row g4]; rfl
    obtain ⟨H2, hH2⟩ : ∃ P, P = (X.push (.map [])).push (.row [lA, lB, .m X.nx, .nsl, .nsl] true) := ⟨_, rfl⟩
    have n2 : H2.nx = X.nx + 2 := by rw [hH2]; rfl
    have e2 : Ex X H2 := by rw [hH2]; exact ((Ex.refl _).push _).push _
    have gm : H2.get X.nx = some (.map []) := by rw [hH2, get_push_old (by simp)]; exact get_push_nx _ _
    have go : H2.get (X.nx + 1) = some (.row [lA, lB, .m X.nx, .nsl, .nsl] true) := by rw [hH2]; exact get_push_nx _ _
    have g32 := e2.get _ (by omega) _ g3
    have g42 := e2.get _ (by omega) _ g4
    have q01 : aLoad H2 (.p H.nx 1) 1 false = some (.i .i64 A.root) := by rw [load_row g32]; rfl
    have q11 : aLoad H2 (.p (H.nx + 1) 1) 1 false = some (.i .i64 B.root) := by rw [load_row g42]; rfl
    have mk0 : MK X H2 H2.nx (X.nx + 1) X.nx lA lB .nsl .nsl [] [] [] := ⟨e2, ⟨by omega, Nat.le_refl _⟩, ⟨by omega, by omega⟩, ⟨Nat.le_refl _, by omega, by omega⟩, go, gm, ⟨[], Buf.nil _ _, rfl, by simp, rfl, by simp⟩, .inl ⟨rfl, rfl⟩, by simp [sid], by simp [sid]⟩
    simp [h19, r19_3, k3, k4, q0, q1, aFill, splice, cA, cB]
    rw [← hH2]
    have hpt : AVal.agg [.i .i64 A.root, .i .i64 B.root, .b join] = .agg (ptC ⟨A.root, B.root, join⟩) := rfl
    simp [r19_4, k2, k3, k4, q01, q11, aFill, splice]
    rw [hpt]
    refine Call.mono (call29 mk0 (by simp) (by simp) cA cB) ?_
    rintro v H3 _ ⟨rfl, lv, fv, mk3, fr3, _, _⟩
    have mk3' := mk3.more (d' := H3.nx) fr3.nx (Nat.le_refl _)
    simp [kC]
    refine lp19_0 (q6 := H.nx + 2) z mk3' hp0 (by simp [k6]) (by simp) g6 (by omega) (fun T4 H4 lv4 fv4 ps hs hk4 mk4 md hle => ?_) (fun T4 H4 lv4 fv4 ps hs lf t6 t7 mk4 hnd hok hbig => ?_)
    · have m6 := hk4 6 (by simp)
      have m8 := hk4 8 (by simp)
      simp [k6] at m6 m8
      have gob := mk4.ob
      have ll : aLoad H4 (.p (X.nx + 1) 3) 1 false = some lv4 := by rw [load_row gob]; rfl
      obtain ⟨lc, l1, l2, l3, l4, l5⟩ := mk4.ll
      have hcl : lv4.cells? = some [lv4] := by
        rcases l1.2 with ⟨rfl, _⟩ | ⟨i, own, rfl, _⟩ | ⟨i, rfl, _⟩ <;> rfl
      obtain ⟨rg, nms⟩ := md.rg hdA hdB hle
      have hgr : GrOf H4 (.agg [lv4, .i .i64 0]) ⟨hs, 0⟩ := by
        refine ⟨lv4, rfl, ?_, ?_, fun j h hj => ?_⟩
        · show AM.slen lv4 = some hs.length
          rw [l4]; exact l1.slen
        · rcases l1.2 with ⟨rfl, _⟩ | ⟨i, own, rfl, _, hi, _⟩ | ⟨i, rfl, hi, _⟩
          · trivial
          · exact ⟨hi, rfl⟩
          · exact ⟨hi, rfl⟩
        · have hjl : j < hs.length := (List.getElem?_eq_some_iff.1 hj).1
          obtain ⟨c, hcj⟩ : ∃ y, lc[j]? = some y := ⟨_, List.getElem?_eq_getElem (by omega)⟩
          obtain ⟨ns', ks', rfl, y1, y2, _⟩ := l5 j c h hcj hj
          refine ⟨_, ?_, ns', ks', rfl, y1, y2⟩
          rw [l1.load (by omega)]
          congr 2
          exact flat4 l3 hcj
      have lok : LOk hs := ⟨rg.ok.n1, fun h hh => by
          obtain ⟨i, hi⟩ := List.mem_iff_getElem?.1 hh
          exact (rg.hd i h hi).sok, fun h hh => by
          obtain ⟨i, hi⟩ := List.mem_iff_getElem?.1 hh
          exact (rg.hd i h hi).ok.kid, fun h hh => by
          obtain ⟨i, hi⟩ := List.mem_iff_getElem?.1 hh
          obtain ⟨a1, a2⟩ := nms i h hi
          refine ⟨by omega, ?_, a2⟩
          rcases (rg.hd i h hi).ok.form.2 with ⟨_, _, b⟩ | ⟨_, b⟩ | ⟨_, _, _, b⟩
          · omega
          · omega
          · rw [b]; simp⟩
      have fits : Fits ⟨hs, 0⟩ := fun h hh => by
        obtain ⟨i, hi⟩ := List.mem_iff_getElem?.1 hh
        obtain ⟨a1, a2⟩ := nms i h hi
        refine ⟨by omega, ?_, a2⟩
        rcases (rg.hd i h hi).ok.form.2 with ⟨_, _, b⟩ | ⟨_, b⟩ | ⟨_, _, _, b⟩
        · omega
        · omega
        · rw [b]; simp
      simp [r19_13, m8, ll, aFill, hcl, splice]
      refine Call.mono (call31 hgr fits ((rightB_iff _).2 rg) lok ⟨rg.ok.r0, rg.ok.r1⟩) ?_
      rintro v5 H5 _ ⟨e5, w, Nn, rfl, hNn, hnm⟩
      obtain ⟨lw, rfl, hlw⟩ := hNn.gr
      have clw := hlw.cells
      have g65 := e5.get _ (by have := mk4.ex.nx; omega) _ (mk4.ex.get _ (by omega) _ g6)
      have st6 : aStore H5 (.p (H.nx + 2) 0) (.agg [lw, .i .i64 Nn.root]) 2 = some (H5.put (H.nx + 2) (.row [lw, .i .i64 Nn.root] true)) := by simp [aStore, g65, splice]
      simp [kC, m6, st6]
      rw [load_agg (o := 0) (n := 2) (cs := [lw, .i .i64 Nn.root]) (own := true) (by rw [Heap.get_put, if_pos rfl]) (by simp)]
      have nxx := mk4.ex.nx
      have nx5 := e5.nx
      refine ⟨⟨by simp; omega, fun i hi ob ho => ?_⟩, fun h => by simp [hr] at h, fun _ => .inr ⟨_, Nn, rfl, ?_, ps, hs, md, hle, hnm⟩⟩
      · rw [Heap.get_put, if_neg (by omega)]
        exact e5.get i (by omega) ob (mk4.ex.get i (by omega) ob (eX.get i hi ob ho))
      · refine hNn.fr (S := [some (H.nx + 2)]) ⟨by simp, fun i hi hm ob ho => ?_⟩ (by simp; omega) (by simp) (by omega)
        simp at hm
        rw [Heap.get_put, if_neg hm]; exact ho
    · simp [t6, t7]
      rw [load_agg (o := 0) (n := 2) (cs := [.nsl, .i .i64 0]) (own := true) (by rw [Heap.get_put, if_pos rfl]) (by simp)]
      have nxx := mk4.ex.nx
      refine ⟨⟨by simp; omega, fun i hi ob ho => ?_⟩, fun h => by simp [hr] at h, fun _ => .inl ⟨rfl, ?_⟩⟩
      · rw [Heap.get_put, if_neg (by omega)]
        exact mk4.ex.get i (by omega) ob (eX.get i hi ob ho)
      · have := parts_le hnd hok; omega


/-- What is asked of one head that is below another one: kids by relations. -/
structure MayS (B : List Hd) (U D : Nat → Nat → Prop) (h k : Hd) : Prop where
  kind : h.kind = k.kind
  fn : h.kind = 7 → ∀ h0 h1 k0 k1 : Nat, h.kids = [(h0 : Int), (h1 : Int)] → k.kids = [(k0 : Int), (k1 : Int)] → D k0 h0 ∧ U h1 k1
  rc : h.kind = 8 → ∀ s (y : Nat), findK k.names k.kids s = (y : Int) → ∃ x : Nat, findK h.names h.kids s = (x : Int) ∧ U x y
  op : h.kind = 9 → h.opn = true → k.opn = true
  va : h.kind = 9 → ∀ s (x : Nat), findK h.names h.kids s = (x : Int) → (∃ y : Nat, findK k.names k.kids s = (y : Int) ∧ U x y) ∨ (findK k.names k.kids s = -1 ∧ k.opn = true)
  vb : h.kind = 9 → h.opn = true → ∀ s (y : Nat), findK k.names k.kids s = (y : Int) → findK h.names h.kids s = -1 → ∃ b, B[y]? = some b ∧ b.kind = 5

def May (B : List Hd) (U D : Nat → Nat → Prop) (h k : Hd) : Prop := h.kind = 6 ∨ k.kind = 5 ∨ MayS B U D h k

theorem May.mono {B : List Hd} {U U' D D' : Nat → Nat → Prop} {h k : Hd} (m : May B U D h k) (hU : ∀ i j, U i j → U' i j) (hD : ∀ i j, D i j → D' i j) : May B U' D' h k := by
  rcases m with m | m | m
  · exact .inl m
  · exact .inr (.inl m)
  · refine .inr (.inr ⟨m.kind, fun e a b c d h1 h2 => ?_, fun e s y hy => ?_, m.op, fun e s x hx => ?_, m.vb⟩)
    · obtain ⟨x1, x2⟩ := m.fn e a b c d h1 h2
      exact ⟨hD _ _ x1, hU _ _ x2⟩
    · obtain ⟨x, x1, x2⟩ := m.rc e s y hy
      exact ⟨x, x1, hU _ _ x2⟩
    · rcases m.va e s x hx with ⟨y, y1, y2⟩ | h
      · exact .inl ⟨y, y1, hU _ _ y2⟩
      · exact .inr h

theorem two_kids {n : Nat} {h : Hd} (o : HOk n h) (e : h.kind = 7) : ∃ a b : Nat, h.kids = [(a : Int), (b : Int)] ∧ a < n ∧ b < n := by
  have hl : h.kids.length = 2 := by rcases o.form.2 with ⟨_, _, h⟩ | ⟨h, _⟩ | ⟨_, h, _⟩ <;> omega
  match hk : h.kids, hl with
  | [u, w], _ =>
    have h1 := o.kid u (by rw [hk]; simp)
    have h2 := o.kid w (by rw [hk]; simp)
    exact ⟨u.toNat, w.toNat, by rw [Int.toNat_of_nonneg h1.1, Int.toNat_of_nonneg h2.1], by omega, by omega⟩

theorem all_names {n : Nat} {h : Hd} (o : HOk n h) (P : List Nat → Int → Prop) : (∀ i, i < h.names.length → P (h.names[i]?.getD []) (h.kids[i]?.getD 0)) ↔ ∀ s (x : Nat), findK h.names h.kids s = (x : Int) → P s x := by
  constructor
  · intro hp s x hx
    rcases findK_cases o s with ⟨_, e⟩ | ⟨i, h1, y, h2, _, e⟩
    · omega
    · have := hp i (List.getElem?_eq_some_iff.1 h1).1
      rw [h1, h2] at this
      rw [hx] at e
      rw [e]; exact this
  · intro hp i hi
    have hkl : i < h.kids.length := Nat.lt_of_lt_of_le hi o.le
    have h1 : h.names[i]? = some h.names[i] := List.getElem?_eq_getElem hi
    have h2 : h.kids[i]? = some h.kids[i] := List.getElem?_eq_getElem hkl
    have hr := o.kid _ (List.getElem_mem hkl)
    have hf := findK_at o.up.nodup h1 h2
    rw [h1, h2]
    have := hp h.names[i] h.kids[i].toNat (by rw [hf]; omega)
    rw [Int.toNat_of_nonneg hr.1] at this
    exact this

theorem find_neg {n : Nat} {h : Hd} (o : HOk n h) (s : List Nat) : findK h.names h.kids s < 0 ↔ findK h.names h.kids s = -1 := by
  rcases o.find s with e | e <;> omega

theorem mayB_iff {B : List Hd} {n : Nat} {R S : Nat → Nat → Bool} {h k : Hd} (oh : HOk n h) (ok : HOk B.length k) : mayB B R S h k = true ↔ May B (fun i j => R i j = true) (fun j i => S j i = true) h k := by
  unfold mayB May
  by_cases c6 : h.kind = 6
  · simp [c6]
  by_cases c5 : k.kind = 5
  · simp [c5]
  have e65 : (h.kind == 6 || k.kind == 5) = false := by simp [c6, c5]
  rw [e65]
  simp only [Bool.false_eq_true, if_false, c6, c5, false_or]
  by_cases ck : h.kind = k.kind
  rotate_left
  · have : (h.kind != k.kind) = true := by simp [ck]
    rw [this]
    simp only [if_true, Bool.false_eq_true, false_iff]
    exact fun m => ck m.kind
  have hne : (h.kind != k.kind) = false := by simp [ck]
  rw [hne]
  simp only [Bool.false_eq_true, if_false]
  by_cases c7 : h.kind = 7
  · have e7 : (h.kind == 7) = true := by simp [c7]
    rw [e7]
    simp only [if_true, Bool.and_eq_true]
    obtain ⟨a, b, e1, _⟩ := two_kids oh c7
    obtain ⟨c, d, e2, _⟩ := two_kids ok (ck ▸ c7)
    rw [e1, e2]
    simp only [tb, List.getElem?_cons_zero, List.getElem?_cons_succ, Option.getD_some, Int.toNat_natCast]
    constructor
    · rintro ⟨m1, m2⟩
      refine ⟨ck, fun _ h0 h1 k0 k1 x1 x2 => ?_, fun e => by omega, fun e => by omega, fun e => by omega, fun e => by omega⟩
      rw [e1] at x1
      rw [e2] at x2
      simp only [List.cons.injEq, Int.natCast_inj, and_true] at x1 x2
      obtain ⟨rfl, rfl⟩ := x1
      obtain ⟨rfl, rfl⟩ := x2
      exact ⟨m1, m2⟩
    · intro m
      exact m.fn c7 a b c d e1 e2
  have e7 : (h.kind == 7) = false := by simp [c7]
  rw [e7]
  simp only [Bool.false_eq_true, if_false]
  by_cases c8 : h.kind = 8
  · have e8 : (h.kind == 8) = true := by simp [c8]
    rw [e8]
    simp only [if_true, List.all_eq_true, List.mem_range]
    have := all_names ok (fun s x => (!(decide (findK h.names h.kids s < 0) || !tb R (findK h.names h.kids s) x)) = true)
    have hrec : (∀ x, x < k.names.length → recR R h k x = true) ↔ _ := this
    rw [hrec]
    constructor
    · intro m
      refine ⟨ck, fun e => by omega, fun _ s y hy => ?_, fun e => by omega, fun e => by omega, fun e => by omega⟩
      have := m s y hy
      simp only [Bool.not_eq_true', Bool.or_eq_false_iff, decide_eq_false_iff_not, Bool.not_eq_false'] at this
      refine ⟨(findK h.names h.kids s).toNat, by omega, this.2⟩
    · intro m s y hy
      obtain ⟨x, x1, x2⟩ := m.rc c8 s y hy
      simp only [x1, tb, Int.toNat_natCast, Bool.not_eq_true', Bool.or_eq_false_iff, decide_eq_false_iff_not, Bool.not_eq_false']
      exact ⟨by omega, x2⟩
  have e8 : (h.kind == 8) = false := by simp [c8]
  rw [e8]
  simp only [Bool.false_eq_true, if_false]
  by_cases c9 : h.kind = 9
  · have e9 : (h.kind == 9) = true := by simp [c9]
    rw [e9]
    simp only [if_true, Bool.and_eq_true, List.all_eq_true, List.mem_range]
    have h1 := all_names oh (fun s x => (!((decide (findK k.names k.kids s < 0) && !k.opn) || (decide (0 ≤ findK k.names k.kids s) && !tb R x (findK k.names k.kids s)))) = true)
    have h2 := all_names ok (fun s x => (!(h.opn && decide (findK h.names h.kids s < 0) && kindAt B x != 5)) = true)
    have va : (∀ x, x < h.names.length → varA R h k x = true) ↔ _ := h1
    have vb : (∀ x, x < k.names.length → varB B h k x = true) ↔ _ := h2
    rw [va, vb]
    constructor
    · rintro ⟨m1, m2, m3⟩
      refine ⟨ck, fun e => by omega, fun e => by omega, fun _ ho => ?_, fun _ s x hx => ?_, fun _ ho s y hy hn => ?_⟩
      · rw [ho] at m1
        simpa using m1
      · have := m2 s x hx
        simp only [Bool.not_eq_true', Bool.or_eq_false_iff, Bool.and_eq_false_iff, decide_eq_false_iff_not, Bool.not_eq_false'] at this
        rcases ok.find s with e | e
        · refine .inr ⟨e, ?_⟩
          rcases this.1 with t | t
          · omega
          · exact t
        · refine .inl ⟨(findK k.names k.kids s).toNat, by omega, ?_⟩
          rcases this.2 with t | t
          · omega
          · exact t
      · have := m3 s y hy
        rw [ho, hn] at this
        have hyl : y < B.length := by rcases ok.find s with e | e <;> omega
        refine ⟨_, List.getElem?_eq_getElem hyl, ?_⟩
        simpa [kindAt, List.getElem?_eq_getElem hyl] using this
    · intro m
      refine ⟨?_, fun s x hx => ?_, fun s y hy => ?_⟩
      · cases ho : h.opn with
        | false => simp
        | true => simp [m.op c9 ho]
      · rcases m.va c9 s x hx with ⟨y, y1, y2⟩ | ⟨y1, y2⟩
        · simp only [y1, tb, Int.toNat_natCast, y2]
          simp
        · simp [y1, y2]
      · cases ho : h.opn with
        | false => simp
        | true =>
          rcases oh.find s with e | e
          · obtain ⟨b, b1, b2⟩ := m.vb c9 ho s y hy e
            simp [kindAt, b1, b2]
          · have : ¬ findK h.names h.kids s < 0 := by omega
            simp [this]
  have e9 : (h.kind == 9) = false := by simp [c9]
  rw [e9]
  simp only [Bool.false_eq_true, if_false, true_iff]
  exact ⟨ck, fun e => absurd e c7, fun e => absurd e c8, fun e => absurd e c9, fun e => absurd e c9, fun e => absurd e c9⟩

/-! ### One state below another -/
def Bel (A : List Hd) (i : Nat) (B : List Hd) (j : Nat) : Prop := ∃ R S, Sim A B R S ∧ R i j = true
def OkL (A : List Hd) : Prop := ∀ (i : Nat) h, A[i]? = some h → HOk A.length h

theorem Sim.symm {A B : List Hd} {R S : Nat → Nat → Bool} (s : Sim A B R S) : Sim B A S R :=
  ⟨fun i j h => (s.bd j i h).symm, fun i j h => (s.bu j i h).symm, fun i j h k hi hj hs => s.dn j i k h hj hi hs, fun i j h k hi hj hr => s.up j i k h hj hi hr⟩

theorem Bel.lt {A B : List Hd} {i j : Nat} (h : Bel A i B j) : i < A.length ∧ j < B.length := by
  obtain ⟨R, S, s, hr⟩ := h
  exact s.bu i j hr

theorem Bel.may {A B : List Hd} {i j : Nat} {h k : Hd} (oA : OkL A) (oB : OkL B) (b : Bel A i B j) (hi : A[i]? = some h) (hj : B[j]? = some k) : May B (fun x y => Bel A x B y) (fun y x => Bel B y A x) h k := by
  obtain ⟨R, S, s, hr⟩ := b
  have := (mayB_iff (oA i h hi) (oB j k hj)).1 (s.up i j h k hi hj hr)
  exact this.mono (fun x y hxy => ⟨R, S, s, hxy⟩) (fun y x hyx => ⟨S, R, s.symm, hyx⟩)

/-- By a relation whose pairs may be. -/
theorem Bel.co {A B : List Hd} (oA : OkL A) (oB : OkL B) (U D : Nat → Nat → Prop) (hU : ∀ i j, U i j → i < A.length ∧ j < B.length) (hD : ∀ j i, D j i → i < A.length ∧ j < B.length)
    (mU : ∀ (i j : Nat) h k, A[i]? = some h → B[j]? = some k → U i j → May B U D h k) (mD : ∀ (i j : Nat) h k, A[i]? = some h → B[j]? = some k → D j i → May A D U k h) :
    (∀ i j, U i j → Bel A i B j) ∧ (∀ j i, D j i → Bel B j A i) := by
  classical
  have s : Sim A B (fun i j => decide (U i j)) (fun j i => decide (D j i)) := by
    refine ⟨fun i j h => hU i j (of_decide_eq_true h), fun i j h => hD j i (of_decide_eq_true h), fun i j h k hi hj hr => ?_, fun i j h k hi hj hr => ?_⟩
    · refine (mayB_iff (oA i h hi) (oB j k hj)).2 ((mU i j h k hi hj (of_decide_eq_true hr)).mono (fun x y hxy => ?_) (fun x y hxy => ?_)) <;> simpa using hxy
    · refine (mayB_iff (oB j k hj) (oA i h hi)).2 ((mD i j h k hi hj (of_decide_eq_true hr)).mono (fun x y hxy => ?_) (fun x y hxy => ?_)) <;> simpa using hxy
  exact ⟨fun i j h => ⟨_, _, s, decide_eq_true h⟩, fun j i h => ⟨_, _, s.symm, decide_eq_true h⟩⟩

theorem find_lt {n : Nat} {h : Hd} (o : HOk n h) {s : List Nat} {x : Nat} (e : findK h.names h.kids s = (x : Int)) : x < n := by
  rcases o.find s with k | k <;> omega

theorem Bel.refl {A : List Hd} (oA : OkL A) {i : Nat} (hi : i < A.length) : Bel A i A i := by
  have key : ∀ (i j : Nat) h k, A[i]? = some h → A[j]? = some k → (i = j ∧ i < A.length) → May A (fun a b => a = b ∧ a < A.length) (fun a b => a = b ∧ a < A.length) h k := by
    rintro i j h k hi hj ⟨rfl, hl⟩
    rw [hi] at hj
    obtain rfl := Option.some.inj hj
    have o := oA i h hi
    refine .inr (.inr ⟨rfl, fun e h0 h1 k0 k1 e1 e2 => ?_, fun e s y hy => ⟨y, hy, rfl, find_lt o hy⟩, fun _ h => h, fun e s x hx => .inl ⟨x, hx, rfl, find_lt o hx⟩, fun e _ s y hy hn => by omega⟩)
    rw [e1] at e2
    simp only [List.cons.injEq, Int.natCast_inj, and_true] at e2
    obtain ⟨rfl, rfl⟩ := e2
    have l0 := o.kid (h0 : Int) (by rw [e1]; simp)
    have l1 := o.kid (h1 : Int) (by rw [e1]; simp)
    exact ⟨⟨rfl, by omega⟩, ⟨rfl, by omega⟩⟩
  exact (Bel.co oA oA (fun a b => a = b ∧ a < A.length) (fun a b => a = b ∧ a < A.length) (fun i j h => ⟨h.2, h.1 ▸ h.2⟩) (fun i j h => ⟨h.1 ▸ h.2, h.2⟩) key (fun i j h k hi hj hd => key j i k h hj hi hd)).1 i i ⟨rfl, hi⟩

theorem any_up {A B : List Hd} {i j : Nat} {h : Hd} (oA : OkL A) (oB : OkL B) (b : Bel A i B j) (hi : A[i]? = some h) (h5 : h.kind = 5) : ∃ k, B[j]? = some k ∧ k.kind = 5 := by
  refine ⟨_, List.getElem?_eq_getElem b.lt.2, ?_⟩
  rcases b.may oA oB hi (List.getElem?_eq_getElem b.lt.2) with m | m | m
  · omega
  · exact m
  · rw [← m.kind]; exact h5

theorem Bel.trans {A B C : List Hd} (oA : OkL A) (oB : OkL B) (oC : OkL C) {i j k : Nat} (p : Bel A i B j) (q : Bel B j C k) : Bel A i C k := by
  obtain ⟨U, hU⟩ : ∃ U : Nat → Nat → Prop, U = fun i k => (i < A.length ∧ k < C.length) ∧ ((∃ j, Bel A i B j ∧ Bel B j C k) ∨ ∃ c, C[k]? = some c ∧ c.kind = 5) := ⟨_, rfl⟩
  obtain ⟨D, hD⟩ : ∃ D : Nat → Nat → Prop, D = fun k i => (i < A.length ∧ k < C.length) ∧ ((∃ j, Bel C k B j ∧ Bel B j A i) ∨ ∃ a, A[i]? = some a ∧ a.kind = 5) := ⟨_, rfl⟩
  have gen : ∀ {X Z : List Hd} (oX : OkL X) (oZ : OkL Z) (U' D' : Nat → Nat → Prop) (hU' : U' = fun i k => (i < X.length ∧ k < Z.length) ∧ ((∃ j, Bel X i B j ∧ Bel B j Z k) ∨ ∃ c, Z[k]? = some c ∧ c.kind = 5)) (hD' : D' = fun k i => (i < X.length ∧ k < Z.length) ∧ ((∃ j, Bel Z k B j ∧ Bel B j X i) ∨ ∃ a, X[i]? = some a ∧ a.kind = 5))
      (i k : Nat) x z, X[i]? = some x → Z[k]? = some z → U' i k → May Z U' D' x z := by
    intro X Z oX oZ U' D' hU' hD' i k x z hx hz hu
    have hu' := hu
    rw [hU'] at hu'
    obtain ⟨⟨_, _⟩, hu'⟩ := hu'
    rcases hu' with ⟨j, b1, b2⟩ | ⟨c, c1, c2⟩
    rotate_left
    · rw [hz] at c1
      obtain rfl := Option.some.inj c1
      exact .inr (.inl c2)
    obtain ⟨y, hy⟩ : ∃ y, B[j]? = some y := ⟨_, List.getElem?_eq_getElem b1.lt.2⟩
    have ox := oX i x hx
    have oy := oB j y hy
    have oz := oZ k z hz
    rcases b1.may oX oB hx hy with m | m | m
    · exact .inl m
    · obtain ⟨z', z1, z2⟩ := any_up oB oZ b2 hy m
      rw [hz] at z1
      obtain rfl := Option.some.inj z1
      exact .inr (.inl z2)
    rcases b2.may oB oZ hy hz with n | n | n
    · exact .inl (by rw [m.kind]; exact n)
    · exact .inr (.inl n)
    have ck := m.kind
    have cU : ∀ a b c, Bel X a B b → Bel B b Z c → U' a c := fun a b c h1 h2 => by rw [hU']; exact ⟨⟨h1.lt.1, h2.lt.2⟩, .inl ⟨b, h1, h2⟩⟩
    refine .inr (.inr ⟨by rw [m.kind, n.kind], fun e h0 h1 k0 k1 e1 e2 => ?_, fun e s c hc => ?_, fun e ho => n.op (by omega) (m.op e ho), fun e s a ha => ?_, fun e ho s c hc hn => ?_⟩)
    · obtain ⟨y0, y1, e3, _⟩ := two_kids oy (by omega)
      obtain ⟨m1, m2⟩ := m.fn e h0 h1 y0 y1 e1 e3
      obtain ⟨n1, n2⟩ := n.fn (by omega) y0 y1 k0 k1 e3 e2
      refine ⟨?_, cU _ _ _ m2 n2⟩
      rw [hD']
      exact ⟨⟨m1.lt.2, n1.lt.1⟩, .inl ⟨y0, n1, m1⟩⟩
    · obtain ⟨b, b3, b4⟩ := n.rc (by omega) s c hc
      obtain ⟨a, a3, a4⟩ := m.rc e s b b3
      exact ⟨a, a3, cU _ _ _ a4 b4⟩
    · rcases m.va e s a ha with ⟨b, b3, b4⟩ | ⟨b3, b4⟩
      · rcases n.va (by omega) s b b3 with ⟨c, c3, c4⟩ | h
        · exact .inl ⟨c, c3, cU _ _ _ b4 c4⟩
        · exact .inr h
      · rcases oz.find s with h | h
        · exact .inr ⟨h, n.op (by omega) b4⟩
        · have hc : findK z.names z.kids s = (((findK z.names z.kids s).toNat : Nat) : Int) := by omega
          obtain ⟨w, w1, w2⟩ := n.vb (by omega) b4 s _ hc b3
          refine .inl ⟨_, hc, ?_⟩
          rw [hU']
          exact ⟨⟨find_lt ox ha, find_lt oz hc⟩, .inr ⟨w, w1, w2⟩⟩
    · rcases oy.find s with h | h
      · exact n.vb (by omega) (m.op e ho) s c hc h
      · have hb : findK y.names y.kids s = (((findK y.names y.kids s).toNat : Nat) : Int) := by omega
        obtain ⟨w, w1, w2⟩ := m.vb e ho s _ hb hn
        rcases n.va (by omega) s _ hb with ⟨c', c3, c4⟩ | ⟨c3, _⟩
        · rw [hc] at c3
          have : c = c' := by omega
          subst this
          exact any_up oB oZ c4 w1 w2
        · omega
  have co := Bel.co oA oC U D (fun i k h => by rw [hU] at h; exact h.1) (fun k i h => by rw [hD] at h; exact h.1) (gen oA oC U D hU hD) (fun i k x z hx hz hd => gen oC oA D U (by rw [hD]; funext a b; simp only [And.comm]) (by rw [hU]; funext a b; simp only [And.comm]) k i z x hz hx hd)
  refine co.1 i k ?_
  rw [hU]
  exact ⟨⟨p.lt.1, q.lt.2⟩, .inl ⟨j, p, q⟩⟩


theorem HdP.find {n : Nat} {ps : List Pt} {s : Shape} {l : Hd} (k : HdP ps s l) (o : HOk n l) {a : Nat} {nm : List Nat} {q : Pt} (h1 : s.names[a]? = some nm) (h2 : s.kids[a]? = some q) : ∃ m : Nat, findK l.names l.kids nm = (m : Int) ∧ ps[m]? = some q := by
  obtain ⟨m, m1, m2⟩ := k.kid a q h2
  exact ⟨m, findK_at o.up.nodup (by rw [k.names]; exact h1) m1, m2⟩

theorem HdP.found {n : Nat} {ps : List Pt} {s : Shape} {l : Hd} (k : HdP ps s l) (o : HOk n l) {nm : List Nat} {m : Nat} (h : findK l.names l.kids nm = (m : Int)) : ∃ (a : Nat) (q : Pt), s.names[a]? = some nm ∧ s.kids[a]? = some q ∧ ps[m]? = some q := by
  rcases findK_cases o nm with ⟨_, e⟩ | ⟨a, h1, y, h2, _, e⟩
  · omega
  · have hal := (List.getElem?_eq_some_iff.1 h2).1
    rw [k.len] at hal
    refine ⟨a, _, by rw [← k.names]; exact h1, List.getElem?_eq_getElem hal, ?_⟩
    obtain ⟨m', m1, m2⟩ := k.kid a _ (List.getElem?_eq_getElem hal)
    rw [h2] at m1
    have : m' = m := by
      have := Option.some.inj m1
      omega
    rw [← this]; exact m2

theorem find_none {n : Nat} {h : Hd} (o : HOk n h) {s : List Nat} : findK h.names h.kids s = -1 ↔ s ∉ h.names := by
  constructor
  · intro e hm
    rcases findK_cases o s with ⟨h', _⟩ | ⟨_, _, y, _, _, e'⟩
    · exact h' hm
    · omega
  · exact findK_none
theorem find_some {n : Nat} {h : Hd} (o : HOk n h) {s : List Nat} : (∃ y : Nat, findK h.names h.kids s = (y : Int)) ↔ s ∈ h.names := by
  constructor
  · rintro ⟨y, e⟩
    apply Decidable.byContradiction
    intro hm
    rw [(find_none o).2 hm] at e
    omega
  · intro hm
    rcases findK_cases o s with ⟨h', _⟩ | ⟨_, _, y, _, _, e'⟩
    · exact absurd hm h'
    · exact ⟨y, e'⟩

/-- A side's head: the kids as parts that one function makes. -/
structure SV (ps : List Pt) (x l : Hd) (kp : Nat → Bool → Pt) (j : Bool) : Prop where
  kind : l.kind = x.kind
  names : l.names = x.names
  opn : l.opn = x.opn
  fn : x.kind = 7 → ∀ x0 x1 : Nat, x.kids = [(x0 : Int), (x1 : Int)] → ∃ m0 m1 : Nat, l.kids = [(m0 : Int), (m1 : Int)] ∧ ps[m0]? = some (kp x0 (!j)) ∧ ps[m1]? = some (kp x1 j)
  to : x.kind ≠ 7 → ∀ s (k : Nat), findK x.names x.kids s = (k : Int) → ∃ m : Nat, findK l.names l.kids s = (m : Int) ∧ ps[m]? = some (kp k j)
  fro : x.kind ≠ 7 → ∀ s (m : Nat), findK l.names l.kids s = (m : Int) → ∃ k : Nat, findK x.names x.kids s = (k : Int) ∧ ps[m]? = some (kp k j)

def kpA (k : Nat) (j : Bool) : Pt := ⟨k, -1, j⟩
def kpB (k : Nat) (j : Bool) : Pt := ⟨-1, k, j⟩

theorem side_view {n n' : Nat} {ps : List Pt} {x l : Hd} {p : Pt} {kp : Nat → Bool → Pt} (ox : HOk n' x) (ol : HOk n l) (h : HdP ps (sideS p x) l) (hkp : ∀ (k : Nat) (j : Bool), kp k j = if p.b < 0 then ⟨k, -1, j⟩ else ⟨-1, k, j⟩) : SV ps x l kp p.join := by
  have at' : ∀ (a : Nat) (k : Nat), x.kids[a]? = some (k : Int) → (sideS p x).kids[a]? = some (kp k (p.join != (x.kind == 7 && a == 0))) := fun a k ha => by
    have := sideK_at (p := p) (h := x) ha
    rw [hkp]
    exact this
  have h7 : x.kind ≠ 7 → ∀ a : Nat, (p.join != (x.kind == 7 && a == 0)) = p.join := fun e a => by
    have : (x.kind == 7) = false := by rw [beq_eq_false_iff_ne]; exact e
    rw [this]; simp
  refine ⟨h.kind, h.names, h.opn, fun e x0 x1 hk => ?_, fun e s k hs => ?_, fun e s m hs => ?_⟩
  · have hl : l.kids.length = 2 := by
      rw [h.len]
      show (sideK p x).length = 2
      rw [sideK_len, hk]; rfl
    have e0 := at' 0 x0 (by rw [hk]; rfl)
    have e1 := at' 1 x1 (by rw [hk]; rfl)
    obtain ⟨m0, a0, b0⟩ := h.kid 0 _ e0
    obtain ⟨m1, a1, b1⟩ := h.kid 1 _ e1
    refine ⟨m0, m1, ?_, ?_, ?_⟩
    · match hlk : l.kids, hl with
      | [u, w], _ =>
        rw [hlk] at a0 a1
        simp at a0 a1
        rw [a0, a1]
    · rw [b0, e]; simp
    · rw [b1, e]; simp
  · rcases findK_cases ox s with ⟨_, e'⟩ | ⟨a, h1, y, h2, _, e'⟩
    · omega
    · have hyk : y = k := by omega
      subst hyk
      obtain ⟨m, m1, m2⟩ := h.find ol (a := a) (nm := s) h1 (at' a y h2)
      rw [h7 e] at m2
      exact ⟨m, m1, m2⟩
  · obtain ⟨a, q, h1, h2, h3⟩ := h.found ol hs
    have h1' : x.names[a]? = some s := h1
    have hal : a < x.kids.length := by
      have := (List.getElem?_eq_some_iff.1 h2).1
      have hkl : (sideS p x).kids.length = x.kids.length := sideK_len p x
      omega
    obtain ⟨k, hk, _⟩ := nat_of (ox.kid _ (List.getElem_mem hal))
    have hka : x.kids[a]? = some (k : Int) := by rw [List.getElem?_eq_getElem hal, hk]
    have := at' a k hka
    rw [h2] at this
    obtain rfl := Option.some.inj this
    rw [h7 e] at h3
    exact ⟨k, findK_at ox.up.nodup h1' hka, h3⟩

/-- Names that a join, a meet has: what is open has 'any' for all that it lacks. -/
def nmIn (j xo yo : Bool) (s : List Nat) (xs ys : List (List Nat)) : Prop := (s ∈ xs ∨ s ∈ ys) ∧ (xo = j → s ∈ xs) ∧ (yo = j → s ∈ ys)

structure NV (ps : List Pt) (x y l : Hd) (j xo yo : Bool) : Prop where
  kind : l.kind = x.kind
  names : ∀ s, s ∈ l.names ↔ nmIn j xo yo s x.names y.names
  to : ∀ s, s ∈ l.names → ∃ m : Nat, findK l.names l.kids s = (m : Int) ∧ ps[m]? = some ⟨findK x.names x.kids s, findK y.names y.kids s, j⟩

theorem nam_view {n : Nat} {ps : List Pt} {x y l : Hd} {p : Pt} {nms : List (List Nat)} {opn xo yo : Bool} (ol : HOk n l) (h : HdP ps (namS p x y nms opn) l) (hn : ∀ s, s ∈ nms ↔ nmIn p.join xo yo s x.names y.names) : NV ps x y l p.join xo yo := by
  refine ⟨h.kind, fun s => by rw [h.names]; exact hn s, fun s hs => ?_⟩
  rw [h.names] at hs
  obtain ⟨a, ha⟩ := List.mem_iff_getElem?.1 hs
  have ha' : nms[a]? = some s := ha
  exact h.find ol ha (by simp [namS, namK, ha'])

theorem var_in {x y : Hd} {j : Bool} {s : List Nat} : s ∈ (varN x y j).1 ↔ nmIn j x.opn y.opn s x.names y.names := by
  unfold varN nmIn
  cases x.opn <;> cases y.opn <;> cases j <;> simp [mem_both, mem_union]
  all_goals (try exact ⟨fun h => ⟨.inl h, h⟩, fun h => h.2⟩)
  all_goals (try exact ⟨fun h => ⟨.inr h, h⟩, fun h => h.2⟩)
  all_goals (try exact fun h _ => .inl h)
  all_goals (try exact fun h => .inl h)
  all_goals (try exact fun h => .inr h)
theorem var_op {x y : Hd} {j : Bool} : (varN x y j).2 = (if j then x.opn || y.opn else x.opn && y.opn) := by
  unfold varN
  cases x.opn <;> cases y.opn <;> cases j <;> rfl

/-- What the head of a part is. -/
inductive PV (A B : List Hd) (ps : List Pt) (p : Pt) (l : Hd) : Prop
  | sA (i : Nat) (x : Hd) : p.a = (i : Int) → A[i]? = some x → SV ps x l kpA p.join → (p.b = -1 ∨ ∃ (j : Nat) (y : Hd), p.b = (j : Int) ∧ B[j]? = some y ∧ (y.kind = loK p.join ∨ x.kind = hiK p.join)) → PV A B ps p l
  | sB (j : Nat) (y : Hd) : p.b = (j : Int) → B[j]? = some y → SV ps y l kpB p.join → (p.a = -1 ∨ ∃ (i : Nat) (x : Hd), p.a = (i : Int) ∧ A[i]? = some x ∧ (x.kind = loK p.join ∨ y.kind = hiK p.join)) → PV A B ps p l
  | df (i j : Nat) (x y : Hd) : p.a = (i : Int) → A[i]? = some x → p.b = (j : Int) → B[j]? = some y → x.kind ≠ y.kind → x.kind ≠ loK p.join → y.kind ≠ loK p.join → l.kind = hiK p.join → PV A B ps p l
  | fn (i j : Nat) (x y : Hd) (x0 x1 y0 y1 m0 m1 : Nat) : p.a = (i : Int) → A[i]? = some x → p.b = (j : Int) → B[j]? = some y → x.kind = 7 → y.kind = 7 → l.kind = 7 → x.kids = [(x0 : Int), (x1 : Int)] → y.kids = [(y0 : Int), (y1 : Int)] → l.kids = [(m0 : Int), (m1 : Int)] → ps[m0]? = some ⟨x0, y0, !p.join⟩ → ps[m1]? = some ⟨x1, y1, p.join⟩ → PV A B ps p l
  | n8 (i j : Nat) (x y : Hd) : p.a = (i : Int) → A[i]? = some x → p.b = (j : Int) → B[j]? = some y → x.kind = 8 → y.kind = 8 → NV ps x y l p.join true true → PV A B ps p l
  | n9 (i j : Nat) (x y : Hd) : p.a = (i : Int) → A[i]? = some x → p.b = (j : Int) → B[j]? = some y → x.kind = 9 → y.kind = 9 → NV ps x y l p.join x.opn y.opn → l.opn = (if p.join then x.opn || y.opn else x.opn && y.opn) → PV A B ps p l
  | cs (i j : Nat) (x y : Hd) : p.a = (i : Int) → A[i]? = some x → p.b = (j : Int) → B[j]? = some y → x.kind = y.kind → x.kind ≠ 7 → x.kind ≠ 8 → x.kind ≠ 9 → l.kind = x.kind → PV A B ps p l

theorem part_view {A B : List Hd} {N M n : Nat} {ps : List Pt} {p : Pt} {l : Hd} (hA : Heads A N) (hB : Heads B M) (hp : POk A B p) (ol : HOk n l) (h : HdP ps (shape A B p) l) : PV A B ps p l := by
  obtain ⟨pa, pb, pn⟩ := hp
  have ha : ∀ i : Nat, p.a = i → hdA A p.a = A[i]? := fun i h => by unfold hdA; rw [if_neg (by omega), h]; rfl
  have hb : ∀ i : Nat, p.b = i → hdA B p.b = B[i]? := fun i h => by unfold hdA; rw [if_neg (by omega), h]; rfl
  have na : p.a = -1 → hdA A p.a = none := fun e => by unfold hdA; rw [if_pos (by omega)]
  have nb : p.b = -1 → hdA B p.b = none := fun e => by unfold hdA; rw [if_pos (by omega)]
  unfold shape at h
  rcases pa with pa | ⟨i, pa, hi⟩
  · rcases pb with pb | ⟨j, pb, hj⟩
    · exact absurd ⟨pa, pb⟩ pn
    · have hy : B[j]? = some B[j] := List.getElem?_eq_getElem hj
      rw [na pa, hb j pb, hy] at h
      exact .sB j _ pb hy (side_view (hB.hd j _ hy).ok ol h fun k b => by rw [if_neg (by omega)]; rfl) (.inl pa)
  · have hx : A[i]? = some A[i] := List.getElem?_eq_getElem hi
    have rx := hA.hd i _ hx
    rcases pb with pb | ⟨j, pb, hj⟩
    · rw [ha i pa, nb pb, hx] at h
      exact .sA i _ pa hx (side_view rx.ok ol h fun k b => by rw [if_pos (by omega)]; rfl) (.inl pb)
    · have hy : B[j]? = some B[j] := List.getElem?_eq_getElem hj
      have ry := hB.hd j _ hy
      rw [ha i pa, hb j pb, hx, hy] at h
      obtain ⟨x, hxx⟩ : ∃ x, x = A[i] := ⟨_, rfl⟩
      obtain ⟨y, hyy⟩ : ∃ y, y = B[j] := ⟨_, rfl⟩
      rw [← hxx] at hx rx h
      rw [← hyy] at hy ry h
      simp only at h
      unfold shape2 at h
      by_cases c1 : x.kind = loK p.join ∨ y.kind = hiK p.join
      · rw [if_pos c1] at h
        exact .sB j y pb hy (side_view (p := ⟨-1, p.b, p.join⟩) ry.ok ol h fun k b => by rw [if_neg (by simp only; omega)]; rfl) (.inr ⟨i, x, pa, hx, c1⟩)
      rw [if_neg c1] at h
      by_cases c2 : y.kind = loK p.join ∨ x.kind = hiK p.join
      · rw [if_pos c2] at h
        exact .sA i x pa hx (side_view (p := ⟨p.a, -1, p.join⟩) rx.ok ol h fun k b => by rw [if_pos (by simp only; omega)]; rfl) (.inr ⟨j, y, pb, hy, c2⟩)
      rw [if_neg c2] at h
      rw [not_or] at c1 c2
      by_cases c3 : x.kind = y.kind
      rotate_left
      · rw [if_pos c3] at h
        exact .df i j x y pa hx pb hy c3 c1.1 c2.1 h.kind
      rw [if_neg (fun e => e c3)] at h
      by_cases c7 : x.kind = 7
      · rw [if_pos c7] at h
        obtain ⟨x0, x1, ex, _⟩ := two_kids rx.ok c7
        obtain ⟨y0, y1, ey, _⟩ := two_kids ry.ok (c3 ▸ c7)
        have hl : l.kids.length = 2 := h.len
        obtain ⟨m0, a0, b0⟩ := h.kid 0 _ rfl
        obtain ⟨m1, a1, b1⟩ := h.kid 1 _ rfl
        rw [ex, ey] at b0 b1
        refine .fn i j x y x0 x1 y0 y1 m0 m1 pa hx pb hy c7 (c3 ▸ c7) h.kind ex ey ?_ b0 b1
        match hlk : l.kids, hl with
        | [u, w], _ =>
          rw [hlk] at a0 a1
          simp at a0 a1
          rw [a0, a1]
      rw [if_neg c7] at h
      by_cases c8 : x.kind = 8
      · rw [if_pos c8] at h
        refine .n8 i j x y pa hx pb hy c8 (c3 ▸ c8) (nam_view ol h fun s => ?_)
        unfold nmIn
        cases hj : p.join
        · simp [mem_union]
        · simp [mem_both]
          exact fun h _ => .inl h
      rw [if_neg c8] at h
      by_cases c9 : x.kind = 9
      · rw [if_pos c9] at h
        refine .n9 i j x y pa hx pb hy c9 (c3 ▸ c9) (nam_view ol h fun s => var_in) ?_
        rw [h.opn]
        exact var_op
      rw [if_neg c9] at h
      exact .cs i j x y pa hx pb hy c3 c7 c8 c9 h.kind

/-- The other way round. -/
def Pt.swap (p : Pt) : Pt := ⟨p.b, p.a, p.join⟩
theorem swap_get {ps : List Pt} {m : Nat} {q : Pt} : (ps.map Pt.swap)[m]? = some q.swap ↔ ps[m]? = some q := by
  rw [List.getElem?_map]
  constructor
  · intro h
    cases hp : ps[m]? with
    | none => rw [hp] at h; cases h
    | some r =>
      rw [hp] at h
      simp only [Option.map_some, Option.some.injEq] at h
      cases r; cases q
      simp only [Pt.swap, Pt.mk.injEq] at h
      simp [h]
  · intro h; rw [h]; rfl

theorem SV.swap {ps : List Pt} {x l : Hd} {kp kp' : Nat → Bool → Pt} {j : Bool} (v : SV ps x l kp j) (hk : ∀ k b, (kp k b).swap = kp' k b) : SV (ps.map Pt.swap) x l kp' j := by
  refine ⟨v.kind, v.names, v.opn, fun e x0 x1 h => ?_, fun e s k h => ?_, fun e s m h => ?_⟩
  · obtain ⟨m0, m1, a, b, c⟩ := v.fn e x0 x1 h
    exact ⟨m0, m1, a, by rw [← hk]; exact swap_get.2 b, by rw [← hk]; exact swap_get.2 c⟩
  · obtain ⟨m, a, b⟩ := v.to e s k h
    exact ⟨m, a, by rw [← hk]; exact swap_get.2 b⟩
  · obtain ⟨k, a, b⟩ := v.fro e s m h
    exact ⟨k, a, by rw [← hk]; exact swap_get.2 b⟩
theorem NV.swap {ps : List Pt} {x y l : Hd} {j xo yo : Bool} (v : NV ps x y l j xo yo) (hk : x.kind = y.kind) : NV (ps.map Pt.swap) y x l j yo xo := by
  refine ⟨by rw [v.kind, hk], fun s => ?_, fun s hs => ?_⟩
  · rw [v.names]
    unfold nmIn
    exact ⟨fun ⟨a, b, c⟩ => ⟨a.symm, c, b⟩, fun ⟨a, b, c⟩ => ⟨a.symm, c, b⟩⟩
  · obtain ⟨m, a, b⟩ := v.to s hs
    exact ⟨m, a, swap_get.2 b⟩
theorem PV.swap {A B : List Hd} {ps : List Pt} {p : Pt} {l : Hd} (v : PV A B ps p l) : PV B A (ps.map Pt.swap) p.swap l := by
  cases v with
  | sA i x a b c d => exact .sB i x a b (c.swap fun _ _ => rfl) d
  | sB i x a b c d => exact .sA i x a b (c.swap fun _ _ => rfl) d
  | df i j x y a b c d e f g h => exact .df j i y x c d a b (fun k => e k.symm) g f h
  | fn i j x y x0 x1 y0 y1 m0 m1 a b c d e f g h k o q r => exact .fn j i y x y0 y1 x0 x1 m0 m1 c d a b f e g k h o (swap_get.2 q) (swap_get.2 r)
  | n8 i j x y a b c d e f g => exact .n8 j i y x c d a b f e (g.swap (by omega))
  | n9 i j x y a b c d e f g h => exact .n9 j i y x c d a b f e (g.swap (by omega)) (by rw [h]; show _ = if p.join then _ else _; cases p.join <;> simp [Bool.or_comm, Bool.and_comm])
  | cs i j x y a b c d e f g h k => exact .cs j i y x c d a b e.symm (by omega) (by omega) (by omega) (by omega)

end
end K
end Go.Proofs.YtlgbgbngdhhjaaaGreatDoor
