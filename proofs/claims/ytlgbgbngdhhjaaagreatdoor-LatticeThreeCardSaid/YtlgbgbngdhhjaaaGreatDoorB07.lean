/- What the functions of order come to: Check, Table, may, Below. No condition. -/
import Derived.Test.YtlgbgbngdhhjaaaGreatDoorB06
import Derived.Test.YtlgbgbngdhhjaaaGreatDoorB17
set_option linter.unusedSimpArgs false
set_option linter.unusedVariables false
set_option maxRecDepth 10000
namespace Go.Proofs.YtlgbgbngdhhjaaaGreatDoor
namespace K
noncomputable section
open Go AM

theorem less_irr : ∀ a : List Nat, natsLess a a = false
  | [] => rfl
  | a :: x => by simp [natsLess, less_irr x]

theorem less_trans : ∀ {a b c : List Nat}, natsLess a b = true → natsLess b c = true → natsLess a c = true
  | [], [], _, h, _ => by simp [natsLess] at h
  | _ :: _, [], _, h, _ => by simp [natsLess] at h
  | _, _ :: _, [], _, h => by simp [natsLess] at h
  | [], _ :: _, _ :: _, _, _ => by simp [natsLess]
  | a :: x, b :: y, c :: z, h, k => by
    simp only [natsLess, Bool.or_eq_true, decide_eq_true_eq, Bool.and_eq_true, beq_iff_eq] at h k ⊢
    rcases h with h | ⟨rfl, h⟩ <;> rcases k with k | ⟨rfl, k⟩
    · exact .inl (by omega)
    · exact .inl h
    · exact .inl k
    · exact .inr ⟨rfl, less_trans h k⟩

theorem less_total : ∀ (a b : List Nat), natsLess a b = true ∨ a = b ∨ natsLess b a = true
  | [], [] => .inr (.inl rfl)
  | [], _ :: _ => .inl rfl
  | _ :: _, [] => .inr (.inr rfl)
  | a :: x, b :: y => by
    simp only [natsLess, Bool.or_eq_true, decide_eq_true_eq, Bool.and_eq_true, beq_iff_eq, List.cons.injEq]
    rcases Nat.lt_trichotomy a b with h | rfl | h
    · exact .inl (.inl h)
    · rcases less_total x y with h | h | h
      · exact .inl (.inr ⟨rfl, h⟩)
      · exact .inr (.inl ⟨rfl, h⟩)
      · exact .inr (.inr (.inr ⟨rfl, h⟩))
    · exact .inr (.inr (.inl h))

def Up (l : List (List Nat)) : Prop := l.Pairwise fun a b => natsLess a b = true

theorem rise_at {l : List (List Nat)} (h : riseB l = true) {i : Nat} (hi : i + 1 < l.length) : natsLess l[i] l[i + 1] = true := by
  unfold riseB at h
  rw [List.all_eq_true] at h
  have := h (i + 1) (by simp; omega)
  simpa [risR, show i < l.length by omega, hi] using this

theorem rise_up {l : List (List Nat)} (h : riseB l = true) : Up l := by
  unfold Up
  rw [List.pairwise_iff_getElem]
  intro i j hi hj hij
  obtain ⟨d, rfl⟩ : ∃ d, j = i + 1 + d := ⟨j - i - 1, by omega⟩
  induction d with
  | zero => exact rise_at h hj
  | succ d ih => exact less_trans (ih (by omega) (by omega)) (rise_at h hj)

theorem Up.nodup {l : List (List Nat)} (h : Up l) : l.Nodup :=
  List.Pairwise.imp (fun {a b} hab => by rintro rfl; rw [less_irr] at hab; cases hab) h

theorem up_rise {l : List (List Nat)} (h : Up l) : riseB l = true := by
  unfold riseB
  rw [List.all_eq_true]
  intro i hi
  simp at hi
  cases i with
  | zero => simp [risR]
  | succ i =>
    have := List.pairwise_iff_getElem.1 h i (i + 1) (by omega) hi (by omega)
    simp [risR, show i < l.length by omega, hi, this]

theorem call74 {H : Heap} {h : Hd} {ns ks : AVal} (hn : ns.cells? = some [ns]) (hk : ks.cells? = some [ks]) : Call 74 [.agg [.i .i64 h.kind, ns, ks, .b h.opn]] H fun v H' => H.nx + 2 = H'.nx ∧ Ex H H' ∧ v = .agg (tyC h ns ks) := by
  refine Call.by (a := a74) rfl (by simp [a74]) ?_
  simp [r74_0, r74_1, c74, a74, hn, hk, aLoad, aStore, Heap.get_push, Heap.get_put, aFill, splice, tyC]
  exact (((Ex.refl H).push _).push _).put (Nat.le_succ _) _

def kidI (n : Nat) (k : Int) : Bool := !(decide (k < 0) || decide ((n : Int) ≤ k))
def headI (n : Nat) (h : Hd) : Bool := !(h.kind == 10 || !riseB h.names) && h.kids.all (kidI n) && typB h

theorem reg44_6 {T : Tm} {H : Heap} {Q : Post} {n : Nat} {k : Int} (h1 : T.get 1 = some (.i .i64 (n : Int))) (h6 : T.get 6 = some (.i .i64 k))
    (hQ : ∀ T', Keep [1, 2, 20, 21, 22] T T' → T'.get 32 = some (.b (!kidI n k)) → Q .normal T' H) : runO r44_6 T H Q := by
  by_cases b1 : k < 0
  · simp [r44_6, h1, h6, b1]
    apply hQ <;> simp [Keep, kidI, b1]
  · by_cases b2 : (n : Int) ≤ k
    · simp [r44_6, h1, h6, b1, b2]
      apply hQ <;> simp [Keep, kidI, b1, b2]
    · simp [r44_6, h1, h6, b1, b2]
      apply hQ <;> simp [Keep, kidI, b1, b2]

theorem lp44_0 {T : Tm} {H : Heap} {Q : Post} {n : Nat} {ks : AVal} {l : List Int} (hk : Ints H ks l) (hm : l.length < 4611686018427387904) (h1 : T.get 1 = some (.i .i64 (n : Int))) (h20 : T.get 20 = some ks) (h21 : T.get 21 = some (.i .i64 (l.length : Int))) (h22 : T.get 22 = some (.i .i64 0))
    (hok : l.all (kidI n) = true → ∀ T', Keep [1, 2] T T' → Q (.exit 0) T' H) (hno : l.all (kidI n) = false → ∀ T', T'.get 4 = some (.b false) → Q .ret T' H) : Loop l44_0 T H Q := by
  refine Loop.by (fun k T' H' => H' = H ∧ Keep [1, 2, 20, 21] T T' ∧ ∃ j : Nat, j + k = l.length ∧ T'.get 22 = some (.i .i64 (j : Int)) ∧ l.all (kidI n) = (l.drop j).all (kidI n)) l.length ?_ ?_
  · exact ⟨rfl, fun t _ => rfl, 0, by simp, h22, by simp⟩
  · rintro k T1 H1 ⟨rfl, hkp, j, hjk, g22, hf⟩
    have k1 := (hkp 1 (by simp)).trans h1
    have k2 := hkp 2 (by simp)
    have k20 := (hkp 20 (by simp)).trans h20
    have k21 := (hkp 21 (by simp)).trans h21
    by_cases hj : j < l.length
    · obtain ⟨x, hx⟩ : ∃ y, l[j]? = some y := ⟨_, List.getElem?_eq_getElem hj⟩
      have hlt : (j : Int) < (l.length : Int) := by omega
      rw [drop_at hx, List.all_cons] at hf
      simp [l44_0, r44_4, r44_5, k20, k21, g22, hlt, sidx_at hk.len' hj, hk.get hx]
      refine reg44_6 (n := n) (k := x) (by simp [k1]) (by simp) fun T2 hk2 h32 => ?_
      have m1 := hk2 1 (by simp)
      have m2 := hk2 2 (by simp)
      have m20 := hk2 20 (by simp)
      have m21 := hk2 21 (by simp)
      have m22 := hk2 22 (by simp)
      simp at m1 m2 m20 m21 m22
      cases hb : kidI n x with
      | false =>
        rw [hb] at h32 hf
        simp [h32, r44_7]
        exact hno (by rw [hf]; simp) _ (by simp)
      | true =>
        rw [hb, Bool.true_and] at hf
        rw [hb] at h32
        simp [h32, r44_8, m22, g22, b_inc (show j < 4611686018427387904 by omega)]
        refine ⟨k - 1, by omega, fun t ht => ?_, j + 1, by omega, rfl, hf⟩
        simp at ht
        rcases ht with rfl | rfl | rfl | rfl <;> simp [m1, m2, m20, m21, k1, k2, k20, k21, h1, h20, h21]
    · have hlt : ¬ (j : Int) < (l.length : Int) := by omega
      have he : l.drop j = [] := List.drop_eq_nil_of_le (by omega)
      rw [he] at hf
      simp only [List.all_nil] at hf
      simp [l44_0, r44_4, k20, k21, g22, hlt]
      refine hok hf _ fun t ht => ?_
      simp at ht
      rcases ht with rfl | rfl <;> simp [k1, k2, h1]

/-- The type and the tree, half made. -/
structure S44 (A H : Heap) (q7 q8 qx qy qn : Nat) (h : Hd) (ns kv types : AVal) (n j : Nat) : Prop where
  ex : Ex A H
  a7 : A.nx ≤ q7
  a8 : q7 < qx ∧ qx < qy ∧ qy < qn ∧ qn < q8 ∧ q8 < H.nx
  o7 : H.get q7 = some (.row [.i .i64 h.kind, .i .i64 0, .s [], ns, kv, .b h.opn] true)
  o8 : H.get q8 = some (.row [.sl qn 0 2 (some 2) 8, types, .nsl] true)
  bk : Buf H 1 kv j ((List.range j).map fun (i : Nat) => AVal.i .i64 (i : Int))
  bt : Buf H 6 types j ((List.replicate j intT).flatten)
  sk : ∀ i, sid kv = some i → q8 < i
  st : ∀ i, sid types = some i → q8 < i ∧ sid kv ≠ some i
  ox : H.get qx = some (.row [.i .i64 0] true)
  oy : H.get qy = some (.row [.i .i64 (n : Int)] true)
  on : H.get qn = some (.row (nodeA ++ nodeB (.sl qx 0 1 (some 1) 1) (.sl qy 0 1 (some 1) 1)) true)

theorem flat_len (j : Nat) : ((List.replicate j intT).flatten).length = j * 6 := by
  induction j with
  | zero => rfl
  | succ j ih => rw [List.replicate_succ, List.flatten_cons, List.length_append, ih]; simp [intT]; omega

theorem S44.kid {A H : Heap} {q7 q8 qx qy qn : Nat} {h : Hd} {ns kv types : AVal} {n j : Nat} (s : S44 A H q7 q8 qx qy qn h ns kv types n j) (hj : j < 1000000) :
    ∃ kv' H' H'', aApp (H.push (.row [.i .i64 (j : Int)] true)) 1 8 kv (.sl H.nx 0 1 (some 1) 1) = some (kv', H') ∧ aStore H' (.p q7 4) kv' 1 = some H'' ∧ H''.nx = H.nx + 2 ∧
      ∃ types' H3 H4, aApp (H''.push (.row intT true)) 6 88 types (.sl H''.nx 0 1 (some 1) 6) = some (types', H3) ∧ aStore H3 (.p q8 1) types' 1 = some H4 ∧ aLoad H'' (.p q8 1) 1 false = some types ∧ H.nx ≤ H4.nx ∧ S44 A H4 q7 q8 qx qy qn h ns kv' types' n (j + 1) := by
  obtain ⟨b1, b2, b3, b4, b5⟩ := s.a8
  have a7 := s.a7
  obtain ⟨kv', H', e1, e2, e3, e4, e5⟩ := s.bk.app1 (bytes := 8) (news := [.i .i64 (j : Int)]) rfl (by omega) (by omega)
  have old1 : ∀ i, i ≤ q8 → H'.get i = H.get i := fun i hi => e5 i (by omega) fun hs => by have := s.sk i hs; omega
  have hst : aStore H' (.p q7 4) kv' 1 = some (H'.put q7 (.row [.i .i64 h.kind, .i .i64 0, .s [], ns, kv', .b h.opn] true)) := by
    rw [e4]
    simp [aStore, old1 q7 (by omega), s.o7, splice]
  refine ⟨kv', H', _, e1, hst, by rw [nx_put', e3], ?_⟩
  obtain ⟨G, hG⟩ : ∃ G, G = H'.put q7 (.row [.i .i64 h.kind, .i .i64 0, .s [], ns, kv', .b h.opn] true) := ⟨_, rfl⟩
  rw [← hG]
  have gn : G.nx = H.nx + 2 := by rw [hG, nx_put', e3]
  have gold : ∀ i, i ≤ q8 → i ≠ q7 → G.get i = H.get i := fun i hi hne => by rw [hG, Heap.get_put, if_neg hne]; exact old1 i hi
  have g7 : G.get q7 = some (.row [.i .i64 h.kind, .i .i64 0, .s [], ns, kv', .b h.opn] true) := by rw [hG, Heap.get_put, if_pos rfl]
  have bt1 : Buf G 6 types j ((List.replicate j intT).flatten) := s.bt.keep (by omega) fun i hi => by
    obtain ⟨h1, h2⟩ := s.st i hi
    rw [hG, Heap.get_put, if_neg (by omega)]
    exact e5 i (s.bt.sid_lt hi) h2
  have bk1 : Buf G 1 kv' (j + 1) ((List.range j).map (fun (i : Nat) => AVal.i .i64 (i : Int)) ++ [.i .i64 (j : Int)]) := e2.keep (by rw [hG]; exact Nat.le_refl _) fun i hi => by
    rw [e4] at hi; simp [sid] at hi
    rw [hG, Heap.get_put, if_neg (by omega)]
  obtain ⟨types', H3, f1, f2, f3, f4, f5⟩ := bt1.app1 (bytes := 88) (news := intT) rfl (by omega) (by omega)
  have old3 : ∀ i, i ≤ q8 → H3.get i = G.get i := fun i hi => f5 i (by omega) fun hs => by have := (s.st i hs).1; omega
  have hst2 : aStore H3 (.p q8 1) types' 1 = some (H3.put q8 (.row [.sl qn 0 2 (some 2) 8, types', .nsl] true)) := by
    rw [f4]
    simp [aStore, old3 q8 (by omega), gold q8 (by omega) (by omega), s.o8, splice]
  have hold : ∀ i, i < q8 → i ≠ q7 → (H3.put q8 (.row [.sl qn 0 2 (some 2) 8, types', .nsl] true)).get i = H.get i := fun i hi hne => by
    rw [Heap.get_put, if_neg (by omega), old3 i (by omega), gold i (by omega) hne]
  refine ⟨types', H3, _, f1, hst2, ?_, by rw [nx_put', f3]; omega, ?_⟩
  · rw [load_row (by rw [gold q8 (by omega) (by omega)]; exact s.o8)]; rfl
  · refine ⟨⟨by rw [nx_put', f3]; have := s.ex.nx; omega, fun i hi o ho => ?_⟩, a7, ⟨b1, b2, b3, b4, by rw [nx_put', f3]; omega⟩, ?_, by rw [Heap.get_put, if_pos rfl], ?_, ?_, ?_, ?_, ?_, ?_, ?_⟩
    · rw [hold i (by omega) (by omega)]; exact s.ex.get i hi o ho
    · rw [Heap.get_put, if_neg (by omega), old3 q7 (by omega)]; exact g7
    · have : Buf (H3.put q8 (.row [.sl qn 0 2 (some 2) 8, types', .nsl] true)) 1 kv' (j + 1) ((List.range j).map (fun (i : Nat) => AVal.i .i64 (i : Int)) ++ [.i .i64 (j : Int)]) := bk1.keep (by rw [nx_put', f3]; omega) fun i hi => by
        rw [e4] at hi; simp [sid] at hi
        rw [Heap.get_put, if_neg (by omega)]
        refine f5 i (by omega) fun hs => ?_
        have := s.bt.sid_lt hs
        omega
      rw [List.range_succ, List.map_append]
      exact this
    · have : Buf (H3.put q8 (.row [.sl qn 0 2 (some 2) 8, types', .nsl] true)) 6 types' (j + 1) ((List.replicate j intT).flatten ++ intT) := f2.keep (by rw [nx_put']; exact Nat.le_refl _) fun i hi => by
        rw [f4] at hi; simp [sid] at hi
        rw [Heap.get_put, if_neg (by omega)]
      rw [List.replicate_succ', List.flatten_append]
      simpa using this
    · intro i hi; rw [e4] at hi; simp [sid] at hi; omega
    · intro i hi; rw [f4] at hi; simp [sid] at hi
      rw [e4]; simp [sid]; omega
    · rw [hold qx (by omega) (by omega)]; exact s.ox
    · rw [hold qy (by omega) (by omega)]; exact s.oy
    · rw [hold qn (by omega) (by omega)]; exact s.on

theorem lp44_1 {A H : Heap} {T : Tm} {Q : Post} {q7 q8 qx qy qn : Nat} {h : Hd} {ns kv types : AVal} {n : Nat} (s : S44 A H q7 q8 qx qy qn h ns kv types n 0) (hn : n < 1000000)
    (h7 : T.get 7 = some (.p q7 0)) (h8 : T.get 8 = some (.p q8 0)) (h48 : T.get 48 = some (.i .i64 (n : Int))) (h49 : T.get 49 = some (.i .i64 0))
    (hQ : ∀ T' H' kv' types', Keep [7, 8] T T' → S44 A H' q7 q8 qx qy qn h ns kv' types' n n → Q (.exit 2) T' H') : Loop l44_1 T H Q := by
  refine Loop.by (fun k T' H' => Keep [7, 8, 48] T T' ∧ ∃ j : Nat, j + k = n ∧ T'.get 49 = some (.i .i64 (j : Int)) ∧ ∃ kv' types', S44 A H' q7 q8 qx qy qn h ns kv' types' n j) n ?_ ?_
  · exact ⟨fun t _ => rfl, 0, by omega, h49, kv, types, s⟩
  · rintro k T1 H1 ⟨hkp, j, hjk, g49, kv1, ty1, s1⟩
    have k7 := (hkp 7 (by simp)).trans h7
    have k8 := (hkp 8 (by simp)).trans h8
    have k48 := (hkp 48 (by simp)).trans h48
    by_cases hj : j < n
    · have hlt : (j : Int) < (n : Int) := by omega
      obtain ⟨kv', H', H'', e1, e2, e3, types', H3, H4, f1, f2, f3, f4, s4⟩ := s1.kid (by omega)
      have l7 := load_row (o := 4) (n := 1) s1.o7
      unfold intT at f1
      simp [l44_1, r44_13, r44_14, k48, g49, hlt]
      simp [r44_15, k7, l7, e1, e2]
      simp [r44_16, k8, f3, aFill, splice, f1, f2]
      simp [r44_17, g49, k7, k8, k48, b_inc (show j < 4611686018427387904 by omega)]
      refine ⟨k - 1, by omega, fun t ht => ?_, j + 1, by omega, by simp, kv', types', s4⟩
      simp at ht
      rcases ht with rfl | rfl | rfl <;> simp [k7, k8, k48, h7, h8, h48]
    · have hlt : ¬ (j : Int) < (n : Int) := by omega
      have hjn : j = n := by omega
      subst hjn
      simp [l44_1, r44_13, k48, g49]
      refine hQ _ _ kv1 ty1 (fun t ht => ?_) s1
      simp at ht
      rcases ht with rfl | rfl <;> simp [k7, k8, h7, h8]

theorem typB_nil (h : Hd) (l : List Int) (hl : l.length = h.kids.length) : typB { h with kids := l } = typB h := by
  simp only [typB, hl]

theorem call44 {A : Heap} {h : Hd} {c : List AVal} {m : Nat} (hh : HdOf A c h) (hnl : h.names.length < 2305843009213693952) (hms : ∀ s ∈ h.names, s.length < 4611686018427387904) (hk : h.kids.length < 60000) :
    Call 44 [.agg c, .i .i64 (m : Int)] A fun v H' => H' = A ∧ v = .b (headI m h) := by
  refine Call.forget ?_
  obtain ⟨ns, ks, rfl, hns, hks⟩ := hh
  refine Call.by (a := a44) rfl (by simp [a44]) ?_
  simp [a44, c44, r44_0]
  obtain ⟨H1, hH1⟩ : ∃ H1, H1 = A.push (.row [.i .i64 h.kind, ns, ks, .b h.opn] true) := ⟨_, rfl⟩
  have hg : H1.get A.nx = some (.row [.i .i64 h.kind, ns, ks, .b h.opn] true) := by rw [hH1]; simp
  have he : Ex A H1 := by rw [hH1]; exact (Ex.refl A).push _
  have hn1 : H1.nx = A.nx + 1 := by rw [hH1]; rfl
  rw [← hH1]
  cases h10 : h.kind == 10 with
  | true =>
    simp [r44_1, r44_2, load_row hg, h10]
    exact ⟨he, rfl, by simp [headI, h10]⟩
  | false =>
    simp [r44_1, load_row hg, h10]
    refine Call.is (call73 (hns.ex he) (by omega)) ?_
    cases hr : riseB h.names with
    | false =>
      simp [kC, r44_2]
      exact ⟨he, rfl, by simp [headI, hr]⟩
    | true =>
      simp [kC, r44_3, load_row hg, hks.len']
      refine lp44_0 (n := m) (hks.ex he) (by omega) (by simp) (by simp) (by simp) (by simp) (fun hK T1 hk1 => ?_) (fun hK T1 h4 => ?_)
      · have k1 := hk1 1 (by simp)
        have k2 := hk1 2 (by simp)
        simp at k1 k2
        have ld4 : aLoad H1 (.p A.nx 0) 4 true = some (.agg [.i .i64 h.kind, ns, ks, .b h.opn]) := by
          rw [load_agg (o := 0) (n := 4) hg (by simp)]; simp
        simp [r44_9, k2, ld4]
        refine Call.mono (call74 hns.cells hks.cells) ?_
        rintro v H2 _ ⟨hn2, he2, rfl⟩
        have hst : aStore (H2.push (.row [.i .i64 0, .i .i64 0, .s [], .nsl, .nsl, .b false] true)) (.p H2.nx 0) (.agg (tyC h ns ks)) 6 = some ((H2.push (.row [.i .i64 0, .i .i64 0, .s [], .nsl, .nsl, .b false] true)).put H2.nx (.row (tyC h ns ks) true)) := by
          simp [aStore, splice, tyC]
        simp [kC, hst]
        obtain ⟨H3, hH3⟩ : ∃ H3, H3 = ((H2.push (.row [.i .i64 0, .i .i64 0, .s [], .nsl, .nsl, .b false] true)).put H2.nx (.row (tyC h ns ks) true)) := ⟨_, rfl⟩
        have he3 : Ex H2 H3 := by rw [hH3]; exact ((Ex.refl H2).push _).put (Nat.le_refl _) _
        have hn3 : H3.nx = H2.nx + 1 := by rw [hH3]; rfl
        have g7 : H3.get H2.nx = some (.row (tyC h ns ks) true) := by rw [hH3, Heap.get_put, if_pos rfl]
        rw [← hH3]
        have heA3 := (he.trans he2).trans he3
        have hg3 := he3.get _ (by omega) _ (he2.get _ (by omega) _ hg)
        -- the tree
        obtain ⟨P1, hP1⟩ : ∃ P, P = H3.push (.row [.i .i64 0] true) := ⟨_, rfl⟩
        obtain ⟨P2, hP2⟩ : ∃ P, P = P1.push (.row [.i .i64 (h.kids.length : Int)] true) := ⟨_, rfl⟩
        obtain ⟨P3, hP3⟩ : ∃ P, P = P2.push (.row (nodeA ++ nodeB (.sl H3.nx 0 1 (some 1) 1) (.sl P1.nx 0 1 (some 1) 1)) true) := ⟨_, rfl⟩
        obtain ⟨P4, hP4⟩ : ∃ P, P = P3.push (.row [.sl P2.nx 0 2 (some 2) 8, .nsl, .nsl] true) := ⟨_, rfl⟩
        have p1 : P1.nx = H3.nx + 1 := by rw [hP1]; rfl
        have p2 : P2.nx = H3.nx + 2 := by rw [hP2, nx_push', p1]
        have p3 : P3.nx = H3.nx + 3 := by rw [hP3, nx_push', p2]
        have p4 : P4.nx = H3.nx + 4 := by rw [hP4, nx_push', p3]
        have hgP1 : P1.get A.nx = some (.row [.i .i64 h.kind, ns, ks, .b h.opn] true) := by rw [hP1, get_push_old (by omega)]; exact hg3
        have hbs : ∀ T : Tm, T.get 36 = some (.agg nodeA) → T.get 42 = some (.agg (nodeB (.sl H3.nx 0 1 (some 1) 1) (.sl P1.nx 0 1 (some 1) 1))) → aNew T (.bsl 8 2 [(.i .i64 0), (.i .i64 0), (.s []), (.i .i64 0), (.i .u64 0), .nsl, .nsl, .nsl] [(0, (.t 36)), (1, (.t 42))]) = some (.row (nodeA ++ nodeB (.sl H3.nx 0 1 (some 1) 1) (.sl P1.nx 0 1 (some 1) 1)) true, fun i => .sl i 0 2 (some 2) 8) := by
          intro T h1 h2
          rw [n_bsl]
          simp [h1, h2, aFill, nodeA, nodeB, splice]
        unfold nodeA nodeB at hbs
        have hst4 : aStore (P3.push (.row [.nsl, .nsl, .nsl] true)) (.p P3.nx 0) (.agg [.sl P2.nx 0 2 (some 2) 8, .nsl, .nsl]) 3 = some ((P3.push (.row [.nsl, .nsl, .nsl] true)).put P3.nx (.row [.sl P2.nx 0 2 (some 2) 8, .nsl, .nsl] true)) := by
          simp [aStore, splice]
        simp [r44_10, aFill, splice, k2]
        rw [← hP1]
        simp [load_row hgP1, hks.len']
        rw [← hP2]
        simp [aFill, splice, p1]
        rw [hbs _ (by simp) (by simp [p1])]
        simp [aFill, splice]
        simp only [nodeA, nodeB, List.cons_append, List.nil_append] at hP3
        rw [← hP3, show P2.nx + 1 = P3.nx by omega, hst4]
        obtain ⟨G0, hG0⟩ : ∃ G, G = (P3.push (.row [.nsl, .nsl, .nsl] true)).put P3.nx (.row [.sl P2.nx 0 2 (some 2) 8, .nsl, .nsl] true) := ⟨_, rfl⟩
        have gn0 : G0.nx = P3.nx + 1 := by rw [hG0]; rfl
        have gold : ∀ i, i < P3.nx → G0.get i = P3.get i := fun i hi => by rw [hG0, Heap.get_put, if_neg (by omega), get_push_old hi]
        have go8 : G0.get P3.nx = some (.row [.sl P2.nx 0 2 (some 2) 8, .nsl, .nsl] true) := by rw [hG0, Heap.get_put, if_pos rfl]
        have pn : P3.get P2.nx = some (.row (nodeA ++ nodeB (.sl H3.nx 0 1 (some 1) 1) (.sl P1.nx 0 1 (some 1) 1)) true) := by rw [hP3]; simp [nodeA, nodeB]
        have py : P3.get P1.nx = some (.row [.i .i64 (h.kids.length : Int)] true) := by rw [hP3, get_push_old (by omega), hP2]; simp
        have px : P3.get H3.nx = some (.row [.i .i64 0] true) := by rw [hP3, get_push_old (by omega), hP2, get_push_old (by omega), hP1]; simp
        have pold : ∀ i, i < H3.nx → P3.get i = H3.get i := fun i hi => by rw [hP3, get_push_old (by omega), hP2, get_push_old (by omega), hP1, get_push_old hi]
        have go7 : G0.get H2.nx = some (.row (tyC h ns ks) true) := by rw [gold _ (by omega), pold _ (by omega)]; exact g7
        rw [← hG0]
        have hst5 : aStore G0 (.p H2.nx 4) .nsl 1 = some (G0.put H2.nx (.row (tyC h ns .nsl) true)) := by
          simp [aStore, go7, tyC, splice]
        obtain ⟨G1, hG1⟩ : ∃ G, G = G0.put H2.nx (.row (tyC h ns .nsl) true) := ⟨_, rfl⟩
        have gn1 : G1.nx = P3.nx + 1 := by rw [hG1, nx_put', gn0]
        have g1old : ∀ i, i ≠ H2.nx → G1.get i = G0.get i := fun i hi => by rw [hG1, Heap.get_put, if_neg hi]
        have s0 : S44 A G1 H2.nx P3.nx H3.nx P1.nx P2.nx h ns .nsl .nsl h.kids.length 0 := by
          refine ⟨⟨by have := heA3.nx; omega, fun i hi o ho => ?_⟩, by omega, ⟨by omega, by omega, by omega, by omega, by omega⟩, by rw [hG1, Heap.get_put, if_pos rfl]; rfl, by rw [g1old _ (by omega)]; exact go8, by simpa using Buf.nil _ _, by simpa using Buf.nil _ _, by simp [sid], by simp [sid], ?_, ?_, ?_⟩
          · rw [g1old _ (by omega), gold _ (by omega), pold _ (by have := heA3.nx; omega)]
            exact heA3.get i hi o ho
          · rw [g1old _ (by omega), gold _ (by omega)]; exact px
          · rw [g1old _ (by omega), gold _ (by omega)]; exact py
          · rw [g1old _ (by omega), gold _ (by omega)]; exact pn
        have hg1 : G1.get A.nx = some (.row [.i .i64 h.kind, ns, ks, .b h.opn] true) := by rw [g1old _ (by omega), gold _ (by omega), pold _ (by omega)]; exact hg3
        simp [r44_11, hst5]
        rw [← hG1]
        simp [r44_12, k2, load_row hg1, hks.len']
        refine lp44_1 s0 (by omega) (by simp) (by simp) (by simp) (by simp) fun T5 H5 kv types hk5 s5 => ?_
        have m7 := hk5 7 (by simp)
        have m8 := hk5 8 (by simp)
        simp at m7 m8
        have o7 := s5.o7
        have o8 := s5.o8
        have ld7 : aLoad H5 (.p H2.nx 0) 6 true = some (.agg (tyC h ns kv)) := by
          rw [load_agg (o := 0) (n := 6) o7 (by simp)]; simp [tyC]
        obtain ⟨types', H6, e1, e2, e3, e4, e5⟩ := s5.bt.app1 (bytes := 88) (news := tyC h ns kv) (by simp [tyC]) (by omega) (by omega)
        obtain ⟨b1, b2, b3, b4, b5⟩ := s5.a8
        have old6 : ∀ i, i ≤ P3.nx → H6.get i = H5.get i := fun i hi => e5 i (by omega) fun hs => by have := (s5.st i hs).1; omega
        have hst6 : aStore H6 (.p P3.nx 1) types' 1 = some (H6.put P3.nx (.row [.sl P2.nx 0 2 (some 2) 8, types', .nsl] true)) := by
          rw [e4]
          simp [aStore, old6 _ (Nat.le_refl _), o8, splice]
        have htc : (tyC h ns kv).length = 6 := by simp [tyC]
        simp [r44_18, m7, m8, load_row o8, ld7, htc, e1, hst6]
        obtain ⟨H7, hH7⟩ : ∃ G, G = H6.put P3.nx (.row [.sl P2.nx 0 2 (some 2) 8, types', .nsl] true) := ⟨_, rfl⟩
        have o87 : H7.get P3.nx = some (.row [.sl P2.nx 0 2 (some 2) 8, types', .nsl] true) := by rw [hH7, Heap.get_put, if_pos rfl]
        have n7 : H7.nx = H5.nx + 2 := by rw [hH7, nx_put', e3]
        have old7 : ∀ i, i < P3.nx → H7.get i = H5.get i := fun i hi => by rw [hH7, Heap.get_put, if_neg (by omega), old6 i (by omega)]
        have he7 : Ex A H7 := ⟨by have := s5.ex.nx; omega, fun i hi o ho => by rw [old7 i (by omega)]; exact s5.ex.get i hi o ho⟩
        have bt7 : Buf H7 6 types' (h.kids.length + 1) ((List.replicate h.kids.length intT).flatten ++ tyC h ns kv) := e2.keep (by rw [hH7]; exact Nat.le_refl _) fun i hi => by
          rw [e4] at hi; simp [sid] at hi
          rw [hH7, Heap.get_put, if_neg (by omega)]
        have bk7 : Buf H7 1 kv h.kids.length ((List.range h.kids.length).map fun (i : Nat) => AVal.i .i64 (i : Int)) := s5.bk.keep (by omega) fun i hi => by
          have h1 := s5.sk i hi
          rw [hH7, Heap.get_put, if_neg (by omega)]
          exact e5 i (s5.bk.sid_lt hi) fun hs => (s5.st i hs).2 hi
        have ld8 : aLoad H7 (.p P3.nx 0) 3 true = some (.agg [.sl P2.nx 0 2 (some 2) 8, types', .nsl]) := by
          rw [load_agg (o := 0) (n := 3) o87 (by simp)]; simp
        have on7 := (old7 P2.nx (by omega)).trans s5.on
        have hdrop : ∀ j, j < h.kids.length → ((((List.replicate h.kids.length intT).flatten ++ tyC h ns kv).drop (j * 6)).take 6) = intT := by
          intro j hj
          have e : h.kids.length = j + (h.kids.length - j - 1 + 1) := by omega
          generalize h.kids.length - j - 1 = d at e
          rw [e, ← List.replicate_append_replicate, List.flatten_append, List.append_assoc, List.drop_append_of_le_length (by rw [flat_len]; exact Nat.le_refl _), List.drop_of_length_le (by rw [flat_len]; exact Nat.le_refl _)]
          simp [List.replicate_succ, intT]
        have hdrop1 : ((((List.replicate h.kids.length intT).flatten ++ tyC h ns kv).drop (h.kids.length * 6)).take 6) = tyC h ns kv := by
          rw [← flat_len, List.drop_left, List.take_of_length_le (by simp [tyC])]
        have ht : Tree H7 (.sl P2.nx 0 2 (some 2) 8) types' (.sl H3.nx 0 1 (some 1) 1) (.sl P1.nx 0 1 (some 1) 1) ns kv { h with kids := (List.range h.kids.length).map Int.ofNat } h.kids.length := by
          refine ⟨rfl, rfl, ?_, ?_, ⟨_, _, _, rfl, by omega⟩, ?_, ?_, bt7.slen, ⟨_, _, _, e4, by omega⟩, fun j hj => ?_, ?_, hns.ex he7, ?_, rfl⟩
          · rw [sptr_sl, load_agg on7 (by simp [nodeA, nodeB])]; simp [nodeA, nodeB]
          · rw [sptr_sl, load_agg on7 (by simp [nodeA, nodeB])]; simp [nodeA, nodeB]
          · exact Sl.all ((old7 H3.nx (by omega)).trans s5.ox) (by omega) rfl
          · exact Sl.all ((old7 P1.nx (by omega)).trans s5.oy) (by omega) rfl
          · rw [bt7.load (by omega), hdrop j hj]
          · rw [bt7.load (by omega), hdrop1]; rfl
          · have := bk7.sl1
            simpa [Ints, Function.comp_def] using this
        rw [← hH7]
        simp [r44_19, m8, ld8]
        refine Call.is (call39 ht hk hnl hms (rise_up hr).nodup h10) ?_
        have htb : typB { h with kids := (List.range h.kids.length).map Int.ofNat } = typB h := typB_nil h _ (by simp)
        rw [htb]
        cases hb : typB h with
        | true =>
          simp [kC]
          exact ⟨he7, rfl, by simp [headI, h10, hr, hK, hb]⟩
        | false =>
          simp [kC]
          exact ⟨he7, rfl, by simp [headI, h10, hr, hK, hb]⟩
      · simp [h4]
        exact ⟨he, rfl, by simp [headI, hK]⟩


theorem headI_iff (n : Nat) (h : Hd) : headI n h = true ↔ (h.kind ≠ 10 ∧ riseB h.names = true) ∧ (∀ k ∈ h.kids, 0 ≤ k ∧ k < n) ∧ typB h = true := by
  simp only [headI, kidI, Bool.and_eq_true, List.all_eq_true, Bool.not_eq_true', Bool.or_eq_false_iff, beq_eq_false_iff_ne, decide_eq_false_iff_not, Int.not_lt, Int.not_le, ne_eq, Bool.not_eq_false']
  constructor
  · rintro ⟨⟨⟨a, b⟩, c⟩, d⟩; exact ⟨⟨a, b⟩, c, d⟩
  · rintro ⟨⟨a, b⟩, c, d⟩; exact ⟨⟨⟨a, b⟩, c⟩, d⟩

theorem kidsR_iff (n : Nat) (h : Hd) : kidsR n h = true ↔ ∀ (i : Nat) (k : Int), h.kids[i]? = some k → (0 ≤ k ∧ k < n) ∧ (0 < h.names.length → i < h.names.length) := by
  unfold kidsR
  rw [List.all_eq_true]
  constructor
  · intro H i k hk
    have hi := (List.getElem?_eq_some_iff.1 hk).1
    have := H i (by simpa using hi)
    rw [hk] at this
    simp only [Option.getD_some, kidR, Bool.not_eq_true', Bool.or_eq_false_iff, decide_eq_false_iff_not, Bool.and_eq_false_iff] at this
    omega
  · intro H i hi
    simp only [List.mem_range] at hi
    obtain ⟨k, hk⟩ : ∃ k, h.kids[i]? = some k := ⟨_, List.getElem?_eq_getElem hi⟩
    have := H i k hk
    rw [hk]
    simp only [Option.getD_some, kidR, Bool.not_eq_true', Bool.or_eq_false_iff, decide_eq_false_iff_not, Bool.and_eq_false_iff]
    omega

theorem namesR_iff (h : Hd) : namesR h = true ↔ riseB h.names = true ∧ ∀ s ∈ h.names, (h.kind = 8 → nameB s = true) ∧ (h.kind = 9 → tagB s = true) := by
  unfold namesR riseB
  simp only [List.all_eq_true, Bool.and_eq_true, List.mem_range]
  constructor
  · intro H
    refine ⟨fun i hi => (H i hi).1, fun s hs => ?_⟩
    obtain ⟨i, hi, rfl⟩ := List.getElem_of_mem hs
    have := (H i hi).2
    rw [List.getElem?_eq_getElem hi, Option.getD_some] at this
    simp only [nmR, Bool.not_eq_true', Bool.or_eq_false_iff, Bool.and_eq_false_iff, beq_eq_false_iff_ne, Bool.not_eq_false'] at this
    exact ⟨fun e => this.1.resolve_left (by simp [e]), fun e => this.2.resolve_left (by simp [e])⟩
  · rintro ⟨H1, H2⟩ i hi
    refine ⟨H1 i hi, ?_⟩
    have := H2 _ (List.getElem_mem hi)
    rw [List.getElem?_eq_getElem hi, Option.getD_some]
    simp only [nmR, Bool.not_eq_true', Bool.or_eq_false_iff, Bool.and_eq_false_iff, beq_eq_false_iff_ne, Bool.not_eq_false']
    refine ⟨?_, ?_⟩
    · by_cases e : h.kind = 8
      · exact .inr (this.1 e)
      · exact .inl e
    · by_cases e : h.kind = 9
      · exact .inr (this.2 e)
      · exact .inl e

/-- A head's shape. -/
def Form (h : Hd) : Prop := (h.opn = true → h.kind = 9) ∧ ((h.kind = 7 ∧ h.names = [] ∧ h.kids.length = 2) ∨ ((h.kind = 8 ∨ h.kind = 9) ∧ h.names.length = h.kids.length) ∨ (0 ≤ h.kind ∧ h.kind ≤ 6 ∧ h.names = [] ∧ h.kids = []))

theorem formR_iff (h : Hd) : formR h = true ↔ Form h := by
  unfold formR cntR Form
  by_cases h7 : h.kind = 7
  · simp only [h7, beq_self_eq_true, if_true, Bool.not_eq_true', Bool.or_eq_false_iff, bne_eq_false_iff_eq, Bool.and_eq_false_iff]
    constructor
    · rintro ⟨⟨a, b⟩, c⟩
      refine ⟨fun ho => ?_, .inl ⟨trivial, List.eq_nil_of_length_eq_zero (by omega), by omega⟩⟩
      rcases c with c | c
      · rw [c] at ho; cases ho
      · exact absurd c (by decide)
    · rintro ⟨a, b⟩
      rcases b with ⟨_, b, c⟩ | ⟨b, _⟩ | ⟨_, b, _⟩
      · refine ⟨⟨by omega, by simp [b]⟩, ?_⟩
        cases ho : h.opn with
        | false => exact .inl rfl
        | true => exact absurd (a ho) (by decide)
      · omega
      · omega
  · have e7 : (h.kind == 7) = false := by simpa using h7
    by_cases h89 : h.kind = 8 ∨ h.kind = 9
    · have e89 : (h.kind == 8 || h.kind == 9) = true := by simpa using h89
      simp only [e7, e89, Bool.false_eq_true, if_false, if_true, Bool.not_eq_true', Bool.or_eq_false_iff, bne_eq_false_iff_eq, Bool.and_eq_false_iff]
      constructor
      · rintro ⟨⟨a, b⟩, c⟩
        refine ⟨fun ho => ?_, .inr (.inl ⟨h89, by omega⟩)⟩
        rcases c with c | c
        · rw [c] at ho; cases ho
        · exact c
      · rintro ⟨a, b⟩
        rcases b with ⟨b, _⟩ | ⟨_, b⟩ | ⟨b0, b6, _⟩
        · exact absurd b h7
        · refine ⟨⟨by omega, trivial⟩, ?_⟩
          cases ho : h.opn with
          | false => exact .inl rfl
          | true => exact .inr (a ho)
        · omega
    · have e89 : (h.kind == 8 || h.kind == 9) = false := by simp only [not_or] at h89; simp [h89]
      by_cases hr : 0 ≤ h.kind ∧ h.kind ≤ 6
      · have er : (decide (h.kind < 0) || decide ((6 : Int) < h.kind)) = false := by simp; omega
        simp only [e7, e89, er, Bool.false_eq_true, if_false, Bool.not_eq_true', Bool.or_eq_false_iff, bne_eq_false_iff_eq, Bool.and_eq_false_iff]
        constructor
        · rintro ⟨⟨a, b⟩, c⟩
          refine ⟨fun ho => ?_, .inr (.inr ⟨hr.1, hr.2, List.eq_nil_of_length_eq_zero (by omega), List.eq_nil_of_length_eq_zero (by omega)⟩)⟩
          rcases c with c | c
          · rw [c] at ho; cases ho
          · exact c
        · rintro ⟨a, b⟩
          rcases b with ⟨b, _⟩ | ⟨b, _⟩ | ⟨_, _, b, c⟩
          · exact absurd b h7
          · exact absurd b h89
          · refine ⟨⟨by simp [c], by simp [b]⟩, ?_⟩
            cases ho : h.opn with
            | false => exact .inl rfl
            | true => exact .inr (a ho)
      · have er : (decide (h.kind < 0) || decide ((6 : Int) < h.kind)) = true := by simp; omega
        simp only [e7, e89, er, Bool.false_eq_true, if_false, if_true, false_iff]
        rintro ⟨a, b⟩
        rcases b with ⟨b, _⟩ | ⟨b, _⟩ | ⟨b, c, _⟩
        · exact h7 b
        · exact h89 b
        · exact hr ⟨b, c⟩

theorem typB_iff (h : Hd) (h10 : h.kind ≠ 10) : typB h = true ↔ Form h ∧ ∀ s ∈ h.names, (h.kind = 8 → nameB s = true) ∧ (h.kind = 9 → tagB s = true) := by
  unfold typB Form
  have ho : ((!(h.opn && h.kind != 9)) = true) ↔ (h.opn = true → h.kind = 9) := by
    cases h.opn <;> simp
  rw [Bool.and_eq_true, ho]
  by_cases h7 : h.kind = 7
  · simp only [h7, beq_self_eq_true, if_true, Bool.and_eq_true, beq_iff_eq]
    constructor
    · rintro ⟨a, b, c⟩
      exact ⟨⟨a, .inl ⟨trivial, List.eq_nil_of_length_eq_zero (by omega), by omega⟩⟩, fun s _ => ⟨by omega, by omega⟩⟩
    · rintro ⟨⟨a, b⟩, _⟩
      rcases b with ⟨_, b, c⟩ | ⟨b, _⟩ | ⟨_, b, _⟩
      · exact ⟨a, by simp [b], by omega⟩
      · omega
      · omega
  · have e7 : (h.kind == 7) = false := by simpa using h7
    by_cases h8 : h.kind = 8
    · have e8 : (h.kind == 8) = true := by simpa using h8
      simp only [e7, e8, Bool.false_eq_true, if_false, if_true, Bool.and_eq_true, beq_iff_eq, List.all_eq_true]
      constructor
      · rintro ⟨a, b, c⟩
        exact ⟨⟨a, .inr (.inl ⟨.inl h8, by omega⟩)⟩, fun s hs => ⟨fun _ => c s hs, by omega⟩⟩
      · rintro ⟨⟨a, b⟩, c⟩
        rcases b with ⟨b, _⟩ | ⟨_, b⟩ | ⟨_, b, _⟩
        · omega
        · exact ⟨a, by omega, fun s hs => (c s hs).1 h8⟩
        · omega
    · have e8 : (h.kind == 8) = false := by simpa using h8
      by_cases h9 : h.kind = 9
      · have e9 : (h.kind == 9) = true := by simpa using h9
        simp only [e7, e8, e9, Bool.false_eq_true, if_false, if_true, Bool.and_eq_true, beq_iff_eq, List.all_eq_true]
        constructor
        · rintro ⟨a, b, c⟩
          exact ⟨⟨a, .inr (.inl ⟨.inr h9, by omega⟩)⟩, fun s hs => ⟨by omega, fun _ => c s hs⟩⟩
        · rintro ⟨⟨a, b⟩, c⟩
          rcases b with ⟨b, _⟩ | ⟨_, b⟩ | ⟨_, b, _⟩
          · omega
          · exact ⟨a, by omega, fun s hs => (c s hs).2 h9⟩
          · omega
      · have e9 : (h.kind == 9) = false := by simpa using h9
        simp only [e7, e8, e9, Bool.false_eq_true, if_false, Bool.and_eq_true, beq_iff_eq, decide_eq_true_eq]
        constructor
        · rintro ⟨a, ⟨b, c⟩, d⟩
          exact ⟨⟨a, .inr (.inr ⟨b, c, List.eq_nil_of_length_eq_zero (by omega), List.eq_nil_of_length_eq_zero (by omega)⟩)⟩, fun s _ => ⟨by omega, by omega⟩⟩
        · rintro ⟨⟨a, b⟩, _⟩
          rcases b with ⟨b, _⟩ | ⟨b, _⟩ | ⟨b, c, d, e⟩
          · exact absurd b h7
          · rcases b with b | b
            · exact absurd b h8
            · exact absurd b h9
          · exact ⟨a, ⟨b, c⟩, by simp [d, e]⟩

theorem headI_R (n : Nat) (h : Hd) : headI n h = headR n h := by
  rw [Bool.eq_iff_iff, headI_iff]
  unfold headR
  rw [Bool.and_eq_true, Bool.and_eq_true, kidsR_iff, namesR_iff, formR_iff]
  constructor
  · rintro ⟨⟨h10, hr⟩, hk, ht⟩
    obtain ⟨hF, hn⟩ := (typB_iff h h10).1 ht
    refine ⟨⟨fun i k hik => ⟨hk k (List.mem_of_getElem? hik), fun hp => ?_⟩, hr, hn⟩, hF⟩
    have hi := (List.getElem?_eq_some_iff.1 hik).1
    rcases hF.2 with ⟨_, b, _⟩ | ⟨_, b⟩ | ⟨_, _, b, _⟩
    · simp [b] at hp
    · omega
    · simp [b] at hp
  · rintro ⟨⟨hk, hr, hn⟩, hF⟩
    have h10 : h.kind ≠ 10 := by
      rcases hF.2 with ⟨b, _⟩ | ⟨b, _⟩ | ⟨_, b, _⟩ <;> omega
    refine ⟨⟨h10, hr⟩, fun k hkm => ?_, (typB_iff h h10).2 ⟨hF, hn⟩⟩
    obtain ⟨i, hi, rfl⟩ := List.getElem_of_mem hkm
    exact (hk i _ (List.getElem?_eq_getElem hi)).1

theorem reg28_1 {T : Tm} {H : Heap} {Q : Post} {g0 n : Nat} {l : AVal} {root : Int} (h1 : T.get 1 = some (.p g0 0)) (hl : aLoad H (.p g0 0) 1 false = some l) (hr : aLoad H (.p g0 1) 1 false = some (.i .i64 root)) (hn : slen l = some n)
    (hQ : ∀ T', Keep [1] T T' → T'.get 27 = some (.b ((n : Int) == 0 || decide ((4096 : Int) < n) || decide (root < 0) || decide ((n : Int) ≤ root))) → Q .normal T' H) : runO r28_1 T H Q := by
  cases b1 : (n : Int) == 0 with
  | true =>
    simp [r28_1, h1, hl, hr, hn, b1]
    apply hQ <;> simp [Keep, b1]
  | false =>
    by_cases b2 : (4096 : Int) < n
    · simp [r28_1, h1, hl, hr, hn, b1, b2]
      apply hQ <;> simp [Keep, b1, b2]
    · by_cases b3 : root < 0
      · simp [r28_1, h1, hl, hr, hn, b1, b2, b3]
        apply hQ <;> simp [Keep, b1, b2, b3]
      · simp [r28_1, h1, hl, hr, hn, b1, b2, b3]
        apply hQ <;> simp [Keep, b1, b2, b3]

/-- What may be asked of a graph's sizes. -/
def Fits (g : Gr) : Prop := ∀ h ∈ g.l, h.names.length < 60000 ∧ h.kids.length < 60000 ∧ ∀ s ∈ h.names, s.length < 60000

theorem call28 {H : Heap} {v : AVal} {g : Gr} (hg : GrOf H v g) (hf : Fits g) (hm : g.l.length < 4611686018427387904) :
    Call 28 [v] H fun v H' => H' = H ∧ v = .i .i64 (if rightB g then 0 else 14) := by
  refine Call.forget ?_
  obtain ⟨l, rfl, hl⟩ := hg
  refine Call.by (a := a28) rfl (by simp [a28]) ?_
  simp [a28, c28, r28_0]
  have hl0 : aLoad (H.push (.row [l, .i .i64 g.root] true)) (.p H.nx 0) 1 false = some l := by simp [aLoad, Heap.get_push]
  have hr0 : aLoad (H.push (.row [l, .i .i64 g.root] true)) (.p H.nx 1) 1 false = some (.i .i64 g.root) := by simp [aLoad, Heap.get_push]
  refine reg28_1 (by simp) hl0 hr0 hl.len fun T0 hk0 h27 => ?_
  have j1 := hk0 1 (by simp)
  simp at j1
  cases hb : ((g.l.length : Int) == 0 || decide ((4096 : Int) < g.l.length) || decide (g.root < 0) || decide ((g.l.length : Int) ≤ g.root)) with
  | true =>
    rw [hb] at h27
    have hR : rightB g = false := by simp only [rightB, hb]; rfl
    simp [h27, r28_2, hR]
    exact ⟨(Ex.refl H).push _, rfl⟩
  | false =>
    rw [hb] at h27
    have hR : rightB g = g.l.all (headR g.l.length) := by simp only [rightB, hb]; rfl
    simp [h27, r28_3, j1, hl0, hl.len]
    refine Loop.by (fun k T H' => Ex H H' ∧ T.get 1 = some (.p H.nx 0) ∧ aLoad H' (.p H.nx 0) 1 false = some l ∧ H.nx < H'.nx ∧ T.get 29 = some l ∧ T.get 30 = some (.i .i64 (g.l.length : Int)) ∧
      ∃ j : Nat, j + k = g.l.length ∧ T.get 31 = some (.i .i64 (j : Int)) ∧ rightB g = (g.l.drop j).all (headR g.l.length)) g.l.length ?_ ?_
    · exact ⟨(Ex.refl H).push _, by simp [j1], hl0, by simp, by simp, by simp, 0, by simp, by simp, by simpa using hR⟩
    · rintro k T H' ⟨he, h1, hl0, hnx, h29, h30, j, hjk, h31, hf'⟩
      by_cases hj : j < g.l.length
      · obtain ⟨hd, hhd⟩ : ∃ y, g.l[j]? = some y := ⟨_, List.getElem?_eq_getElem hj⟩
        have hlt : (j : Int) < (g.l.length : Int) := by omega
        rw [drop_at hhd, List.all_cons] at hf'
        obtain ⟨ns, ks, e1, e2, e3⟩ := (hl.ex he).head hhd
        obtain ⟨hmn1, hmn2, hmn3⟩ := hf hd (List.mem_of_getElem? hhd)
        have hst : aStore (H'.push (.row [.i .i64 0, .nsl, .nsl, .b false] true)) (.p H'.nx 0) (.agg [.i .i64 hd.kind, ns, ks, .b hd.opn]) 4 = some ((H'.push (.row [.i .i64 0, .nsl, .nsl, .b false] true)).put H'.nx (.row [.i .i64 hd.kind, ns, ks, .b hd.opn] true)) := by
          simp [aStore, splice]
        obtain ⟨H1, hH1⟩ : ∃ H1, H1 = ((H'.push (.row [.i .i64 0, .nsl, .nsl, .b false] true)).put H'.nx (.row [.i .i64 hd.kind, ns, ks, .b hd.opn] true)) := ⟨_, rfl⟩
        have hg4 : H1.get H'.nx = some (.row [.i .i64 hd.kind, ns, ks, .b hd.opn] true) := by rw [hH1, Heap.get_put, if_pos rfl]
        have he0 : Ex H' H1 := by rw [hH1]; exact ((Ex.refl H').push _).put (Nat.le_refl _) _
        have he1 : Ex H H1 := he.trans he0
        have hl1 : aLoad H1 (.p H.nx 0) 1 false = some l := load_ex he0 hnx hl0
        have hn1 : H.nx < H1.nx := Nat.lt_of_lt_of_le hnx he0.nx
        have ld4 : aLoad H1 (.p H'.nx 0) 4 true = some (.agg [.i .i64 hd.kind, ns, ks, .b hd.opn]) := by
          rw [load_agg (o := 0) (n := 4) hg4 (by simp)]; simp
        simp [l28_0, r28_4, r28_5, h29, h30, h31, hlt, sidx_at hl.len hj, e1, hst]
        rw [← hH1]
        simp [r28_6, ld4, h1, hl1, hl.len]
        refine Call.is (call44 (h := hd) ⟨ns, ks, rfl, e2.ex he0, e3.ex he0⟩ (by omega) (fun s hs => by have := hmn3 s hs; omega) hmn2) ?_
        rw [headI_R]
        cases hb : headR g.l.length hd with
        | true =>
          rw [hb, Bool.true_and] at hf'
          simp [kC, r28_8, h31, h1, h29, h30, b_inc (show j < 4611686018427387904 by omega)]
          exact ⟨k - 1, by omega, he1, hl1, hn1, j + 1, by omega, by simp, hf'⟩
        | false =>
          rw [hb, Bool.false_and] at hf'
          simp [kC, r28_7, hf']
          exact ⟨he1, rfl⟩
      · have hlt : ¬ (j : Int) < (g.l.length : Int) := by omega
        have hem : g.l.drop j = [] := List.drop_eq_nil_of_le (by omega)
        rw [hem] at hf'
        simp only [List.all_nil] at hf'
        simp [l28_0, r28_4, r28_9, h29, h30, h31, hlt, hf']
        exact ⟨he, rfl⟩


/-- A table in memory. -/
structure Tab (H : Heap) (v : AVal) (n m : Nat) (f : Nat → Nat → Bool) (i : Nat) (id : Nat → Nat) : Prop where
  sh : v = .sl i 0 n none 1
  hi : i < H.nx
  ho : H.get i = some (.row ((List.range n).map fun r => .sl (id r) 0 m none 1) true)
  hr : ∀ r, r < n → id r < H.nx ∧ id r ≠ i ∧ H.get (id r) = some (.row ((List.range m).map fun c => .b (f r c)) true)
  inj : ∀ r s, r < n → s < n → id r = id s → r = s

/-- The rows that are there. -/
structure Rws (A H : Heap) (v : AVal) (m j : Nat) (id : Nat → Nat) : Prop where
  buf : Buf H 1 v j ((List.range j).map fun r => .sl (id r) 0 m none 1)
  lo : ∀ i, sid v = some i → A.nx ≤ i
  rw' : ∀ r, r < j → A.nx ≤ id r ∧ id r < H.nx ∧ sid v ≠ some (id r) ∧ H.get (id r) = some (.row ((List.range m).map fun _ => .b true) true)
  inj : ∀ r s, r < j → s < j → id r = id s → r = s

theorem map_true (m : Nat) : ((List.range m).map fun _ => AVal.b true) ++ [.b true] = (List.range (m + 1)).map fun _ => AVal.b true := by
  rw [List.range_succ, List.map_append]; rfl

theorem lp33_0 {G H : Heap} {T : Tm} {Q : Post} {m : Nat} {v7 : AVal} (hm : m < 1000000) (h1 : T.get 1 = some (.i .i64 (m : Int))) (h7 : T.get 7 = some v7) (h8 : T.get 8 = some (.i .i64 0)) (hb : Buf H 1 v7 0 []) (he : ∀ i, i < G.nx → H.get i = G.get i) (hn : G.nx ≤ H.nx) (hv : ∀ i, sid v7 = some i → G.nx ≤ i)
    (hQ : ∀ T' H' v, Keep [0, 1, 5, 6] T T' → T'.get 7 = some v → Buf H' 1 v m ((List.range m).map fun _ => .b true) → (∀ i, i < G.nx → H'.get i = G.get i) → G.nx ≤ H'.nx → (∀ i, sid v = some i → G.nx ≤ i) → Q (.exit 2) T' H') : Loop l33_0 T H Q := by
  refine Loop.by (fun k T' H' => Keep [0, 1, 5, 6] T T' ∧ ∃ j : Nat, j + k = m ∧ T'.get 8 = some (.i .i64 (j : Int)) ∧ ∃ v, T'.get 7 = some v ∧ Buf H' 1 v j ((List.range j).map fun _ => .b true) ∧ (∀ i, i < G.nx → H'.get i = G.get i) ∧ G.nx ≤ H'.nx ∧ (∀ i, sid v = some i → G.nx ≤ i)) m ?_ ?_
  · exact ⟨fun t _ => rfl, 0, by omega, h8, v7, h7, by simpa using hb, he, hn, hv⟩
  · rintro k T1 H1 ⟨hk, j, hjk, k8, v, k7, hb1, he1, hn1, hv1⟩
    have k0 := hk 0 (by simp)
    have k1 := (hk 1 (by simp)).trans h1
    have k5 := hk 5 (by simp)
    have k6 := hk 6 (by simp)
    by_cases hj : j < m
    · have hlt : (j : Int) < (m : Int) := by omega
      obtain ⟨v', H', e1, e2, e3, e4, e5⟩ := hb1.app1 (bytes := 1) (news := [.b true]) rfl (by omega) (by omega)
      simp [l33_0, r33_6, r33_7, r33_8, k8, k1, k7, hlt, e1, k8, b_inc (show j < 4611686018427387904 by omega)]
      refine ⟨k - 1, by omega, fun t ht => ?_, j + 1, by omega, by simp, ?_, fun i hi => ?_, by omega, fun i hi => ?_⟩
      · simp at ht
        rcases ht with rfl | rfl | rfl | rfl <;> simp [k0, k1, k5, k6, h1]
      · rw [map_true] at e2; exact e2
      · rw [e5 i (by omega) fun hs => by have := hv1 i hs; omega]; exact he1 i hi
      · rw [e4] at hi; simp [sid] at hi; omega
    · have hlt : ¬ (j : Int) < (m : Int) := by omega
      have hjm : j = m := by omega
      subst hjm
      simp [l33_0, r33_6, k8, k1]
      refine hQ _ _ v (fun t ht => ?_) (by simp [k7]) hb1 he1 hn1 hv1
      simp at ht
      rcases ht with rfl | rfl | rfl | rfl <;> simp [k0, k1, k5, k6, h1]

theorem call33 {A : Heap} {n m : Nat} (hn : n < 1000000) (hm : m < 1000000) (hm0 : 0 < m) (hn0 : 0 < n) :
    Call 33 [.i .i64 (n : Int), .i .i64 (m : Int)] A fun v H' => Ex A H' ∧ ∃ i id, Tab H' v n m (fun _ _ => true) i id ∧ A.nx ≤ i ∧ ∀ r, r < n → A.nx ≤ id r := by
  refine Call.by (a := a33) rfl (by simp [a33]) ?_
  simp [a33, c33, r33_0, r33_1, r33_2]
  refine Loop.by (fun k T H => Ex A H ∧ T.get 0 = some (.i .i64 (n : Int)) ∧ T.get 1 = some (.i .i64 (m : Int)) ∧ ∃ j : Nat, j + k = n ∧ T.get 6 = some (.i .i64 (j : Int)) ∧ ∃ v id, T.get 5 = some v ∧ Rws A H v m j id) n ?_ ?_
  · refine ⟨(Ex.refl A).push _, by simp, by simp, 0, by simp, by simp, .sl A.nx 0 0 (some 0) 1, fun _ => 0, by simp, ?_, by simp [sid], fun r hr => by omega, fun r s hr => by omega⟩
    exact Buf.zero (by simp) (get_push_nx _ _)
  · rintro k T H ⟨he, h0, h1, j, hjk, h6, v, id, h5, hR⟩
    by_cases hj : j < n
    · have hlt : (j : Int) < (n : Int) := by omega
      simp [l33_1, r33_3, r33_4, r33_5, h0, h6, hlt]
      refine lp33_0 (G := H) (m := m) (v7 := .sl H.nx 0 0 (some 0) 1) hm (by simp [h1]) (by simp) (by simp) (Buf.zero (by simp) (get_push_nx _ _)) (fun i hi => get_push_old hi) (by simp) (fun i hi => by simp [sid] at hi; omega) fun T1 H1 w hk1 g7 hb1 he1 hn1 hv1 => ?_
      have m0 := hk1 0 (by simp)
      have m1 := hk1 1 (by simp)
      have m5 := hk1 5 (by simp)
      have m6 := hk1 6 (by simp)
      simp [h0, h1, h5, h6] at m0 m1 m5 m6
      obtain ⟨q, rfl, hq, hgq⟩ := hb1.own hm0
      have hqH : H.nx ≤ q := hv1 q rfl
      have hbv : Buf H1 1 v j ((List.range j).map fun r => .sl (id r) 0 m none 1) := hR.buf.keep hn1 fun i hi => he1 i (hR.buf.sid_lt hi)
      obtain ⟨v', H', e1, e2, e3, e4, e5⟩ := hbv.app1 (bytes := 24) (news := [.sl q 0 m none 1]) rfl (by omega) (by omega)
      simp [r33_9, g7, m5, e1, r33_10, m6, m0, m1, b_inc (show j < 4611686018427387904 by omega)]
      have hex : Ex A H' := ⟨by have := he.nx; omega, fun i hi o ho => by
        have := he.nx
        rw [e5 i (by omega) fun hs => by have := hR.lo i hs; omega, he1 i (by omega)]; exact he.get i hi o ho⟩
      refine ⟨k - 1, by omega, hex, j + 1, by omega, by simp, fun r => if r = j then q else id r, ?_, fun i hi => ?_, fun r hr => ?_, fun r s hr hs hrs => ?_⟩
      · rw [List.range_succ, List.map_append]
        have : ((List.range j).map fun r => AVal.sl (if r = j then q else id r) 0 m none 1) = (List.range j).map fun r => AVal.sl (id r) 0 m none 1 := by
          apply List.map_congr_left
          intro r hr
          simp at hr
          rw [if_neg (by omega)]
        simp only [List.map_cons, List.map_nil, if_true, this]
        exact e2
      · rw [e4] at hi; simp [sid] at hi
        have := he.nx; omega
      · by_cases hrj : r = j
        · subst hrj
          simp only [if_true]
          refine ⟨by have := he.nx; omega, by omega, by rw [e4]; simp [sid]; omega, ?_⟩
          rw [e5 q hq fun hs => by have := hR.buf.sid_lt hs; omega]; exact hgq
        · simp only [if_neg hrj]
          obtain ⟨a1, a2, a3, a4⟩ := hR.rw' r (by omega)
          refine ⟨a1, by omega, by rw [e4]; simp [sid]; omega, ?_⟩
          rw [e5 _ (by omega) a3, he1 _ a2]; exact a4
      · by_cases hrj : r = j <;> by_cases hsj : s = j
        · omega
        · have := (hR.rw' s (by omega)).2.1
          simp only [hrj, if_true, if_neg hsj] at hrs
          omega
        · have := (hR.rw' r (by omega)).2.1
          simp only [hsj, if_true, if_neg hrj] at hrs
          omega
        · simp only [if_neg hrj, if_neg hsj] at hrs
          exact hR.inj r s (by omega) (by omega) hrs
    · have hlt : ¬ (j : Int) < (n : Int) := by omega
      have hjn : j = n := by omega
      subst hjn
      simp [l33_1, r33_3, r33_11, h0, h6, h5]
      obtain ⟨i, rfl, hi, hg⟩ := hR.buf.own hn0
      exact ⟨he, i, id, ⟨rfl, hi, hg, fun r hr => ⟨(hR.rw' r hr).2.1, fun e => (hR.rw' r hr).2.2.1 (by rw [e]; rfl), (hR.rw' r hr).2.2.2⟩, hR.inj⟩, hR.lo i rfl, fun r hr => (hR.rw' r hr).1⟩


/-- The kid of a name, or -1. -/
def findK : List (List Nat) → List Int → List Nat → Int
  | x :: xs, k :: ks, nm => if x == nm then k else findK xs ks nm
  | _, _, _ => -1

theorem findK_drop {xs : List (List Nat)} {ks : List Int} {nm x : List Nat} {k : Int} {j : Nat} (h1 : xs[j]? = some x) (h2 : ks[j]? = some k) : findK (xs.drop j) (ks.drop j) nm = if x == nm then k else findK (xs.drop (j + 1)) (ks.drop (j + 1)) nm := by
  rw [List.drop_eq_getElem?_toList_append, List.drop_eq_getElem?_toList_append (l := ks), h1, h2]
  rfl

theorem call50 {H : Heap} {c : List AVal} {hd : Hd} {nm : List Nat} (hh : HdOf H c hd) (hl : hd.names.length ≤ hd.kids.length) (hm : hd.names.length < 1000000) :
    Call 50 [.agg c, .s nm] H fun v H' => H' = H ∧ v = .i .i64 (findK hd.names hd.kids nm) := by
  refine Call.forget ?_
  obtain ⟨ns, ks, rfl, hn, hk⟩ := hh
  refine Call.by (a := a50) rfl (by simp [a50]) ?_
  simp [a50, c50, r50_0, r50_1, AVal.cells?, aLoad, Heap.get_push, hn.len']
  refine Loop.by (fun k T H' => Ex H H' ∧ T.get 1 = some (.s nm) ∧ T.get 8 = some ns ∧ T.get 9 = some (.i .i64 (hd.names.length : Int)) ∧ T.get 2 = some (.p H.nx 0) ∧ aLoad H' (.p H.nx 2) 1 false = some ks ∧
    ∃ j : Nat, j + k = hd.names.length ∧ T.get 10 = some (.i .i64 (j : Int)) ∧ findK hd.names hd.kids nm = findK (hd.names.drop j) (hd.kids.drop j) nm) hd.names.length ?_ ?_
  · exact ⟨(Ex.refl H).push _, by simp, by simp, by simp, by simp, by simp [aLoad, Heap.get_push], 0, by simp⟩
  · rintro k T H' ⟨he, h1, h8, h9, h2, hk2, j, hjk, h10, hf⟩
    by_cases hj : j < hd.names.length
    · obtain ⟨x, hx⟩ : ∃ x, hd.names[j]? = some x := ⟨_, List.getElem?_eq_getElem hj⟩
      obtain ⟨y, hy⟩ : ∃ y, hd.kids[j]? = some y := ⟨_, List.getElem?_eq_getElem (by omega)⟩
      rw [findK_drop hx hy] at hf
      have hlt : (j : Int) < (hd.names.length : Int) := by omega
      have hjk' : j < hd.kids.length := by omega
      cases hxn : x == nm with
      | true =>
        rw [hxn] at hf
        simp [l50_0, r50_2, r50_3, r50_4, r50_5, r50_6, h1, h8, h9, h10, h2, hk2, hlt, sidx_at hn.len' hj, (hn.ex he).get hx, hxn, sidx_at hk.len' hjk', (hk.ex he).get hy]
        exact ⟨he, rfl, hf.symm⟩
      | false =>
        rw [hxn] at hf
        simp [l50_0, r50_2, r50_3, r50_4, r50_5, r50_6, h1, h8, h9, h10, h2, hk2, hlt, sidx_at hn.len' hj, (hn.ex he).get hx, hxn, b_inc (show j < 4611686018427387904 by omega)]
        exact ⟨k - 1, by omega, he, j + 1, by omega, rfl, by simpa using hf⟩
    · have hlt : ¬ (j : Int) < (hd.names.length : Int) := by omega
      simp [l50_0, r50_2, r50_7, h1, h8, h9, h10, hlt]
      refine ⟨he, rfl, ?_⟩
      rw [hf, show j = hd.names.length by omega]
      simp [findK]


def tb (f : Nat → Nat → Bool) (x y : Int) : Bool := f x.toNat y.toNat

theorem Tab.get {H : Heap} {v : AVal} {n m : Nat} {f : Nat → Nat → Bool} {i : Nat} {id : Nat → Nat} (t : Tab H v n m f i id) {x y : Int} (hx : 0 ≤ x ∧ x < n) (hy : 0 ≤ y ∧ y < m) :
    ∃ p w q, sidx 1 v (.i .i64 x) = some p ∧ aLoad H p 1 false = some w ∧ sidx 1 w (.i .i64 y) = some q ∧ aLoad H q 1 false = some (.b (tb f x y)) := by
  obtain ⟨a, rfl⟩ : ∃ a : Nat, x = (a : Int) := ⟨x.toNat, by omega⟩
  obtain ⟨b, rfl⟩ : ∃ b : Nat, y = (b : Int) := ⟨y.toNat, by omega⟩
  have ha : a < n := by omega
  have hb : b < m := by omega
  refine ⟨.p i a, .sl (id a) 0 m none 1, .p (id a) b, ?_, ?_, ?_, ?_⟩
  · rw [t.sh, sidx_at (n := n) rfl ha]; simp
  · rw [load_row t.ho]; simp [ha]
  · rw [sidx_at (n := m) rfl hb]; simp
  · rw [load_row (t.hr a ha).2.2]; simp [hb, tb]

/-- The two copies. -/
structure M34 (H : Heap) (p q : Nat) (h k : Hd) (ns ks ns' ks' : AVal) : Prop where
  ch : H.get p = some (.row [.i .i64 h.kind, ns, ks, .b h.opn] true)
  ck : H.get q = some (.row [.i .i64 k.kind, ns', ks', .b k.opn] true)
  nh : Strs H ns h.names
  kh : Ints H ks h.kids
  nk : Strs H ns' k.names
  kk : Ints H ks' k.kids

theorem reg34_1 {H : Heap} {T : Tm} {Q : Post} {a b : AVal} {A B : List Hd} {i j : Nat} {h k : Hd} (hA : Hds H a A) (hB : Hds H b B) (hi : A[i]? = some h) (hj : B[j]? = some k)
    (h0 : T.get 0 = some a) (h1 : T.get 1 = some b) (h4 : T.get 4 = some (.i .i64 (i : Int))) (h5 : T.get 5 = some (.i .i64 (j : Int)))
    (hQ : ∀ T' H' ns ks ns' ks', Keep [1, 2, 3] T T' → Ex H H' → T'.get 13 = some (.p H.nx 0) → T'.get 14 = some (.p (H.nx + 1) 0) → M34 H' H.nx (H.nx + 1) h k ns ks ns' ks' → Q .normal T' H') : runQ d34_1 [] [] T H Q := by
  obtain ⟨ns, ks, e1, e2, e3⟩ := hA.head hi
  obtain ⟨ns', ks', f1, f2, f3⟩ := hB.head hj
  have i1 := sidx_at (k := .i64) (es := 4) hA.len (List.getElem?_eq_some_iff.1 hi).1
  have i2 := sidx_at (k := .i64) (es := 4) hB.len (List.getElem?_eq_some_iff.1 hj).1
  obtain ⟨P, hP⟩ : ∃ P, P = (H.push (.row [.i .i64 0, .nsl, .nsl, .b false] true)).push (.row [.i .i64 0, .nsl, .nsl, .b false] true) := ⟨_, rfl⟩
  have eP : Ex H P := by rw [hP]; exact ((Ex.refl H).push _).push _
  have s1 : aStore P (.p H.nx 0) (.agg [.i .i64 h.kind, ns, ks, .b h.opn]) 4 = some (P.put H.nx (.row [.i .i64 h.kind, ns, ks, .b h.opn] true)) := by
    rw [hP]; simp [aStore, splice, Heap.get_push]
  have eP1 : Ex H (P.put H.nx (.row [.i .i64 h.kind, ns, ks, .b h.opn] true)) := eP.put (Nat.le_refl _) _
  have s2 : aStore (P.put H.nx (.row [.i .i64 h.kind, ns, ks, .b h.opn] true)) (.p (H.nx + 1) 0) (.agg [.i .i64 k.kind, ns', ks', .b k.opn]) 4 = some ((P.put H.nx (.row [.i .i64 h.kind, ns, ks, .b h.opn] true)).put (H.nx + 1) (.row [.i .i64 k.kind, ns', ks', .b k.opn] true)) := by
    rw [hP]; simp [aStore, splice, Heap.get_push, Heap.get_put]
  have eP2 : Ex H ((P.put H.nx (.row [.i .i64 h.kind, ns, ks, .b h.opn] true)).put (H.nx + 1) (.row [.i .i64 k.kind, ns', ks', .b k.opn] true)) := eP1.put (Nat.le_succ _) _
  have f1' : aLoad P (sptr 4 b j) 4 true = some (.agg [.i .i64 k.kind, ns', ks', .b k.opn]) ∧ aLoad (P.put H.nx (.row [.i .i64 h.kind, ns, ks, .b h.opn] true)) (sptr 4 b j) 4 true = some (.agg [.i .i64 k.kind, ns', ks', .b k.opn]) := by
    obtain ⟨x1, x2, g1, _⟩ := (hB.ex eP).head hj
    obtain ⟨y1, y2, g2, _⟩ := (hB.ex eP1).head hj
    have hin := hB.ins
    have hlen := hB.len
    cases b <;> simp only [slin] at hin
    · have := (List.getElem?_eq_some_iff.1 hj).1
      simp at hlen; omega
    · exact ⟨load_ex eP hin.1 f1, load_ex eP1 hin.1 f1⟩
  simp [d34_1, h0, h1, h4, h5, i1, i2, e1, f1]
  rw [← hP, s1]
  simp
  refine ⟨StillL.still ?_, ?_⟩
  · simp [StillL, stR, f1'.1, f1'.2]
  · simp [s2]
    refine hQ _ _ ns ks ns' ks' ?_ eP2 (by simp) (by simp) ⟨?_, ?_, e2.ex eP2, e3.ex eP2, f2.ex eP2, f3.ex eP2⟩
    · simp [Keep, h1]
    · rw [Heap.get_put, if_neg (by omega), Heap.get_put, if_pos rfl]
    · rw [Heap.get_put, if_pos rfl]

theorem Tab.ex {H H' : Heap} {v : AVal} {n m : Nat} {f : Nat → Nat → Bool} {i : Nat} {id : Nat → Nat} (he : Ex H H') (t : Tab H v n m f i id) : Tab H' v n m f i id :=
  ⟨t.sh, Nat.lt_of_lt_of_le t.hi he.nx, he.get _ t.hi _ t.ho, fun r hr => ⟨Nat.lt_of_lt_of_le (t.hr r hr).1 he.nx, (t.hr r hr).2.1, he.get _ (t.hr r hr).1 _ (t.hr r hr).2.2⟩, t.inj⟩

/-- A head that may be. -/
structure HOk (n : Nat) (h : Hd) : Prop where
  kid : ∀ x ∈ h.kids, 0 ≤ x ∧ x < n
  form : Form h
  up : Up h.names

theorem HOk.le {n : Nat} {h : Hd} (k : HOk n h) : h.names.length ≤ h.kids.length := by
  rcases k.form.2 with ⟨_, a, b⟩ | ⟨_, a⟩ | ⟨_, _, a, b⟩
  · rw [a]; simp
  · omega
  · rw [a]; simp

theorem findK_mem : ∀ (xs : List (List Nat)) (ks : List Int) (nm : List Nat), findK xs ks nm = -1 ∨ findK xs ks nm ∈ ks
  | [], ks, nm => .inl (by simp [findK])
  | x :: xs, [], nm => .inl rfl
  | x :: xs, k :: ks, nm => by
    unfold findK
    split
    · exact .inr (by simp)
    · rcases findK_mem xs ks nm with h | h
      · exact .inl h
      · exact .inr (by simp [h])

theorem HOk.find {n : Nat} {h : Hd} (k : HOk n h) (s : List Nat) : findK h.names h.kids s = -1 ∨ (0 ≤ findK h.names h.kids s ∧ findK h.names h.kids s < n) := by
  rcases findK_mem h.names h.kids s with e | e
  · exact .inl e
  · exact .inr (k.kid _ e)

def recR (up : Nat → Nat → Bool) (h k : Hd) (n : Nat) : Bool :=
  !(decide (findK h.names h.kids (k.names[n]?.getD []) < 0) || !tb up (findK h.names h.kids (k.names[n]?.getD [])) (k.kids[n]?.getD 0))
def varA (up : Nat → Nat → Bool) (h k : Hd) (n : Nat) : Bool :=
  !((decide (findK k.names k.kids (h.names[n]?.getD []) < 0) && !k.opn) || (decide (0 ≤ findK k.names k.kids (h.names[n]?.getD [])) && !tb up (h.kids[n]?.getD 0) (findK k.names k.kids (h.names[n]?.getD []))))
def kindAt (B : List Hd) (x : Int) : Int := ((B[x.toNat]?).map (·.kind)).getD 0
def varB (B : List Hd) (h k : Hd) (n : Nat) : Bool :=
  !(h.opn && decide (findK h.names h.kids (k.names[n]?.getD []) < 0) && kindAt B (k.kids[n]?.getD 0) != 5)

theorem reg34_14 {H : Heap} {T : Tm} {Q : Post} {p q : Nat} {h k : Hd} {ns ks ns' ks' up : AVal} {f : Nat → Nat → Bool} {iu : Nat} {idu : Nat → Nat} {na nb j : Nat} {x y : Int} (c : M34 H p q h k ns ks ns' ks') (t : Tab H up na nb f iu idu) (hx : x = -1 ∨ (0 ≤ x ∧ x < na)) (hy : k.kids[j]? = some y) (hyb : 0 ≤ y ∧ y < nb)
    (h2 : T.get 2 = some up) (h14 : T.get 14 = some (.p q 0)) (h15 : T.get 15 = some (.i .i64 (j : Int))) (h17 : T.get 17 = some (.i .i64 x))
    (hQ : ∀ T', Keep [2, 13, 14, 79, 80, 81] T T' → T'.get 104 = some (.b (decide (x < 0) || !tb f x y)) → Q .normal T' H) : runQ d34_14 [] [] T H Q := by
  have i1 := sidx_at (k := .i64) (es := 1) c.kk.len' (List.getElem?_eq_some_iff.1 hy).1
  by_cases hx0 : x < 0
  · simp [d34_14, h17, hx0]
    apply hQ <;> simp [Keep, hx0]
  · obtain ⟨pp, w, qq, e1, e2, e3, e4⟩ := t.get (x := x) (y := y) (by omega) hyb
    simp [d34_14, h17, h2, h14, h15, hx0, e1, e2, load_row c.ck, i1, c.kk.get hy, e3, e4]
    apply hQ <;> simp [Keep, hx0, h2, h14]

theorem M34.ld {H : Heap} {p q : Nat} {h k : Hd} {ns ks ns' ks' : AVal} (c : M34 H p q h k ns ks ns' ks') : aLoad H (.p p 0) 4 true = some (.agg [.i .i64 h.kind, ns, ks, .b h.opn]) ∧ aLoad H (.p q 0) 4 true = some (.agg [.i .i64 k.kind, ns', ks', .b k.opn]) := by
  constructor
  · rw [load_agg (o := 0) (n := 4) c.ch (by simp)]; simp
  · rw [load_agg (o := 0) (n := 4) c.ck (by simp)]; simp

theorem lp34_0 {H : Heap} {T : Tm} {Q : Post} {p q : Nat} {h k : Hd} {ns ks ns' ks' up : AVal} {f : Nat → Nat → Bool} {iu : Nat} {idu : Nat → Nat} {na nb : Nat} (c : M34 H p q h k ns ks ns' ks') (t : Tab H up na nb f iu idu) (hh : HOk na h) (hk : HOk nb k) (hm : h.names.length < 1000000) (hmk : k.names.length < 1000000)
    (h2 : T.get 2 = some up) (h13 : T.get 13 = some (.p p 0)) (h14 : T.get 14 = some (.p q 0)) (h79 : T.get 79 = some ns') (h80 : T.get 80 = some (.i .i64 (k.names.length : Int))) (h81 : T.get 81 = some (.i .i64 0))
    (hok : (List.range k.names.length).all (recR f h k) = true → ∀ T', Q (.exit 1) T' H) (hno : (List.range k.names.length).all (recR f h k) = false → ∀ T', T'.get 12 = some (.b false) → Q .ret T' H) : Loop l34_0 T H Q := by
  refine Loop.by (fun m T' H' => H' = H ∧ Keep [2, 13, 14, 79, 80] T T' ∧ ∃ j : Nat, j + m = k.names.length ∧ T'.get 81 = some (.i .i64 (j : Int)) ∧ (List.range k.names.length).all (recR f h k) = ((List.range k.names.length).drop j).all (recR f h k)) k.names.length ?_ ?_
  · exact ⟨rfl, fun t _ => rfl, 0, by simp, h81, by simp⟩
  · rintro m T1 H1 ⟨rfl, hkp, j, hjk, g81, hf⟩
    have k2 := (hkp 2 (by simp)).trans h2
    have k13 := (hkp 13 (by simp)).trans h13
    have k14 := (hkp 14 (by simp)).trans h14
    have k79 := (hkp 79 (by simp)).trans h79
    have k80 := (hkp 80 (by simp)).trans h80
    by_cases hj : j < k.names.length
    · obtain ⟨s, hs⟩ : ∃ y, k.names[j]? = some y := ⟨_, List.getElem?_eq_getElem hj⟩
      obtain ⟨y, hy⟩ : ∃ y, k.kids[j]? = some y := ⟨_, List.getElem?_eq_getElem (by have := hk.le; omega)⟩
      have hlt : (j : Int) < (k.names.length : Int) := by omega
      have hr : (List.range k.names.length)[j]? = some j := by simp [hj]
      rw [drop_at hr, List.all_cons] at hf
      simp [l34_0, r34_11, r34_12, k79, k80, g81, hlt, sidx_at c.nk.len' hj, c.nk.get hs]
      simp [r34_13, k13, c.ld.1]
      refine Call.is (call50 (hd := h) ⟨ns, ks, rfl, c.nh, c.kh⟩ hh.le hm) ?_
      simp [kC]
      refine reg34_14 (j := j) (x := findK h.names h.kids s) (y := y) c t (hh.find s) hy (hk.kid y (List.mem_of_getElem? hy)) (by simp [k2]) (by simp [k14]) (by simp) (by simp) fun T2 hk2 h104 => ?_
      have m2 := hk2 2 (by simp)
      have m13 := hk2 13 (by simp)
      have m14 := hk2 14 (by simp)
      have m79 := hk2 79 (by simp)
      have m80 := hk2 80 (by simp)
      have m81 := hk2 81 (by simp)
      simp at m2 m13 m14 m79 m80 m81
      have hrec : recR f h k j = !(decide (findK h.names h.kids s < 0) || !tb f (findK h.names h.kids s) y) := by simp only [recR, hs, hy, Option.getD_some]
      cases hb : (decide (findK h.names h.kids s < 0) || !tb f (findK h.names h.kids s) y) with
      | true =>
        rw [hb] at h104 hrec
        simp [h104, r34_15]
        exact hno (by rw [hf, hrec]; rfl) _ (by simp)
      | false =>
        rw [hb] at h104 hrec
        rw [hrec] at hf
        simp only [Bool.not_false, Bool.true_and] at hf
        simp [h104, r34_16, m81, g81, b_inc (show j < 4611686018427387904 by omega)]
        refine ⟨m - 1, by omega, fun t ht => ?_, j + 1, by omega, by simp, hf⟩
        simp at ht
        rcases ht with rfl | rfl | rfl | rfl | rfl <;> simp [m2, m13, m14, m79, m80, k2, k13, k14, k79, k80, h2, h13, h14, h79, h80]
    · have hlt : ¬ (j : Int) < (k.names.length : Int) := by omega
      have he : (List.range k.names.length).drop j = [] := List.drop_eq_nil_of_le (by simp; omega)
      rw [he] at hf
      simp only [List.all_nil] at hf
      simp [l34_0, r34_11, k79, k80, g81, hlt]
      exact hok hf _

theorem reg34_24 {H : Heap} {T : Tm} {Q : Post} {p q : Nat} {h k : Hd} {ns ks ns' ks' up : AVal} {f : Nat → Nat → Bool} {iu : Nat} {idu : Nat → Nat} {na nb j : Nat} {x y : Int} (c : M34 H p q h k ns ks ns' ks') (t : Tab H up na nb f iu idu) (hy : y = -1 ∨ (0 ≤ y ∧ y < nb)) (hx : h.kids[j]? = some x) (hxa : 0 ≤ x ∧ x < na)
    (h2 : T.get 2 = some up) (h13 : T.get 13 = some (.p p 0)) (h14 : T.get 14 = some (.p q 0)) (h18 : T.get 18 = some (.i .i64 (j : Int))) (h20 : T.get 20 = some (.i .i64 y))
    (hQ : ∀ T', Keep [1, 2, 13, 14, 116, 117, 118] T T' → T'.get 150 = some (.b ((decide (y < 0) && !k.opn) || (decide (0 ≤ y) && !tb f x y))) → Q .normal T' H) : runO r34_24 T H Q := by
  have i1 := sidx_at (k := .i64) (es := 1) c.kh.len' (List.getElem?_eq_some_iff.1 hx).1
  by_cases hy0 : y < 0
  · have hy1 : ¬ 0 ≤ y := by omega
    cases ho : k.opn with
    | false =>
      simp [r34_24, h20, hy0, h14, load_row c.ck, ho]
      apply hQ <;> simp [Keep, hy0, hy1, ho]
    | true =>
      simp [r34_24, h20, hy0, hy1, h14, load_row c.ck, ho]
      apply hQ <;> simp [Keep, hy0, hy1, ho]
  · have hy1 : 0 ≤ y := by omega
    obtain ⟨pp, w, qq, e1, e2, e3, e4⟩ := t.get (x := x) (y := y) hxa (by omega)
    simp [r34_24, h20, hy0, hy1, h2, h13, h18, load_row c.ch, i1, c.kh.get hx, e1, e2, e3, e4]
    apply hQ <;> simp [Keep, hy0, hy1, h2, h13]

theorem lp34_1 {H : Heap} {T : Tm} {Q : Post} {p q : Nat} {h k : Hd} {ns ks ns' ks' up b : AVal} {f : Nat → Nat → Bool} {iu : Nat} {idu : Nat → Nat} {na nb : Nat} (c : M34 H p q h k ns ks ns' ks') (t : Tab H up na nb f iu idu) (hh : HOk na h) (hk : HOk nb k) (hm : h.names.length < 1000000) (hmk : k.names.length < 1000000)
    (h1 : T.get 1 = some b) (h2 : T.get 2 = some up) (h13 : T.get 13 = some (.p p 0)) (h14 : T.get 14 = some (.p q 0)) (h116 : T.get 116 = some ns) (h117 : T.get 117 = some (.i .i64 (h.names.length : Int))) (h118 : T.get 118 = some (.i .i64 0))
    (hok : (List.range h.names.length).all (varA f h k) = true → ∀ T', Keep [1, 13, 14] T T' → Q (.exit 3) T' H) (hno : (List.range h.names.length).all (varA f h k) = false → ∀ T', T'.get 12 = some (.b false) → Q .ret T' H) : Loop l34_1 T H Q := by
  refine Loop.by (fun m T' H' => H' = H ∧ Keep [1, 2, 13, 14, 116, 117] T T' ∧ ∃ j : Nat, j + m = h.names.length ∧ T'.get 118 = some (.i .i64 (j : Int)) ∧ (List.range h.names.length).all (varA f h k) = ((List.range h.names.length).drop j).all (varA f h k)) h.names.length ?_ ?_
  · exact ⟨rfl, fun t _ => rfl, 0, by simp, h118, by simp⟩
  · rintro m T1 H1 ⟨rfl, hkp, j, hjk, g118, hf⟩
    have k1 := (hkp 1 (by simp)).trans h1
    have k2 := (hkp 2 (by simp)).trans h2
    have k13 := (hkp 13 (by simp)).trans h13
    have k14 := (hkp 14 (by simp)).trans h14
    have k116 := (hkp 116 (by simp)).trans h116
    have k117 := (hkp 117 (by simp)).trans h117
    by_cases hj : j < h.names.length
    · obtain ⟨s, hs⟩ : ∃ y, h.names[j]? = some y := ⟨_, List.getElem?_eq_getElem hj⟩
      obtain ⟨x, hx⟩ : ∃ y, h.kids[j]? = some y := ⟨_, List.getElem?_eq_getElem (by have := hh.le; omega)⟩
      have hlt : (j : Int) < (h.names.length : Int) := by omega
      have hr : (List.range h.names.length)[j]? = some j := by simp [hj]
      rw [drop_at hr, List.all_cons] at hf
      simp [l34_1, r34_21, r34_22, k116, k117, g118, hlt, sidx_at c.nh.len' hj, c.nh.get hs]
      simp [r34_23, k14, c.ld.2]
      refine Call.is (call50 (hd := k) ⟨ns', ks', rfl, c.nk, c.kk⟩ hk.le hmk) ?_
      simp [kC]
      refine reg34_24 (j := j) (y := findK k.names k.kids s) (x := x) c t (hk.find s) hx (hh.kid x (List.mem_of_getElem? hx)) (by simp [k2]) (by simp [k13]) (by simp [k14]) (by simp) (by simp) fun T2 hk2 h150 => ?_
      have m1 := hk2 1 (by simp)
      have m2 := hk2 2 (by simp)
      have m13 := hk2 13 (by simp)
      have m14 := hk2 14 (by simp)
      have m116 := hk2 116 (by simp)
      have m117 := hk2 117 (by simp)
      have m118 := hk2 118 (by simp)
      simp at m1 m2 m13 m14 m116 m117 m118
      have hrec : varA f h k j = !((decide (findK k.names k.kids s < 0) && !k.opn) || (decide (0 ≤ findK k.names k.kids s) && !tb f x (findK k.names k.kids s))) := by simp only [varA, hs, hx, Option.getD_some]
      cases hb : ((decide (findK k.names k.kids s < 0) && !k.opn) || (decide (0 ≤ findK k.names k.kids s) && !tb f x (findK k.names k.kids s))) with
      | true =>
        rw [hb] at h150 hrec
        simp [h150, r34_25]
        exact hno (by rw [hf, hrec]; rfl) _ (by simp)
      | false =>
        rw [hb] at h150 hrec
        rw [hrec] at hf
        simp only [Bool.not_false, Bool.true_and] at hf
        simp [h150, r34_26, m118, g118, b_inc (show j < 4611686018427387904 by omega)]
        refine ⟨m - 1, by omega, fun t ht => ?_, j + 1, by omega, by simp, hf⟩
        simp at ht
        rcases ht with rfl | rfl | rfl | rfl | rfl | rfl <;> simp [m1, m2, m13, m14, m116, m117, k1, k2, k13, k14, k116, k117, h1, h2, h13, h14, h116, h117]
    · have hlt : ¬ (j : Int) < (h.names.length : Int) := by omega
      have he : (List.range h.names.length).drop j = [] := List.drop_eq_nil_of_le (by simp; omega)
      rw [he] at hf
      simp only [List.all_nil] at hf
      simp [l34_1, r34_21, k116, k117, g118, hlt]
      refine hok hf _ fun t ht => ?_
      simp at ht
      rcases ht with rfl | rfl | rfl <;> simp [k1, k13, k14, h1, h13, h14]

/-- A field of a head in a slice. -/
theorem Hds.kind {H : Heap} {v : AVal} {l : List Hd} (h : Hds H v l) {x : Int} (hx : 0 ≤ x ∧ x < l.length) : ∃ i o, sidx 4 v (.i .i64 x) = some (.p i o) ∧ aLoad H (.p i o) 1 false = some (.i .i64 (kindAt l x)) := by
  obtain ⟨a, rfl⟩ : ∃ a : Nat, x = (a : Int) := ⟨x.toNat, by omega⟩
  have ha : a < l.length := by omega
  obtain ⟨hd, hhd⟩ : ∃ y, l[a]? = some y := ⟨_, List.getElem?_eq_getElem ha⟩
  obtain ⟨ns, ks, e1, _, _⟩ := h.head hhd
  have hin := h.ins
  have hlen := h.len
  cases v <;> simp only [slin] at hin
  · simp at hlen; omega
  · rename_i i o n k e
    refine ⟨i, o + a * 4, ?_, ?_⟩
    · rw [sidx_at (n := l.length) hlen ha]; simp
    · have := load_fld (f := 0) e1 (by omega)
      rw [Nat.add_zero] at this
      rw [this]
      simp [kindAt, hhd]

theorem reg34_30 {H : Heap} {T : Tm} {Q : Post} {p q : Nat} {h k : Hd} {ns ks ns' ks' b : AVal} {B : List Hd} {na j : Nat} {y : Int} {s : List Nat} (c : M34 H p q h k ns ks ns' ks') (hB : Hds H b B) (hh : HOk na h) (hm : h.names.length < 1000000) (hs : k.names[j]? = some s) (hy : k.kids[j]? = some y) (hyb : 0 ≤ y ∧ y < B.length)
    (h1 : T.get 1 = some b) (h13 : T.get 13 = some (.p p 0)) (h14 : T.get 14 = some (.p q 0)) (h21 : T.get 21 = some (.i .i64 (j : Int))) (h22 : T.get 22 = some (.s s))
    (hQ : ∀ T', Keep [1, 13, 14, 153, 154, 155] T T' → T'.get 179 = some (.b (!varB B h k j)) → Q .normal T' H) : runO r34_30 T H Q := by
  have i1 := sidx_at (k := .i64) (es := 1) c.kk.len' (List.getElem?_eq_some_iff.1 hy).1
  have hv : (!varB B h k j) = (h.opn && decide (findK h.names h.kids s < 0) && kindAt B y != 5) := by simp only [varB, hs, hy, Option.getD_some, Bool.not_not]
  rw [hv] at hQ
  obtain ⟨i, o, e1, e2⟩ := hB.kind hyb
  cases ho : h.opn with
  | false =>
    simp [r34_30, h13, load_row c.ch, ho]
    apply hQ <;> simp [Keep, ho]
  | true =>
    have ldh := c.ld.1
    rw [ho] at ldh
    simp [r34_30, h13, load_row c.ch, ho, h22, ldh]
    have hhd : HdOf H [.i .i64 h.kind, ns, ks, .b true] h := ⟨ns, ks, by rw [ho], c.nh, c.kh⟩
    refine Call.is (call50 (hd := h) hhd hh.le hm) ?_
    by_cases hx : findK h.names h.kids s < 0
    · simp [kC, hx, h1, h14, h21, load_row c.ck, i1, c.kk.get hy, e1, e2]
      apply hQ <;> simp [Keep, ho, hx, h1, h14]
    · simp [kC, hx]
      apply hQ <;> simp [Keep, ho, hx]

theorem lp34_2 {H : Heap} {T : Tm} {Q : Post} {p q : Nat} {h k : Hd} {ns ks ns' ks' b : AVal} {B : List Hd} {na : Nat} (c : M34 H p q h k ns ks ns' ks') (hB : Hds H b B) (hh : HOk na h) (hk : HOk B.length k) (hm : h.names.length < 1000000) (hmk : k.names.length < 1000000)
    (h1 : T.get 1 = some b) (h13 : T.get 13 = some (.p p 0)) (h14 : T.get 14 = some (.p q 0)) (h153 : T.get 153 = some ns') (h154 : T.get 154 = some (.i .i64 (k.names.length : Int))) (h155 : T.get 155 = some (.i .i64 0))
    (hok : (List.range k.names.length).all (varB B h k) = true → ∀ T', Q (.exit 5) T' H) (hno : (List.range k.names.length).all (varB B h k) = false → ∀ T', T'.get 12 = some (.b false) → Q .ret T' H) : Loop l34_2 T H Q := by
  refine Loop.by (fun m T' H' => H' = H ∧ Keep [1, 13, 14, 153, 154] T T' ∧ ∃ j : Nat, j + m = k.names.length ∧ T'.get 155 = some (.i .i64 (j : Int)) ∧ (List.range k.names.length).all (varB B h k) = ((List.range k.names.length).drop j).all (varB B h k)) k.names.length ?_ ?_
  · exact ⟨rfl, fun t _ => rfl, 0, by simp, h155, by simp⟩
  · rintro m T1 H1 ⟨rfl, hkp, j, hjk, g155, hf⟩
    have k1 := (hkp 1 (by simp)).trans h1
    have k13 := (hkp 13 (by simp)).trans h13
    have k14 := (hkp 14 (by simp)).trans h14
    have k153 := (hkp 153 (by simp)).trans h153
    have k154 := (hkp 154 (by simp)).trans h154
    by_cases hj : j < k.names.length
    · obtain ⟨s, hs⟩ : ∃ y, k.names[j]? = some y := ⟨_, List.getElem?_eq_getElem hj⟩
      obtain ⟨y, hy⟩ : ∃ y, k.kids[j]? = some y := ⟨_, List.getElem?_eq_getElem (by have := hk.le; omega)⟩
      have hlt : (j : Int) < (k.names.length : Int) := by omega
      have hr : (List.range k.names.length)[j]? = some j := by simp [hj]
      rw [drop_at hr, List.all_cons] at hf
      simp [l34_2, r34_28, r34_29, k153, k154, g155, hlt, sidx_at c.nk.len' hj, c.nk.get hs]
      refine reg34_30 (j := j) (y := y) (s := s) c hB hh hm hs hy (hk.kid y (List.mem_of_getElem? hy)) (by simp [k1]) (by simp [k13]) (by simp [k14]) (by simp) (by simp) fun T2 hk2 h179 => ?_
      have m1 := hk2 1 (by simp)
      have m13 := hk2 13 (by simp)
      have m14 := hk2 14 (by simp)
      have m153 := hk2 153 (by simp)
      have m154 := hk2 154 (by simp)
      have m155 := hk2 155 (by simp)
      simp at m1 m13 m14 m153 m154 m155
      cases hb : varB B h k j with
      | false =>
        rw [hb] at h179 hf
        simp [h179, r34_31]
        exact hno (by rw [hf]; rfl) _ (by simp)
      | true =>
        rw [hb] at h179 hf
        rw [Bool.true_and] at hf
        simp [h179, r34_32, m155, g155, b_inc (show j < 4611686018427387904 by omega)]
        refine ⟨m - 1, by omega, fun t ht => ?_, j + 1, by omega, by simp, hf⟩
        simp at ht
        rcases ht with rfl | rfl | rfl | rfl | rfl <;> simp [m1, m13, m14, m153, m154, k1, k13, k14, k153, k154, h1, h13, h14, h153, h154]
    · have hlt : ¬ (j : Int) < (k.names.length : Int) := by omega
      have he : (List.range k.names.length).drop j = [] := List.drop_eq_nil_of_le (by simp; omega)
      rw [he] at hf
      simp only [List.all_nil] at hf
      simp [l34_2, r34_28, k153, k154, g155, hlt]
      exact hok hf _

def mayB (B : List Hd) (up down : Nat → Nat → Bool) (h k : Hd) : Bool :=
  if h.kind == 6 || k.kind == 5 then true
  else if h.kind != k.kind then false
  else if h.kind == 7 then tb down (k.kids[0]?.getD 0) (h.kids[0]?.getD 0) && tb up (h.kids[1]?.getD 0) (k.kids[1]?.getD 0)
  else if h.kind == 8 then (List.range k.names.length).all (recR up h k)
  else if h.kind == 9 then !(h.opn && !k.opn) && ((List.range h.names.length).all (varA up h k) && (List.range k.names.length).all (varB B h k))
  else true

theorem reg34_8 {H : Heap} {T : Tm} {Q : Post} {p q : Nat} {h k : Hd} {ns ks ns' ks' up down : AVal} {f g : Nat → Nat → Bool} {iu id : Nat} {idu idd : Nat → Nat} {na nb : Nat} {h0 h1 k0 k1 : Int} (c : M34 H p q h k ns ks ns' ks') (t : Tab H up na nb f iu idu) (t' : Tab H down nb na g id idd)
    (eh : h.kids = [h0, h1]) (ek : k.kids = [k0, k1]) (hh : HOk na h) (hk : HOk nb k)
    (h2 : T.get 2 = some up) (h3 : T.get 3 = some down) (h13 : T.get 13 = some (.p p 0)) (h14 : T.get 14 = some (.p q 0))
    (hQ : ∀ T', T'.get 12 = some (.b (tb g k0 h0 && tb f h1 k1)) → Q .normal T' H) : runQ d34_8 [] [] T H Q := by
  have lh := c.kh.len'
  have lk := c.kk.len'
  have i0 := sidx_at (k := .i64) (es := 1) (j := 0) lh (by rw [eh]; simp)
  have i1 := sidx_at (k := .i64) (es := 1) (j := 1) lh (by rw [eh]; simp)
  have i2 := sidx_at (k := .i64) (es := 1) (j := 0) lk (by rw [ek]; simp)
  have i3 := sidx_at (k := .i64) (es := 1) (j := 1) lk (by rw [ek]; simp)
  have l0 := c.kh.get (j := 0) (x := h0) (by rw [eh]; rfl)
  have l1 := c.kh.get (j := 1) (x := h1) (by rw [eh]; rfl)
  have l2 := c.kk.get (j := 0) (x := k0) (by rw [ek]; rfl)
  have l3 := c.kk.get (j := 1) (x := k1) (by rw [ek]; rfl)
  simp only [show ((1 : Nat) : Int) = 1 from rfl, show ((0 : Nat) : Int) = 0 from rfl] at i0 i1 i2 i3
  obtain ⟨p1, w1, q1, a1, a2, a3, a4⟩ := t'.get (x := k0) (y := h0) (hk.kid k0 (by rw [ek]; simp)) (hh.kid h0 (by rw [eh]; simp))
  obtain ⟨p2, w2, q2, b1, b2, b3, b4⟩ := t.get (x := h1) (y := k1) (hh.kid h1 (by rw [eh]; simp)) (hk.kid k1 (by rw [ek]; simp))
  cases hg : tb g k0 h0 with
  | false =>
    rw [hg] at a4
    simp [d34_8, h2, h3, h13, h14, load_row c.ch, load_row c.ck, i0, i1, i2, i3, l0, l1, l2, l3, a1, a2, a3, a4]
    apply hQ; simp [hg]
  | true =>
    rw [hg] at a4
    simp [d34_8, h2, h3, h13, h14, load_row c.ch, load_row c.ck, i0, i1, i2, i3, l0, l1, l2, l3, a1, a2, a3, a4, b1, b2, b3, b4]
    apply hQ; simp [hg]

theorem call34 {H : Heap} {a b up down : AVal} {A B : List Hd} {f g : Nat → Nat → Bool} {iu id : Nat} {idu idd : Nat → Nat} {i j : Nat} {h k : Hd} (hA : Hds H a A) (hB : Hds H b B) (hi : A[i]? = some h) (hj : B[j]? = some k)
    (t : Tab H up A.length B.length f iu idu) (t' : Tab H down B.length A.length g id idd) (hh : HOk A.length h) (hk : HOk B.length k) (hm : h.names.length < 1000000) (hmk : k.names.length < 1000000) :
    Call 34 [a, b, up, down, .i .i64 (i : Int), .i .i64 (j : Int)] H fun v H' => H' = H ∧ v = .b (mayB B f g h k) := by
  refine Call.forget ?_
  refine Call.by (a := a34) rfl (by simp [a34]) ?_
  simp [a34, c34, r34_0]
  refine reg34_1 hA hB hi hj (by simp) (by simp) (by simp) (by simp) fun T1 H1 ns ks ns' ks' hk1 he h13 h14 c => ?_
  have k1 := hk1 1 (by simp)
  have k2 := hk1 2 (by simp)
  have k3 := hk1 3 (by simp)
  simp at k1 k2 k3
  have t1 := t.ex he
  have t1' := t'.ex he
  have hB1 := hB.ex he
  have r2 : ∀ T : Tm, T.get 13 = some (.p H.nx 0) → T.get 14 = some (.p (H.nx + 1) 0) → ∀ Q : Post, (∀ T', Keep [1, 2, 3, 13, 14] T T' → T'.get 38 = some (.b (h.kind == 6 || k.kind == 5)) → Q .normal T' H1) → runO r34_2 T H1 Q := by
    intro T g13 g14 Q hQ
    cases b1 : h.kind == 6 with
    | true =>
      simp [r34_2, g13, load_row c.ch, b1]
      apply hQ <;> simp [Keep, b1, g13]
    | false =>
      simp [r34_2, g13, g14, load_row c.ch, load_row c.ck, b1]
      apply hQ <;> simp [Keep, b1, g13, g14]
  simp
  refine r2 T1 h13 h14 _ fun T2 hk2 h38 => ?_
  have m1 := hk2 1 (by simp)
  have m2 := hk2 2 (by simp)
  have m3 := hk2 3 (by simp)
  have m13 := hk2 13 (by simp)
  have m14 := hk2 14 (by simp)
  rw [k1] at m1
  rw [k2] at m2
  rw [k3] at m3
  rw [h13] at m13
  rw [h14] at m14
  cases b1 : (h.kind == 6 || k.kind == 5) with
  | true =>
    rw [b1] at h38
    simp [h38, r34_3]
    exact ⟨he, rfl, by simp only [mayB, b1, if_true]⟩
  | false =>
    rw [b1] at h38
    cases b2 : h.kind != k.kind with
    | true =>
      simp [h38, r34_4, m13, m14, load_row c.ch, load_row c.ck, b2, r34_5]
      exact ⟨he, rfl, by simp only [mayB, b1, b2, if_true, Bool.false_eq_true, if_false]⟩
    | false =>
      simp [h38, r34_4, r34_6, m13, m14, load_row c.ch, load_row c.ck, b2]
      cases b7 : h.kind == 7 with
      | true =>
        have hk7 : h.kind = 7 := by simpa using b7
        have kk7 : k.kind = 7 := by
          have : h.kind = k.kind := by simpa using b2
          omega
        obtain ⟨h0, h1, eh⟩ : ∃ x y, h.kids = [x, y] := by
          rcases hh.form.2 with ⟨_, _, e⟩ | ⟨e, _⟩ | ⟨_, e, _⟩
          · match hq : h.kids, e with
            | [x, y], _ => exact ⟨x, y, rfl⟩
          · omega
          · omega
        obtain ⟨y0, y1, ek⟩ : ∃ x y, k.kids = [x, y] := by
          rcases hk.form.2 with ⟨_, _, e⟩ | ⟨e, _⟩ | ⟨_, e, _⟩
          · match hq : k.kids, e with
            | [x, y], _ => exact ⟨x, y, rfl⟩
          · omega
          · omega
        simp [r34_7, b7]
        refine reg34_8 c t1 t1' eh ek hh hk (by simp [m2]) (by simp [m3]) (by simp [m13]) (by simp [m14]) fun T3 h12 => ?_
        simp [h12]
        exact ⟨he, rfl, by simp only [mayB, b1, b2, b7, if_true, Bool.false_eq_true, if_false, eh, ek]; rfl⟩
      | false =>
        cases b8 : h.kind == 8 with
        | true =>
          simp [r34_7, r34_9, r34_10, b7, b8, m14, load_row c.ck, c.nk.len']
          have hmay : mayB B f g h k = (List.range k.names.length).all (recR f h k) := by simp only [mayB, b1, b2, b7, b8, if_true, Bool.false_eq_true, if_false]
          rw [hmay]
          refine lp34_0 c t1 hh hk hm hmk (by simp [m2]) (by simp [m13]) (by simp [m14]) (by simp) (by simp) (by simp) (fun hb T3 => ?_) (fun hb T3 h12 => ?_)
          · simp [r34_33, hb]
            exact ⟨he, rfl⟩
          · simp [h12, hb]
            exact ⟨he, rfl⟩
        | false =>
          cases b9 : h.kind == 9 with
          | true =>
            have hmay : mayB B f g h k = (!(h.opn && !k.opn) && ((List.range h.names.length).all (varA f h k) && (List.range k.names.length).all (varB B h k))) := by simp only [mayB, b1, b2, b7, b8, b9, if_true, Bool.false_eq_true, if_false]
            have r18 : ∀ T : Tm, T.get 13 = some (.p H.nx 0) → T.get 14 = some (.p (H.nx + 1) 0) → ∀ Q : Post, (∀ T', Keep [1, 2, 3, 13, 14] T T' → T'.get 114 = some (.b (h.opn && !k.opn)) → Q .normal T' H1) → runO r34_18 T H1 Q := by
              intro T g13 g14 Q hQ
              cases o1 : h.opn with
              | false =>
                simp [r34_18, g13, load_row c.ch, o1]
                apply hQ <;> simp [Keep, o1, g13]
              | true =>
                simp [r34_18, g13, g14, load_row c.ch, load_row c.ck, o1]
                apply hQ <;> simp [Keep, o1, g13, g14]
            simp [r34_7, r34_9, r34_17, b7, b8, b9]
            refine r18 _ (by simp [m13]) (by simp [m14]) _ fun T3 hk3 h114 => ?_
            have n1 := hk3 1 (by simp)
            have n2 := hk3 2 (by simp)
            have n13 := hk3 13 (by simp)
            have n14 := hk3 14 (by simp)
            simp [m1, m2, m13, m14] at n1 n2 n13 n14
            cases o3 : (h.opn && !k.opn) with
            | true =>
              rw [o3] at h114
              have hmB : mayB B f g h k = false := by rw [hmay, o3]; rfl
              simp [h114, r34_19, hmB]
              exact ⟨he, rfl⟩
            | false =>
              rw [o3] at h114
              simp [h114, r34_20, n13, load_row c.ch, c.nh.len']
              refine lp34_1 c t1 hh hk hm hmk (by simp [n1]; rfl) (by simp [n2]) (by simp [n13]) (by simp [n14]) (by simp) (by simp) (by simp) (fun hb T4 hk4 => ?_) (fun hb T4 h12 => ?_)
              · have p1 := hk4 1 (by simp)
                have p13 := hk4 13 (by simp)
                have p14 := hk4 14 (by simp)
                simp [n1, n13, n14] at p1 p13 p14
                simp [r34_27, p14, load_row c.ck, c.nk.len']
                refine lp34_2 c hB1 hh hk hm hmk (by simp [p1]) (by simp [p13]) (by simp [p14]) (by simp) (by simp) (by simp) (fun hb2 T5 => ?_) (fun hb2 T5 h12 => ?_)
                · have hmB : mayB B f g h k = true := by rw [hmay, o3, hb, hb2]; rfl
                  simp [r34_33, hmB]
                  exact ⟨he, rfl⟩
                · have hmB : mayB B f g h k = false := by rw [hmay, o3, hb, hb2]; rfl
                  simp [h12, hmB]
                  exact ⟨he, rfl⟩
              · have hmB : mayB B f g h k = false := by rw [hmay, o3, hb]; rfl
                simp [h12, hmB]
                exact ⟨he, rfl⟩
          | false =>
            simp [r34_7, r34_9, r34_17, r34_33, b7, b8, b9]
            exact ⟨he, rfl, by simp only [mayB, b1, b2, b7, b8, b9, Bool.false_eq_true, if_false]⟩


/-! ### The plain part -/
def upd (f : Nat → Nat → Bool) (x y : Nat) : Nat → Nat → Bool := fun r c => if r = x ∧ c = y then false else f r c
def Le2 (f g : Nat → Nat → Bool) : Prop := ∀ r c, f r c = true → g r c = true

theorem mayB_mono {B : List Hd} {f f' g g' : Nat → Nat → Bool} {h k : Hd} (hf : Le2 f f') (hg : Le2 g g') (hm : mayB B f g h k = true) : mayB B f' g' h k = true := by
  have ht : ∀ x y, tb f x y = true → tb f' x y = true := fun x y h => hf _ _ h
  have ht' : ∀ x y, tb g x y = true → tb g' x y = true := fun x y h => hg _ _ h
  unfold mayB at hm ⊢
  split
  · rfl
  · rename_i c1
    rw [if_neg c1] at hm
    split
    · rename_i c2; rw [if_pos c2] at hm; exact hm
    · rename_i c2
      rw [if_neg c2] at hm
      split
      · rename_i c3
        rw [if_pos c3] at hm
        simp only [Bool.and_eq_true] at hm ⊢
        exact ⟨ht' _ _ hm.1, ht _ _ hm.2⟩
      · rename_i c3
        rw [if_neg c3] at hm
        split
        · rename_i c4
          rw [if_pos c4] at hm
          simp only [List.all_eq_true, recR, Bool.not_eq_true', Bool.or_eq_false_iff, Bool.not_eq_false'] at hm ⊢
          exact fun x hx => ⟨(hm x hx).1, ht _ _ (hm x hx).2⟩
        · rename_i c4
          rw [if_neg c4] at hm
          split
          · rename_i c5
            rw [if_pos c5] at hm
            simp only [Bool.and_eq_true, List.all_eq_true] at hm ⊢
            refine ⟨hm.1, fun x hx => ?_, hm.2.2⟩
            have := hm.2.1 x hx
            simp only [varA, Bool.not_eq_true', Bool.or_eq_false_iff, Bool.and_eq_false_iff, Bool.not_eq_false'] at this ⊢
            exact ⟨this.1, this.2.imp id (ht _ _)⟩
          · rfl

/-- A pair of tables in which every pair may be. -/
structure Sim (A B : List Hd) (R S : Nat → Nat → Bool) : Prop where
  bu : ∀ i j, R i j = true → i < A.length ∧ j < B.length
  bd : ∀ i j, S j i = true → i < A.length ∧ j < B.length
  up : ∀ i j h k, A[i]? = some h → B[j]? = some k → R i j = true → mayB B R S h k = true
  dn : ∀ i j h k, A[i]? = some h → B[j]? = some k → S j i = true → mayB A S R k h = true

structure Max (A B : List Hd) (f g : Nat → Nat → Bool) : Prop where
  bu : ∀ i j, f i j = true → i < A.length ∧ j < B.length
  bd : ∀ i j, g j i = true → i < A.length ∧ j < B.length
  mx : ∀ R S, Sim A B R S → Le2 R f ∧ Le2 S g

theorem upd_le {f : Nat → Nat → Bool} {x y i j : Nat} (h : upd f x y i j = true) : f i j = true := by
  simp only [upd] at h
  split at h
  · cases h
  · exact h

def prs (n m : Nat) : List (Nat × Nat) := (List.range n).flatMap fun r => (List.range m).map fun c => (r, c)
theorem mem_prs {n m : Nat} {p : Nat × Nat} : p ∈ prs n m ↔ p.1 < n ∧ p.2 < m := by
  unfold prs
  simp only [List.mem_flatMap, List.mem_range, List.mem_map]
  constructor
  · rintro ⟨r, hr, c, hc, rfl⟩; exact ⟨hr, hc⟩
  · rintro ⟨h1, h2⟩; exact ⟨p.1, h1, p.2, h2, rfl⟩

theorem countP_le' {α : Type} {p q : α → Bool} : ∀ {l : List α}, (∀ x ∈ l, q x = true → p x = true) → l.countP q ≤ l.countP p
  | [], _ => by simp
  | x :: l, h => by
    have ih := countP_le' (l := l) fun y hy => h y (by simp [hy])
    rw [List.countP_cons, List.countP_cons]
    by_cases hq : q x = true
    · rw [if_pos hq, if_pos (h x (by simp) hq)]; omega
    · rw [if_neg hq]; split <;> omega

theorem countP_lt {α : Type} {p q : α → Bool} : ∀ {l : List α} {x : α}, x ∈ l → p x = true → q x = false → (∀ y ∈ l, q y = true → p y = true) → l.countP q < l.countP p
  | [], x, hx, _, _, _ => by simp at hx
  | y :: l, x, hx, hp, hq, h => by
    rw [List.countP_cons, List.countP_cons]
    rcases List.mem_cons.1 hx with rfl | hx
    · rw [if_pos hp, if_neg (by simp [hq])]
      have := countP_le' (l := l) fun z hz => h z (by simp [hz])
      omega
    · have := countP_lt (l := l) hx hp hq fun z hz => h z (by simp [hz])
      by_cases hqy : q y = true
      · rw [if_pos hqy, if_pos (h y (by simp) hqy)]; omega
      · rw [if_neg hqy]; split <;> omega

def cnt (n m : Nat) (f : Nat → Nat → Bool) : Nat := (prs n m).countP fun p => f p.1 p.2

theorem cnt_upd {n m x y : Nat} {f : Nat → Nat → Bool} (hx : x < n) (hy : y < m) (hf : f x y = true) : cnt n m (upd f x y) < cnt n m f := by
  unfold cnt
  refine countP_lt (x := (x, y)) (mem_prs.2 ⟨hx, hy⟩) hf (by simp [upd]) fun p hp hq => ?_
  simp only [upd] at hq
  split at hq
  · cases hq
  · exact hq

theorem Max.up {A B : List Hd} {f g : Nat → Nat → Bool} {x y : Nat} {h k : Hd} (hx : A[x]? = some h) (hy : B[y]? = some k) (hm : Max A B f g) (hno : mayB B f g h k = false) : Max A B (upd f x y) g := by
  refine ⟨fun i j h => hm.bu i j (upd_le h), hm.bd, ?_⟩
  intro R S hs
  obtain ⟨m1, m2⟩ := hm.mx R S hs
  refine ⟨fun i j hR => ?_, m2⟩
  simp only [upd]
  split
  · rename_i hc
    obtain ⟨rfl, rfl⟩ := hc
    have := mayB_mono m1 m2 (hs.up i j h k hx hy hR)
    rw [hno] at this; cases this
  · exact m1 i j hR

theorem Max.dn {A B : List Hd} {f g : Nat → Nat → Bool} {x y : Nat} {h k : Hd} (hx : A[x]? = some h) (hy : B[y]? = some k) (hm : Max A B f g) (hno : mayB A g f k h = false) : Max A B f (upd g y x) := by
  refine ⟨hm.bu, fun i j h => hm.bd i j (upd_le h), ?_⟩
  intro R S hs
  obtain ⟨m1, m2⟩ := hm.mx R S hs
  refine ⟨m1, fun j i hS => ?_⟩
  simp only [upd]
  split
  · rename_i hc
    obtain ⟨rfl, rfl⟩ := hc
    have := mayB_mono m2 m1 (hs.dn i j h k hx hy hS)
    rw [hno] at this; cases this
  · exact m2 j i hS

/-- Nothing is left to strike at these pairs. -/
def FixAt (A B : List Hd) (f g : Nat → Nat → Bool) (i j : Nat) : Prop := ∀ h k, A[i]? = some h → B[j]? = some k → (f i j = true → mayB B f g h k = true) ∧ (g j i = true → mayB A g f k h = true)

/-! ### The memory -/
structure N22 (A H : Heap) (tp : Nat) (a b up down : AVal) (n m : Nat) (f g : Nat → Nat → Bool) (iu id : Nat) (idu idd : Nat → Nat) : Prop where
  ex : Ex A H
  lt : A.nx ≤ tp ∧ tp < H.nx
  ob : H.get tp = some (.row [a, b, up, down] true)
  tu : Tab H up n m f iu idu
  td : Tab H down m n g id idd
  lu : A.nx ≤ iu ∧ ∀ r, r < n → A.nx ≤ idu r ∧ idu r ≠ tp ∧ idu r ≠ id
  ld : A.nx ≤ id ∧ ∀ r, r < m → A.nx ≤ idd r ∧ idd r ≠ tp ∧ idd r ≠ iu
  ud : ∀ r s, r < n → s < m → idu r ≠ idd s
  it : iu ≠ tp ∧ id ≠ tp

theorem Tab.keep {H : Heap} {v : AVal} {n m : Nat} {f : Nat → Nat → Bool} {i : Nat} {id : Nat → Nat} (t : Tab H v n m f i id) {q : Nat} {o : AObj} (h1 : q ≠ i) (h2 : ∀ r, r < n → q ≠ id r) : Tab (H.put q o) v n m f i id :=
  ⟨t.sh, t.hi, by rw [Heap.get_put, if_neg (fun e => h1 e.symm)]; exact t.ho, fun r hr => ⟨(t.hr r hr).1, (t.hr r hr).2.1, by rw [Heap.get_put, if_neg (fun e => h2 r hr e.symm)]; exact (t.hr r hr).2.2⟩, t.inj⟩

theorem splice_set {l : List AVal} {y : Nat} {v : AVal} (h : y < l.length) : splice l y [v] = l.set y v := by
  rw [List.set_eq_take_append_cons_drop, if_pos h]
  simp [splice]

theorem Tab.set {H : Heap} {v : AVal} {n m : Nat} {f : Nat → Nat → Bool} {i : Nat} {id : Nat → Nat} (t : Tab H v n m f i id) {x y : Nat} (hx : x < n) (hy : y < m) :
    aStore H (.p (id x) y) (.b false) 1 = some (H.put (id x) (.row ((List.range m).map fun c => .b (upd f x y x c)) true)) ∧ Tab (H.put (id x) (.row ((List.range m).map fun c => .b (upd f x y x c)) true)) v n m (upd f x y) i id := by
  obtain ⟨h1, h2, h3⟩ := t.hr x hx
  refine ⟨?_, t.sh, t.hi, by rw [Heap.get_put, if_neg (fun e => h2 e.symm)]; exact t.ho, fun r hr => ⟨(t.hr r hr).1, (t.hr r hr).2.1, ?_⟩, t.inj⟩
  · simp only [aStore, cells_b, h3]
    rw [if_pos ⟨rfl, by simp; omega⟩]
    rw [splice_set (by simp; omega)]
    congr 3
    apply List.ext_getElem
    · simp
    · intro c hc1 hc2
      simp at hc2
      rw [List.getElem_set]
      simp only [List.getElem_map, List.getElem_range, upd, true_and]
      by_cases e : y = c
      · rw [if_pos e, if_pos e.symm]
      · rw [if_neg e, if_neg (fun e' => e e'.symm)]
  · rw [Heap.get_put]
    split
    · rename_i e
      have := t.inj r x hr hx e
      subst this
      rfl
    · rename_i e
      have hne : r ≠ x := by rintro rfl; exact e rfl
      rw [(t.hr r hr).2.2]
      congr 2
      apply List.map_congr_left
      intro c hc
      simp [upd, hne]

theorem N22.setU {A H : Heap} {tp : Nat} {a b up down : AVal} {n m : Nat} {f g : Nat → Nat → Bool} {iu id : Nat} {idu idd : Nat → Nat} (s : N22 A H tp a b up down n m f g iu id idu idd) {x y : Nat} (hx : x < n) (hy : y < m) :
    ∃ H', aStore H (.p (idu x) y) (.b false) 1 = some H' ∧ N22 A H' tp a b up down n m (upd f x y) g iu id idu idd := by
  obtain ⟨h1, h2⟩ := s.tu.set hx hy
  obtain ⟨l1, l2, l3⟩ := s.lu.2 x hx
  exact ⟨_, h1, s.ex.put l1 _, s.lt, by rw [Heap.get_put, if_neg (fun e => l2 e.symm)]; exact s.ob, h2, s.td.keep l3 fun r hr => s.ud x r hx hr, s.lu, s.ld, s.ud, s.it⟩

theorem N22.setD {A H : Heap} {tp : Nat} {a b up down : AVal} {n m : Nat} {f g : Nat → Nat → Bool} {iu id : Nat} {idu idd : Nat → Nat} (s : N22 A H tp a b up down n m f g iu id idu idd) {x y : Nat} (hx : x < m) (hy : y < n) :
    ∃ H', aStore H (.p (idd x) y) (.b false) 1 = some H' ∧ N22 A H' tp a b up down n m f (upd g x y) iu id idu idd := by
  obtain ⟨h1, h2⟩ := s.td.set hx hy
  obtain ⟨l1, l2, l3⟩ := s.ld.2 x hx
  exact ⟨_, h1, s.ex.put l1 _, s.lt, by rw [Heap.get_put, if_neg (fun e => l2 e.symm)]; exact s.ob, s.tu.keep l3 fun r hr e => s.ud r x hr hx e.symm, h2, s.lu, s.ld, s.ud, s.it⟩

/-! ### The walk -/
/-- What is known all along. -/
structure Bg (X : Heap) (a b : AVal) (A B : List Hd) : Prop where
  hA : Hds X a A
  hB : Hds X b B
  oA : ∀ (i : Nat) h, A[i]? = some h → HOk A.length h ∧ h.names.length < 1000000
  oB : ∀ (i : Nat) h, B[i]? = some h → HOk B.length h ∧ h.names.length < 1000000
  lA : 0 < A.length ∧ A.length < 1000000
  lB : 0 < B.length ∧ B.length < 1000000

theorem reg22_11 {X H : Heap} {T : Tm} {Q : Post} {tp : Nat} {a b up down : AVal} {A B : List Hd} {f g : Nat → Nat → Bool} {iu id : Nat} {idu idd : Nat → Nat} {i j : Nat} {h k : Hd} (z : Bg X a b A B) (s : N22 X H tp a b up down A.length B.length f g iu id idu idd) (hi : A[i]? = some h) (hj : B[j]? = some k)
    (h0 : T.get 0 = some a) (h1 : T.get 1 = some b) (h5 : T.get 5 = some (.p tp 0)) (h7 : T.get 7 = some (.i .i64 (i : Int))) (h8 : T.get 8 = some (.i .i64 (j : Int)))
    (hQ : ∀ T', Keep [0, 1, 5, 6, 7, 8, 25, 26, 30, 31] T T' → T'.get 59 = some (.b (f i j && !mayB B f g h k)) → Q .normal T' H) : runQ d22_11 [] [] T H Q := by
  have li := (List.getElem?_eq_some_iff.1 hi).1
  have lj := (List.getElem?_eq_some_iff.1 hj).1
  obtain ⟨p, w, q, e1, e2, e3, e4⟩ := s.tu.get (x := (i : Int)) (y := (j : Int)) ⟨by omega, by omega⟩ ⟨by omega, by omega⟩
  have e5 : tb f (i : Int) (j : Int) = f i j := rfl
  rw [e5] at e4
  cases hf : f i j with
  | false =>
    rw [hf] at e4
    simp [d22_11, h5, h7, h8, load_row s.ob, e1, e2, e3, e4]
    apply hQ <;> simp [Keep, hf, h5, h7, h8]
  | true =>
    rw [hf] at e4
    simp [d22_11, h0, h1, h5, h7, h8, load_row s.ob, e1, e2, e3, e4]
    refine Call.is (call34 (z.hA.ex s.ex) (z.hB.ex s.ex) hi hj s.tu s.td (z.oA i h hi).1 (z.oB j k hj).1 (z.oA i h hi).2 (z.oB j k hj).2) ?_
    simp [qC]
    apply hQ <;> simp [Keep, hf, h0, h1, h5, h7, h8]

theorem reg22_14 {X H : Heap} {T : Tm} {Q : Post} {tp : Nat} {a b up down : AVal} {A B : List Hd} {f g : Nat → Nat → Bool} {iu id : Nat} {idu idd : Nat → Nat} {i j : Nat} {h k : Hd} (z : Bg X a b A B) (s : N22 X H tp a b up down A.length B.length f g iu id idu idd) (hi : A[i]? = some h) (hj : B[j]? = some k)
    (h0 : T.get 0 = some a) (h1 : T.get 1 = some b) (h5 : T.get 5 = some (.p tp 0)) (h7 : T.get 7 = some (.i .i64 (i : Int))) (h8 : T.get 8 = some (.i .i64 (j : Int)))
    (hQ : ∀ T', Keep [0, 1, 5, 6, 7, 8, 25, 26, 30, 31] T T' → T'.get 94 = some (.b (g j i && !mayB A g f k h)) → Q .normal T' H) : runQ d22_14 [] [] T H Q := by
  have li := (List.getElem?_eq_some_iff.1 hi).1
  have lj := (List.getElem?_eq_some_iff.1 hj).1
  obtain ⟨p, w, q, e1, e2, e3, e4⟩ := s.td.get (x := (j : Int)) (y := (i : Int)) ⟨by omega, by omega⟩ ⟨by omega, by omega⟩
  have e5 : tb g (j : Int) (i : Int) = g j i := rfl
  rw [e5] at e4
  cases hf : g j i with
  | false =>
    rw [hf] at e4
    simp [d22_14, h5, h7, h8, load_row s.ob, e1, e2, e3, e4]
    apply hQ <;> simp [Keep, hf, h5, h7, h8]
  | true =>
    rw [hf] at e4
    simp [d22_14, h0, h1, h5, h7, h8, load_row s.ob, e1, e2, e3, e4]
    refine Call.is (call34 (z.hB.ex s.ex) (z.hA.ex s.ex) hj hi s.td s.tu (z.oB j k hj).1 (z.oA i h hi).1 (z.oB j k hj).2 (z.oA i h hi).2) ?_
    simp [qC]
    apply hQ <;> simp [Keep, hf, h0, h1, h5, h7, h8]

/-- How far a pass is. -/
structure Pass (A B : List Hd) (c0 : Nat) (again : Bool) (f g : Nat → Nat → Bool) (i j : Nat) : Prop where
  mx : Max A B f g
  le : cnt A.length B.length f + cnt B.length A.length g ≤ c0
  lt : again = true → cnt A.length B.length f + cnt B.length A.length g < c0
  dn : again = false → ∀ i' j', (i' < i ∨ (i' = i ∧ j' < j)) → j' < B.length → FixAt A B f g i' j'

/-- One pair. -/
theorem body22 {X H : Heap} {T : Tm} {Q : Post} {tp : Nat} {a b up down : AVal} {A B : List Hd} {f g : Nat → Nat → Bool} {iu id : Nat} {idu idd : Nat → Nat} {i j c0 : Nat} {h k : Hd} {again : Bool} (z : Bg X a b A B) (s : N22 X H tp a b up down A.length B.length f g iu id idu idd) (ps : Pass A B c0 again f g i j) (hi : A[i]? = some h) (hj : B[j]? = some k)
    (h0 : T.get 0 = some a) (h1 : T.get 1 = some b) (h5 : T.get 5 = some (.p tp 0)) (h6 : T.get 6 = some (.b again)) (h7 : T.get 7 = some (.i .i64 (i : Int))) (h8 : T.get 8 = some (.i .i64 (j : Int)))
    (hQ : ∀ T' H' again' f' g', Keep [0, 1, 5, 7, 25, 26, 30, 31] T T' → T'.get 6 = some (.b again') → N22 X H' tp a b up down A.length B.length f' g' iu id idu idd → Pass A B c0 again' f' g' i (j + 1) → Q .normal T' H') :
    run (.seq (.seq (.draw d22_11) (.mask [0, 1, 5, 6, 7, 8, 25, 26, 30, 31, 59] (.cond (.t 59) (.seq (.region r22_12) (.mask [0, 1, 5, 7, 8, 25, 26, 30, 31] (.region r22_13))) .skip))) (.mask [0, 1, 5, 6, 7, 8, 25, 26, 30, 31] (.seq (.draw d22_14) (.mask [0, 1, 5, 6, 7, 8, 25, 26, 30, 31, 94] (.cond (.t 94) (.seq (.region r22_15) (.mask [0, 1, 5, 7, 25, 26, 30, 31] (.region r22_16))) .skip))))) T H Q := by
  have li := (List.getElem?_eq_some_iff.1 hi).1
  have lj := (List.getElem?_eq_some_iff.1 hj).1
  -- the second half
  have half : ∀ (T1 : Tm) (H1 : Heap) (ag : Bool) (f1 : Nat → Nat → Bool), Keep [0, 1, 5, 7, 8, 25, 26, 30, 31] T T1 → T1.get 6 = some (.b ag) → N22 X H1 tp a b up down A.length B.length f1 g iu id idu idd → Max A B f1 g → cnt A.length B.length f1 + cnt B.length A.length g ≤ c0 →
      (ag = true → cnt A.length B.length f1 + cnt B.length A.length g < c0) → (ag = false → f1 = f ∧ again = false ∧ (f i j = true → mayB B f g h k = true)) → run (.draw d22_14) T1 H1 (seqK (run (.mask [0, 1, 5, 6, 7, 8, 25, 26, 30, 31, 94] (.cond (.t 94) (.seq (.region r22_15) (.mask [0, 1, 5, 7, 25, 26, 30, 31] (.region r22_16))) .skip))) Q) := by
    intro T1 H1 ag f1 hk g6 s1 mx le lt dn
    have k0 := (hk 0 (by simp)).trans h0
    have k1 := (hk 1 (by simp)).trans h1
    have k5 := (hk 5 (by simp)).trans h5
    have k7 := (hk 7 (by simp)).trans h7
    have k8 := (hk 8 (by simp)).trans h8
    rw [run_draw]
    refine reg22_14 z s1 hi hj k0 k1 k5 k7 k8 fun T2 hk2 h94 => ?_
    have m5 := (hk2 5 (by simp)).trans k5
    have m6 := (hk2 6 (by simp)).trans g6
    have m7 := (hk2 7 (by simp)).trans k7
    have m8 := (hk2 8 (by simp)).trans k8
    have kk : Keep [0, 1, 5, 7, 25, 26, 30, 31] T T2 := fun t ht => (hk2 t (by simp at ht ⊢; omega)).trans (hk t (by simp at ht ⊢; omega))
    cases hc : (g j i && !mayB A g f1 k h) with
    | true =>
      rw [hc] at h94
      have hg1 : g j i = true := by revert hc; cases g j i <;> simp
      have hno : mayB A g f1 k h = false := by revert hc; rw [hg1]; simp
      obtain ⟨H2, st, s2⟩ := s1.setD (x := j) (y := i) lj li
      have q1 := sidx_at (es := 1) (k := .i64) (v := .sl id 0 B.length none 1) (n := B.length) rfl lj
      have q2 := sidx_at (es := 1) (k := .i64) (v := .sl (idd j) 0 A.length none 1) (n := A.length) rfl li
      have q3 : aLoad H1 (.p id j) 1 false = some (.sl (idd j) 0 A.length none 1) := by rw [load_row s1.td.ho]; simp [lj]
      have hdn := s1.td.sh
      subst hdn
      simp at q1 q2
      simp [h94, r22_15, m5, m7, m8, load_row s1.ob, q1, q2, q3, st, r22_16]
      have hcnt := cnt_upd (n := B.length) (m := A.length) (f := g) lj li hg1
      refine hQ _ _ true f1 (upd g j i) (fun t ht => ?_) (by simp) s2 ⟨mx.dn hi hj hno, by omega, fun _ => by omega, fun e => by cases e⟩
      have := kk t ht
      simp at ht
      rcases ht with rfl | rfl | rfl | rfl | rfl | rfl | rfl | rfl <;> simpa using this
    | false =>
      rw [hc] at h94
      simp [h94]
      refine hQ _ _ ag f1 g kk m6 s1 ⟨mx, le, lt, fun e => ?_⟩
      obtain ⟨rfl, e2, e3⟩ := dn e
      intro i' j' hij hj'
      by_cases hnew : i' = i ∧ j' = j
      · obtain ⟨rfl, rfl⟩ := hnew
        intro h' k' hh' hk'
        rw [hi] at hh'
        rw [hj] at hk'
        obtain rfl := Option.some.inj hh'
        obtain rfl := Option.some.inj hk'
        refine ⟨e3, fun hg => ?_⟩
        rw [hg] at hc
        simpa using hc
      · exact ps.dn e2 i' j' (by omega) hj'
  rw [run_seq, run_seq, run_draw]
  refine reg22_11 z s hi hj h0 h1 h5 h7 h8 fun T1 hk1 h59 => ?_
  have m5 := (hk1 5 (by simp)).trans h5
  have m6 := (hk1 6 (by simp)).trans h6
  have m7 := (hk1 7 (by simp)).trans h7
  have m8 := (hk1 8 (by simp)).trans h8
  cases hc : (f i j && !mayB B f g h k) with
  | true =>
    rw [hc] at h59
    have hf1 : f i j = true := by revert hc; cases f i j <;> simp
    have hno : mayB B f g h k = false := by revert hc; rw [hf1]; simp
    obtain ⟨H2, st, s2⟩ := s.setU (x := i) (y := j) li lj
    have q1 := sidx_at (es := 1) (k := .i64) (v := .sl iu 0 A.length none 1) (n := A.length) rfl li
    have q2 := sidx_at (es := 1) (k := .i64) (v := .sl (idu i) 0 B.length none 1) (n := B.length) rfl lj
    have q3 : aLoad H (.p iu i) 1 false = some (.sl (idu i) 0 B.length none 1) := by rw [load_row s.tu.ho]; simp [li]
    have hdn := s.tu.sh
    subst hdn
    simp at q1 q2
    simp only [seqK_normal, run_mask, run_cond, ev_t, h59, cndK_true, run_seq, run_region]
    simp [r22_12, m5, m7, m8, load_row s.ob, q1, q2, q3, st, r22_13]
    have hcnt := cnt_upd (n := A.length) (m := B.length) (f := f) li lj hf1
    have := ps.le
    have hh := half (T1.put 60 (.p tp 0)) H2
    refine half _ H2 true (upd f i j) (fun t ht => ?_) (by simp) s2 (ps.mx.up hi hj hno) (by omega) (fun _ => by omega) (fun e => by cases e)
    have := hk1 t (by simp at ht ⊢; omega)
    simp at ht
    rcases ht with rfl | rfl | rfl | rfl | rfl | rfl | rfl | rfl | rfl <;> simpa using this
  | false =>
    rw [hc] at h59
    simp only [seqK_normal, run_mask, run_cond, ev_t, h59, cndK_false, run_seq, run_skip]
    refine half T1 H again f (fun t ht => hk1 t (by simp at ht ⊢; omega)) m6 s ps.mx ps.le ps.lt fun e => ⟨rfl, e, fun hf => ?_⟩
    rw [hf] at hc
    simpa using hc

/-- A pass under way. -/
def Und (X : Heap) (tp : Nat) (a b up down : AVal) (A B : List Hd) (iu id : Nat) (idu idd : Nat → Nat) (c0 i j : Nat) (T : Tm) (H : Heap) : Prop :=
  ∃ ag f' g', T.get 6 = some (.b ag) ∧ N22 X H tp a b up down A.length B.length f' g' iu id idu idd ∧ Pass A B c0 ag f' g' i j

theorem lp22_0 {X H : Heap} {T : Tm} {Q : Post} {tp : Nat} {a b up down : AVal} {A B : List Hd} {f g : Nat → Nat → Bool} {iu id : Nat} {idu idd : Nat → Nat} {i c0 : Nat} {h : Hd} {again : Bool} (z : Bg X a b A B) (s : N22 X H tp a b up down A.length B.length f g iu id idu idd) (ps : Pass A B c0 again f g i 0) (hi : A[i]? = some h)
    (h0 : T.get 0 = some a) (h1 : T.get 1 = some b) (h5 : T.get 5 = some (.p tp 0)) (h6 : T.get 6 = some (.b again)) (h7 : T.get 7 = some (.i .i64 (i : Int))) (h30 : T.get 30 = some (.i .i64 (B.length : Int))) (h31 : T.get 31 = some (.i .i64 0))
    (hQ : ∀ T' H' again' f' g', Keep [0, 1, 5, 25, 26] T T' → T'.get 6 = some (.b again') → N22 X H' tp a b up down A.length B.length f' g' iu id idu idd → Pass A B c0 again' f' g' (i + 1) 0 → Q (.exit 4) T' H') : Loop l22_0 T H Q := by
  refine Loop.by (fun m T' H' => Keep [0, 1, 5, 7, 25, 26, 30] T T' ∧ ∃ j : Nat, j + m = B.length ∧ T'.get 31 = some (.i .i64 (j : Int)) ∧ Und X tp a b up down A B iu id idu idd c0 i j T' H') B.length ?_ ?_
  · exact ⟨fun t _ => rfl, 0, by simp, h31, ⟨again, f, g, h6, s, ps⟩⟩
  · rintro m T1 H1 ⟨hkp, j, hjm, g31, ⟨ag, f1, g1, g6, s1, p1⟩⟩
    have k0 := (hkp 0 (by simp)).trans h0
    have k1 := (hkp 1 (by simp)).trans h1
    have k5 := (hkp 5 (by simp)).trans h5
    have k7 := (hkp 7 (by simp)).trans h7
    have k25 := hkp 25 (by simp)
    have k26 := hkp 26 (by simp)
    have k30 := (hkp 30 (by simp)).trans h30
    by_cases hj : j < B.length
    · obtain ⟨k, hk⟩ : ∃ y, B[j]? = some y := ⟨_, List.getElem?_eq_getElem hj⟩
      have hlt : (j : Int) < (B.length : Int) := by omega
      simp only [l22_0, run_mask, run_seq, run_region, run_block, run_cond, run_skip, run_exit]
      simp only [r22_9, runO_pure, p_bin, ev_t, g31, k30, Option.bind_some, b_lss, hlt, decide_true, kV_some, putO_some, runO_nil, seqK_normal, run_mask, run_seq, run_cond, Tr.get_put, if_true, cndK_true, run_skip, run_block, run_region]
      simp only [r22_10, runO_pure, p_mov', ev_t, Tr.get_put, g31, kV_some, putO_some, runO_nil, seqK_normal, if_true, Nat.reduceEqDiff, if_false]
      rw [run_mask]
      refine body22 z s1 p1 hi hk (by simp [k0]) (by simp [k1]) (by simp [k5]) (by simp [g6]) (by simp [k7]) (by simp) fun T2 H2 ag2 f2 g2 hk2 g62 s2 p2 => ?_
      have m0 := hk2 0 (by simp)
      have m1 := hk2 1 (by simp)
      have m5 := hk2 5 (by simp)
      have m7 := hk2 7 (by simp)
      have m25 := hk2 25 (by simp)
      have m26 := hk2 26 (by simp)
      have m30 := hk2 30 (by simp)
      have m31 := hk2 31 (by simp)
      simp at m0 m1 m5 m7 m25 m26 m30 m31
      simp [r22_17, m31, g31, b_inc (show j < 4611686018427387904 by have := z.lB; omega)]
      refine ⟨m - 1, by omega, fun t ht => ?_, j + 1, by omega, by simp, ⟨ag2, f2, g2, by simp [g62], s2, p2⟩⟩
      simp at ht
      rcases ht with rfl | rfl | rfl | rfl | rfl | rfl | rfl <;> simp [m0, m1, m5, m7, m25, m26, m30, k0, k1, k5, k7, k25, k26, k30, h0, h1, h5, h7, h30]
    · have hlt : ¬ (j : Int) < (B.length : Int) := by omega
      simp [l22_0, r22_9, g31, k30, hlt]
      refine hQ _ _ ag f1 g1 (fun t ht => ?_) (by simp [g6]) s1 ⟨p1.mx, p1.le, p1.lt, fun e i' j' hij hj' => p1.dn e i' j' (by omega) hj'⟩
      simp at ht
      rcases ht with rfl | rfl | rfl | rfl | rfl <;> simp [k0, k1, k5, k25, k26, h0, h1, h5]

theorem lp22_1 {X H : Heap} {T : Tm} {Q : Post} {tp : Nat} {a b up down : AVal} {A B : List Hd} {f g : Nat → Nat → Bool} {iu id : Nat} {idu idd : Nat → Nat} {c0 : Nat} {again : Bool} (z : Bg X a b A B) (s : N22 X H tp a b up down A.length B.length f g iu id idu idd) (ps : Pass A B c0 again f g 0 0)
    (h0 : T.get 0 = some a) (h1 : T.get 1 = some b) (h5 : T.get 5 = some (.p tp 0)) (h6 : T.get 6 = some (.b again)) (h25 : T.get 25 = some (.i .i64 (A.length : Int))) (h26 : T.get 26 = some (.i .i64 0))
    (hQ : ∀ T' H' again' f' g', Keep [0, 1, 5] T T' → T'.get 6 = some (.b again') → N22 X H' tp a b up down A.length B.length f' g' iu id idu idd → Pass A B c0 again' f' g' A.length 0 → Q (.exit 2) T' H') : Loop l22_1 T H Q := by
  refine Loop.by (fun m T' H' => Keep [0, 1, 5, 25] T T' ∧ ∃ i : Nat, i + m = A.length ∧ T'.get 26 = some (.i .i64 (i : Int)) ∧ Und X tp a b up down A B iu id idu idd c0 i 0 T' H') A.length ?_ ?_
  · exact ⟨fun t _ => rfl, 0, by simp, h26, ⟨again, f, g, h6, s, ps⟩⟩
  · rintro m T1 H1 ⟨hkp, i, him, g26, ⟨ag, f1, g1, g6, s1, p1⟩⟩
    have k0 := (hkp 0 (by simp)).trans h0
    have k1 := (hkp 1 (by simp)).trans h1
    have k5 := (hkp 5 (by simp)).trans h5
    have k25 := (hkp 25 (by simp)).trans h25
    by_cases hi : i < A.length
    · obtain ⟨h, hh⟩ : ∃ y, A[i]? = some y := ⟨_, List.getElem?_eq_getElem hi⟩
      have hlt : (i : Int) < (A.length : Int) := by omega
      simp [l22_1, r22_6, r22_7, r22_8, g26, k25, hlt, k1, z.hB.len]
      refine lp22_0 z s1 p1 hh (by simp [k0]) (by simp [k1]) (by simp [k5]) (by simp [g6]) (by simp) (by simp) (by simp) fun T2 H2 ag2 f2 g2 hk2 g62 s2 p2 => ?_
      have m0 := hk2 0 (by simp)
      have m1 := hk2 1 (by simp)
      have m5 := hk2 5 (by simp)
      have m25 := hk2 25 (by simp)
      have m26 := hk2 26 (by simp)
      simp at m0 m1 m5 m25 m26
      simp [r22_18, m26, g26, b_inc (show i < 4611686018427387904 by have := z.lA; omega)]
      refine ⟨m - 1, by omega, fun t ht => ?_, i + 1, by omega, by simp, ⟨ag2, f2, g2, by simp [g62], s2, p2⟩⟩
      simp at ht
      rcases ht with rfl | rfl | rfl | rfl <;> simp [m0, m1, m5, m25, k0, k1, k5, k25, h0, h1, h5, h25]
    · have hlt : ¬ (i : Int) < (A.length : Int) := by omega
      have hiA : i = A.length := by omega
      subst hiA
      simp [l22_1, r22_6, g26, k25]
      refine hQ _ _ ag f1 g1 (fun t ht => ?_) (by simp [g6]) s1 p1
      simp at ht
      rcases ht with rfl | rfl | rfl <;> simp [k0, k1, k5, h0, h1, h5]

/-- All is settled. -/
def Fix (A B : List Hd) (f g : Nat → Nat → Bool) : Prop := ∀ i j, i < A.length → j < B.length → FixAt A B f g i j

/-- Ahead of a pass. -/
def Ahead (X : Heap) (tp : Nat) (a b up down : AVal) (A B : List Hd) (iu id : Nat) (idu idd : Nat → Nat) (m : Nat) (T : Tm) (H : Heap) : Prop :=
  ∃ ag f' g', T.get 6 = some (.b ag) ∧ N22 X H tp a b up down A.length B.length f' g' iu id idu idd ∧ Max A B f' g' ∧ (ag = false → Fix A B f' g') ∧ m = 2 * (cnt A.length B.length f' + cnt B.length A.length g') + (if ag then 1 else 0)
/-- The tables, made. -/
def Made22 (X : Heap) (a b : AVal) (A B : List Hd) (v : AVal) (H : Heap) : Prop :=
  ∃ tp up down f g iu id idu idd, v = .p tp 0 ∧ N22 X H tp a b up down A.length B.length f g iu id idu idd ∧ Max A B f g ∧ Fix A B f g

theorem lp22_2 {X H : Heap} {T : Tm} {Q : Post} {tp : Nat} {a b up down : AVal} {A B : List Hd} {f g : Nat → Nat → Bool} {iu id : Nat} {idu idd : Nat → Nat} (z : Bg X a b A B) (s : N22 X H tp a b up down A.length B.length f g iu id idu idd) (mx : Max A B f g)
    (h0 : T.get 0 = some a) (h1 : T.get 1 = some b) (h5 : T.get 5 = some (.p tp 0)) (h6 : T.get 6 = some (.b true))
    (hQ : ∀ T' H' f' g', T'.get 5 = some (.p tp 0) → N22 X H' tp a b up down A.length B.length f' g' iu id idu idd → Max A B f' g' → Fix A B f' g' → Q (.exit 0) T' H') : Loop l22_2 T H Q := by
  refine Loop.by (fun m T' H' => Keep [0, 1, 5] T T' ∧ Ahead X tp a b up down A B iu id idu idd m T' H') (2 * (cnt A.length B.length f + cnt B.length A.length g) + 1) ?_ ?_
  · exact ⟨fun t _ => rfl, ⟨true, f, g, h6, s, mx, (fun e => by cases e), by simp⟩⟩
  · rintro m T1 H1 ⟨hkp, ⟨ag, f1, g1, g6, s1, mx1, fx1, hm⟩⟩
    have k0 := (hkp 0 (by simp)).trans h0
    have k1 := (hkp 1 (by simp)).trans h1
    have k5 := (hkp 5 (by simp)).trans h5
    cases ag with
    | false =>
      simp [l22_2, r22_3, g6]
      exact hQ _ _ f1 g1 (by simp [k5]) s1 mx1 (fx1 rfl)
    | true =>
      simp [l22_2, r22_3, r22_4, r22_5, g6, k0, z.hA.len]
      refine lp22_1 (c0 := cnt A.length B.length f1 + cnt B.length A.length g1) (again := false) z s1 ⟨mx1, Nat.le_refl _, (fun e => by cases e), fun _ i' j' hij => by omega⟩ (by simp [k0]) (by simp [k1]) (by simp [k5]) (by simp) (by simp) (by simp) fun T2 H2 ag2 f2 g2 hk2 g62 s2 p2 => ?_
      have m0 := hk2 0 (by simp)
      have m1 := hk2 1 (by simp)
      have m5 := hk2 5 (by simp)
      simp at m0 m1 m5
      simp only [blkK_exit, if_true, blkK_normal, lpK_normal]
      refine ⟨_, ?_, fun t ht => ?_, ⟨ag2, f2, g2, g62, s2, p2.mx, fun e i j hi hj => p2.dn e i j (.inl hi) hj, rfl⟩⟩
      · have hle := p2.le
        cases ag2 with
        | false => simp [hm]; omega
        | true => have := p2.lt rfl; simp [hm]; omega
      · simp at ht
        rcases ht with rfl | rfl | rfl <;> simp [m0, m1, m5, k0, k1, k5, h0, h1, h5]

theorem Tab.congr {H : Heap} {v : AVal} {n m : Nat} {f f' : Nat → Nat → Bool} {i : Nat} {id : Nat → Nat} (t : Tab H v n m f i id) (h : ∀ r c, r < n → c < m → f r c = f' r c) : Tab H v n m f' i id :=
  ⟨t.sh, t.hi, t.ho, fun r hr => ⟨(t.hr r hr).1, (t.hr r hr).2.1, by
    rw [(t.hr r hr).2.2]
    congr 2
    apply List.map_congr_left
    intro c hc
    rw [h r c hr (by simpa using hc)]⟩, t.inj⟩

theorem call22 {X : Heap} {a b : AVal} {A B : List Hd} (z : Bg X a b A B) :
    Call 22 [a, b] X (Made22 X a b A B) := by
  refine Call.by (a := a22) rfl (by simp [a22]) ?_
  obtain ⟨lA, lA'⟩ := z.lA
  obtain ⟨lB, lB'⟩ := z.lB
  simp [a22, c22, r22_0, r22_1, z.hA.len, z.hB.len]
  refine Call.mono (call33 lA' lB' lB lA) ?_
  rintro up H1 _ ⟨e1, iu, idu, tu, u1, u2⟩
  simp [kC, z.hA.len, z.hB.len]
  refine Call.mono (call33 lB' lA' lA lB) ?_
  rintro down H2 _ ⟨e2, id, idd, td, d1, d2⟩
  have tu2 := tu.ex e2
  have hcu : up.cells? = some [up] := by rw [tu.sh]; rfl
  have hcd : down.cells? = some [down] := by rw [td.sh]; rfl
  have ex2 := e1.trans e2
  simp [kC, z.hA.cells, z.hB.cells, hcu, hcd, aFill, splice]
  have s0 : N22 X (H2.push (.row [a, b, up, down] true)) H2.nx a b up down A.length B.length (fun r c => decide (r < A.length) && decide (c < B.length)) (fun r c => decide (r < B.length) && decide (c < A.length)) iu id idu idd := by
    have hx : Ex H2 (H2.push (.row [a, b, up, down] true)) := (Ex.refl H2).push _
    have hu : ∀ r, r < A.length → idu r < H1.nx := fun r hr => (tu.hr r hr).1
    have := e2.nx
    have hiu := tu.hi
    have hid := td.hi
    refine ⟨ex2.trans hx, ⟨ex2.nx, by simp⟩, get_push_nx _ _, (tu2.ex hx).congr fun r c hr hc => by simp [hr, hc], (td.ex hx).congr fun r c hr hc => by simp [hr, hc], ⟨u1, fun r hr => ⟨u2 r hr, by have := hu r hr; omega, by have := hu r hr; omega⟩⟩, ⟨by have := e1.nx; omega, fun r hr => ⟨by have := d2 r hr; have := e1.nx; omega, by have := (td.hr r hr).1; omega, by have := d2 r hr; omega⟩⟩, fun r t hr ht => by have := hu r hr; have := d2 t ht; omega, by omega, by omega⟩
  simp [r22_2]
  refine lp22_2 z s0 ⟨fun i j h => by simpa using h, fun i j h => by simpa [and_comm] using h, fun R S hs => ⟨fun i j h => by simpa using hs.bu i j h, fun j i h => by simpa [and_comm] using hs.bd i j h⟩⟩ (by simp) (by simp) (by simp) (by simp) fun T3 H3 f g h5 s3 mx fx => ?_
  simp [r22_19, h5]
  exact ⟨H2.nx, up, down, f, g, iu, id, idu, idd, rfl, s3, mx, fx⟩

/-- Is the one graph below the other one? -/
def Below (a b : Gr) : Prop := ∃ R S, Sim a.l b.l R S ∧ R a.root.toNat b.root.toNat = true
def belB (a b : Gr) : Bool := by classical exact decide (Below a b)
theorem belB_iff (a b : Gr) : belB a b = true ↔ Below a b := by simp [belB]

/-- A graph that may be, and whose sizes fit. -/
structure Ok (g : Gr) : Prop where
  n0 : 0 < g.l.length
  n1 : g.l.length ≤ 4096
  r0 : 0 ≤ g.root
  r1 : g.root < g.l.length
  hd : ∀ (i : Nat) h, g.l[i]? = some h → HOk g.l.length h

theorem Fix.below {A B : Gr} {f g : Nat → Nat → Bool} (mx : Max A.l B.l f g) (fx : Fix A.l B.l f g) : f A.root.toNat B.root.toNat = belB A B := by
  rw [Bool.eq_iff_iff, belB_iff]
  constructor
  · intro h
    refine ⟨f, g, ⟨mx.bu, mx.bd, fun i j hh k hi hj hf => ?_, fun i j hh k hi hj hf => ?_⟩, h⟩
    · exact (fx i j (List.getElem?_eq_some_iff.1 hi).1 (List.getElem?_eq_some_iff.1 hj).1 hh k hi hj).1 hf
    · exact (fx i j (List.getElem?_eq_some_iff.1 hi).1 (List.getElem?_eq_some_iff.1 hj).1 hh k hi hj).2 hf
  · rintro ⟨R, S, hs, hR⟩
    exact (mx.mx R S hs).1 _ _ hR

theorem call14 {X : Heap} {va vb : AVal} {a b : Gr} (ha : GrOf X va a) (hb : GrOf X vb b) (oa : Ok a) (ob : Ok b) (fa : Fits a) (fb : Fits b) :
    Call 14 [va, vb] X fun v H' => H' = X ∧ v = .b (belB a b) := by
  refine Call.forget ?_
  obtain ⟨la, rfl, hla⟩ := ha
  obtain ⟨lb, rfl, hlb⟩ := hb
  refine Call.by (a := a14) rfl (by simp [a14]) ?_
  obtain ⟨X1, hX1⟩ : ∃ P, P = (X.push (.row [la, .i .i64 a.root] true)).push (.row [lb, .i .i64 b.root] true) := ⟨_, rfl⟩
  have ga : X1.get X.nx = some (.row [la, .i .i64 a.root] true) := by rw [hX1, get_push_old (by simp)]; simp
  have gb : X1.get (X.nx + 1) = some (.row [lb, .i .i64 b.root] true) := by rw [hX1]; exact get_push_nx _ _
  have hn1 : X1.nx = X.nx + 2 := by rw [hX1]; rfl
  have e1 : Ex X X1 := by rw [hX1]; exact ((Ex.refl X).push _).push _
  have z : Bg X1 la lb a.l b.l := by
    refine ⟨hla.ex e1, hlb.ex e1, fun i h hi => ⟨oa.hd i h hi, ?_⟩, fun i h hi => ⟨ob.hd i h hi, ?_⟩, ⟨oa.n0, by have := oa.n1; omega⟩, ⟨ob.n0, by have := ob.n1; omega⟩⟩
    · have := (fa h (List.mem_of_getElem? hi)).1; omega
    · have := (fb h (List.mem_of_getElem? hi)).1; omega
  simp [a14, c14, r14_0, hla.cells, hlb.cells]
  rw [← hX1]
  simp [d14_1, load_row ga, load_row gb]
  refine Call.mono (call22 z) ?_
  rintro v H2 _ ⟨tp, up, down, f, g, iu, id, idu, idd, rfl, s, mx, fx⟩
  have ga2 := s.ex.get _ (by omega) _ ga
  have gb2 := s.ex.get _ (by omega) _ gb
  obtain ⟨p, w, q, q1, q2, q3, q4⟩ := s.tu.get (x := a.root) (y := b.root) ⟨oa.r0, oa.r1⟩ ⟨ob.r0, ob.r1⟩
  have e5 : tb f a.root b.root = belB a b := Fix.below mx fx
  rw [e5] at q4
  simp only [qC]
  refine ⟨by simp, StillL.still ?_, ?_⟩
  · simp [StillL, stR, load_row ga, load_row gb, load_row ga2, load_row gb2]
  · simp [load_row s.ob, q1, q2, q3, q4]
    exact ⟨e1.trans s.ex, rfl⟩

end
end K
end Go.Proofs.YtlgbgbngdhhjaaaGreatDoor
