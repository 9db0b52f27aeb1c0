/- What the classes and the normal form come to. No condition. -/
import Derived.Test.YtlgbgbngdhhjaaaGreatDoorB08
import Derived.Test.YtlgbgbngdhhjaaaGreatDoorB09
set_option linter.unusedSimpArgs false
set_option linter.unusedVariables false
set_option maxRecDepth 10000
namespace Go.Proofs.YtlgbgbngdhhjaaaGreatDoor
namespace K
noncomputable section
open Go AM

def entS : Nat → List (List Nat) → List (AVal × AVal)
  | _, [] => []
  | n, p :: r => (.s p, .i .i64 ((n : Nat) : Int)) :: entS (n + 1) r

theorem find_entS (p : List Nat) : ∀ (ps : List (List Nat)) (n m : Nat), aFind .str (.s p) (entS n ps) m = some ((posG p ps n).map fun i => (m + (i - n), .i .i64 ((i : Nat) : Int)))
  | [], n, m => rfl
  | q :: r, n, m => by
    have he : aKeyEq .str (.s p) (.s q) = some (decide (p = q)) := by
      simp only [aKeyEq, aEqStr]
      congr 1
      rw [Bool.eq_iff_iff]; simp
    simp only [entS, aFind, he]
    by_cases hpq : p = q
    · simp [hpq, posG]
    · simp only [hpq, decide_false, posG, if_false]
      rw [find_entS p r (n + 1) (m + 1)]
      cases hp : posG p r (n + 1) with
      | none => rfl
      | some i =>
        have := (posG_ge hp).1
        simp; omega

theorem entS_snoc (p : List Nat) : ∀ (ps : List (List Nat)) (n : Nat), entS n (ps ++ [p]) = entS n ps ++ [(.s p, .i .i64 ((n + ps.length : Nat) : Int))]
  | [], n => by simp [entS]
  | q :: r, n => by
    simp only [List.cons_append, entS, entS_snoc p r (n + 1)]
    simp; omega
theorem entS_len : ∀ (ps : List (List Nat)) (n : Nat), (entS n ps).length = ps.length
  | [], _ => rfl
  | _ :: r, n => by simp [entS, entS_len r]

theorem app_one {H : Heap} {q : Nat} {ks : AVal} {kids : List Int} (hq : q < H.nx) (hg : H.get q = some (.row [.i .i64 (-1)] true)) (hk : Ints H ks kids) (hn : kids.length < 100000) :
    ∃ v' H', aApp H 1 8 (.sl q 0 1 (some 1) 1) ks = some (v', H') ∧ Ints H' v' (-1 :: kids) ∧ Ex H H' := by
  have hx := hk.news
  rw [List.length_map] at hx
  by_cases h0 : kids.length = 0
  · have : kids = [] := List.eq_nil_of_length_eq_zero h0
    subst this
    refine ⟨.sl q 0 1 (some 1) 1, H, ?_, Sl.all hg hq rfl, Ex.refl _⟩
    simp only [aApp, hx]; rfl
  · refine ⟨.sl H.nx 0 (1 + kids.length) none 1, H.push (.row ([.i .i64 (-1)] ++ kids.map (.i .i64)) true), ?_, Sl.all (get_push_nx _ _) (by simp) (by simp; omega), (Ex.refl H).push _⟩
    simp only [aApp, hx, hg, h0]
    simp [h0]
    omega

theorem itoaN_len (n : Nat) : (itoaN n).length ≤ n + 1 := by
  induction n using Nat.strongRecOn with
  | ind n ih =>
    by_cases h : n < 10
    · rw [itoaN_small h]; simp
    · rw [itoaN_big h]
      have := ih (n / 10) (by omega)
      simp; omega

theorem flat32_len {cs : List Nat} {m : Nat} (h : ∀ c ∈ cs, c < m) : ((cs.map fun c => 32 :: itoaN c).flatten).length ≤ cs.length * (m + 1) := by
  induction cs with
  | nil => simp
  | cons c r ih =>
    have h1 := h c (by simp)
    have h2 := ih fun c hc => h c (by simp [hc])
    have h3 := itoaN_len c
    simp only [List.map_cons, List.flatten_cons, List.length_append, List.length_cons, Nat.add_mul]
    omega

/-- The class that a number in the row stands for. -/
def clsOf (cls : List Nat) (i : Nat) (d : Int) : Nat := if 0 ≤ d then cls.getD d.toNat 0 else cls.getD i 0

def flC (cls : List Nat) (i : Nat) (ds : List Int) : List Nat := ((ds.map (clsOf cls i)).map fun c => 32 :: itoaN c).flatten
theorem flC_snoc (cls : List Nat) (i : Nat) (ds : List Int) (d : Int) : flC cls i (ds ++ [d]) = flC cls i ds ++ (32 :: itoaN (clsOf cls i d)) := by simp [flC]
theorem clsOf_lt {cls : List Nat} {i : Nat} (hcl : ∀ c ∈ cls, c < 5000) (d : Int) : clsOf cls i d < 5000 := by
  have : ∀ k, cls.getD k 0 < 5000 := fun k => by
    rw [List.getD_eq_getElem?_getD]
    cases hh : cls[k]? with
    | none => simp
    | some c => exact hcl c (List.mem_of_getElem? hh)
  unfold clsOf; split <;> exact this _
theorem flC_len {cls : List Nat} {i : Nat} (hcl : ∀ c ∈ cls, c < 5000) (ds : List Int) : (flC cls i ds).length ≤ ds.length * 5001 := by
  have := flat32_len (cs := ds.map (clsOf cls i)) (m := 5000) (fun c hc => by
    simp only [List.mem_map] at hc
    obtain ⟨d, _, rfl⟩ := hc
    exact clsOf_lt hcl d)
  rw [List.length_map] at this
  exact this

theorem lp71_0 {H : Heap} {T : Tm} {Q : Post} {cv kv : AVal} {cls : List Nat} {n i : Nat} {ds : List Int} {key : List Nat} (hc : Ints H cv (cls.map fun (c : Nat) => (c : Int))) (hl : cls.length = n) (hi : i < n) (hcl : ∀ c ∈ cls, c < 5000) (hk : Ints H kv ds) (hd : ∀ d ∈ ds, d = -1 ∨ (0 ≤ d ∧ d < (n : Int))) (hdn : ds.length < 100001) (hkl : key.length < 10000000000)
    (h3 : T.get 3 = some cv) (h7 : T.get 7 = some (.i .i64 (i : Int))) (h9 : T.get 9 = some (.s key)) (h34 : T.get 34 = some kv) (h35 : T.get 35 = some (.i .i64 (ds.length : Int))) (h36 : T.get 36 = some (.i .i64 0))
    (hQ : ∀ T', Keep [0, 3, 4, 5, 6, 7, 22, 23, 24] T T' → T'.get 9 = some (.s (key ++ flC cls i ds)) → Q (.exit 4) T' H) : Loop l71_0 T H Q := by
  refine Loop.by (fun r T' H' => H' = H ∧ Keep [0, 3, 4, 5, 6, 7, 22, 23, 24, 34, 35] T T' ∧ ∃ j : Nat, j + r = ds.length ∧ T'.get 36 = some (.i .i64 (j : Int)) ∧ T'.get 9 = some (.s (key ++ flC cls i (ds.take j)))) ds.length ?_ ?_
  · exact ⟨rfl, fun t _ => rfl, 0, by simp, h36, by simpa [flC] using h9⟩
  · rintro r T1 H1 ⟨rfl, hkp, j, hjr, g36, g9⟩
    have k3 := (hkp 3 (by simp)).trans h3
    have k7 := (hkp 7 (by simp)).trans h7
    have k34 := (hkp 34 (by simp)).trans h34
    have k35 := (hkp 35 (by simp)).trans h35
    by_cases hj : j < ds.length
    · obtain ⟨d, hdj⟩ : ∃ y, ds[j]? = some y := ⟨_, List.getElem?_eq_getElem hj⟩
      have hlt : (j : Int) < (ds.length : Int) := by omega
      have hdm := hd d (List.mem_of_getElem? hdj)
      have hsn : flC cls i (ds.take (j + 1)) = flC cls i (ds.take j) ++ (32 :: itoaN (clsOf cls i d)) := by
        rw [List.take_add_one, hdj]; exact flC_snoc _ _ _ _
      have hfl := flC_len (i := i) hcl (ds.take j)
      rw [List.length_take] at hfl
      obtain ⟨acc, hacc⟩ : ∃ z, z = key ++ flC cls i (ds.take j) := ⟨_, rfl⟩
      have hal : acc.length < 20000000000 := by
        rw [hacc, List.length_append]; omega
      rw [← hacc] at g9
      have hcd := clsOf_lt (i := i) hcl d
      obtain ⟨cd, hcdd⟩ : ∃ z, z = clsOf cls i d := ⟨_, rfl⟩
      rw [← hcdd] at hcd hsn
      have hil := itoaN_len cd
      have hcll : (cls.map fun (c : Nat) => (c : Int)).length = n := by simpa using hl
      have gt : ∀ k, k < n → (cls.map fun (c : Nat) => (c : Int))[k]? = some ((cls.getD k 0 : Nat) : Int) := fun k hk => by
        rw [List.getElem?_map, List.getD_eq_getElem?_getD, List.getElem?_eq_getElem (by omega)]; rfl
      have sx : ∀ k, k < n → sidx 1 cv (.i .i64 (k : Int)) = some (sptr 1 cv k) := fun k hk => sidx_at hc.len' (by rw [hcll]; exact hk)
      have a1 : aBin .add (.s [32]) (.s (itoaN cd)) = some (.s (32 :: itoaN cd)) := s_add (a := [32]) (b := itoaN cd) (by simp; omega)
      have a2 := s_add (a := acc) (b := 32 :: itoaN cd) (by simp; omega)
      have fin : ∀ T2 : Tm, Keep [0, 3, 4, 5, 6, 7, 22, 23, 24, 34, 35, 36, 9] T1 T2 → T2.get 12 = some (.i .i64 (cd : Int)) → runO r71_14 T2 H1 (blkK 5 (seqK (run (.mask [0, 3, 4, 5, 6, 7, 9, 22, 23, 24, 34, 35, 36] (.region r71_15))) (lpK (fun r T' H' => H' = H1 ∧ Keep [0, 3, 4, 5, 6, 7, 22, 23, 24, 34, 35] T T' ∧ ∃ j : Nat, j + r = ds.length ∧ T'.get 36 = some (.i .i64 (j : Int)) ∧ T'.get 9 = some (.s (key ++ flC cls i (ds.take j)))) r Q))) := by
        intro T2 hk2 h12
        have m9 := (hk2 9 (by simp)).trans g9
        have m36 := (hk2 36 (by simp)).trans g36
        simp [r71_14, m9, h12]
        refine Call.is (call105 (by omega)) ?_
        simp [kC, a1, m9, a2, r71_15, m36, b_inc (show j < 4611686018427387904 by omega)]
        refine ⟨r - 1, by omega, fun t ht => ?_, j + 1, by omega, by simp, ?_⟩
        · have e1 := hk2 t (by simp at ht ⊢; omega)
          have e2 := hkp t ht
          simp at ht
          rcases ht with rfl | rfl | rfl | rfl | rfl | rfl | rfl | rfl | rfl | rfl | rfl <;> simp [e1, e2]
        · rw [hsn, hacc]; simp
      simp [l71_0, r71_9, r71_10, r71_11, k3, k7, k34, k35, g36, hlt, sidx_at hk.len' hj, hk.get hdj, sx i hi, hc.get (gt i hi)]
      by_cases hd0 : 0 ≤ d
      · obtain ⟨dn, hdn⟩ : ∃ z : Nat, d = z := ⟨d.toNat, by omega⟩
        subst hdn
        have hdl : dn < n := by omega
        simp [r71_12, r71_13, k3, sx dn hdl, hc.get (gt dn hdl)]
        refine fin _ ?_ ?_
        · simp [Keep]
        · simp [hcdd, clsOf]
      · simp [r71_12, hd0]
        refine fin _ ?_ ?_
        · simp [Keep]
        · simp [hcdd, clsOf, hd0]
    · have hlt : ¬ (j : Int) < (ds.length : Int) := by omega
      rw [List.take_of_length_le (by omega)] at g9
      simp [l71_0, r71_9, k34, k35, g36, hlt]
      refine hQ _ (fun t ht => ?_) (by simp [g9])
      have e2 := hkp t (by simp at ht ⊢; omega)
      simp at ht
      rcases ht with rfl | rfl | rfl | rfl | rfl | rfl | rfl | rfl | rfl <;> simp [e2]

theorem flC_key {cls : List Nat} {i : Nat} {h : Hd} (hk : ∀ k ∈ h.kids, 0 ≤ k) : signC h ++ flC cls i (-1 :: h.kids) = keyC h (cls.getD i 0 :: kidsC cls h) := by
  unfold keyC flC kidsC
  congr 3
  simp only [List.map_cons]
  congr 1
  refine List.map_congr_left fun k hkm => ?_
  have := hk k hkm
  simp [clsOf, this]

/-- What is asked of heads that are to be put into classes. -/
structure LOk (L : List Hd) : Prop where
  n : L.length ≤ 4096
  s : ∀ h ∈ L, SOk h
  kid : ∀ h ∈ L, ∀ k ∈ h.kids, 0 ≤ k ∧ k < (L.length : Int)
  nn : ∀ h ∈ L, h.names.length < 100000 ∧ h.kids.length < 90000 ∧ ∀ s ∈ h.names, s.length < 60000

def intsR (l : List Nat) : List AVal := l.map fun (c : Nat) => .i .i64 (c : Int)

theorem intsR_map (l : List Nat) : (l.map fun (c : Nat) => (c : Int)).map (AVal.i .i64) = intsR l := by simp [intsR]

theorem row_set {nums : List Nat} {n j m : Nat} (h : nums.length = j) (hj : j < n) : splice (intsR (nums ++ List.replicate (n - j) 0)) j [.i .i64 (m : Int)] = intsR ((nums ++ [m]) ++ List.replicate (n - (j + 1)) 0) := by
  obtain ⟨k, hk⟩ : ∃ k, n - j = k + 1 := ⟨n - j - 1, by omega⟩
  have h2 : n - (j + 1) = k := by omega
  rw [hk, h2, List.replicate_succ]
  unfold splice intsR
  simp only [List.map_append, List.map_cons, List.length_cons, List.length_nil, List.map_nil]
  rw [List.take_append_of_le_length (by simp [h]), List.take_of_length_le (by simp [h]), List.drop_append, List.drop_of_length_le (by simp [h])]
  simp [h]

theorem lp71_1 {A B : Heap} {T : Tm} {Q : Post} {lv cv : AVal} {L : List Hd} {cls : List Nat} {qn qm : Nat} {kk : Option Nat} (o : LOk L) (hL : Hds A lv L) (eB : Ex A B) (q1 : A.nx ≤ qn ∧ qn < B.nx) (q2 : A.nx ≤ qm ∧ qm < B.nx ∧ qm ≠ qn) (gn : B.get qn = some (.row (intsR (List.replicate L.length 0)) true)) (gm : B.get qm = some (.map []))
    (hc : Ints B cv (cls.map fun (c : Nat) => (c : Int))) (hco : Outs [some qn, some qm] cv) (hl : cls.length = L.length) (hcl : ∀ c ∈ cls, c < 5000)
    (h3 : T.get 3 = some cv) (h5 : T.get 5 = some (.sl qn 0 L.length kk 1)) (h6 : T.get 6 = some (.m qm)) (h22 : T.get 22 = some lv) (h23 : T.get 23 = some (.i .i64 (L.length : Int))) (h24 : T.get 24 = some (.i .i64 0))
    (hQ : ∀ T' H', Keep [0, 3, 4, 5, 6] T T' → Fr [some qn, some qm] B H' → H'.get qn = some (.row (intsR (nextC L cls)) true) → H'.get qm = some (.map (entS 0 (foldG [] (keysC L cls)))) → Q (.exit 2) T' H') : Loop l71_1 T B Q := by
  have hkl : (keysC L cls).length = L.length := by simp [keysC]
  have on := o.n
  refine Loop.by (fun r T' H' => Keep [0, 3, 4, 5, 6, 22, 23] T T' ∧ Fr [some qn, some qm] B H' ∧ ∃ j : Nat, j + r = L.length ∧ T'.get 24 = some (.i .i64 (j : Int)) ∧ H'.get qn = some (.row (intsR (numG [] ((keysC L cls).take j) ++ List.replicate (L.length - j) 0)) true) ∧ H'.get qm = some (.map (entS 0 (foldG [] ((keysC L cls).take j))))) L.length ?_ ?_
  · exact ⟨fun t _ => rfl, ⟨Nat.le_refl _, fun _ _ _ _ h => h⟩, 0, by simp, h24, by simpa [numG] using gn, by simpa [foldG, entS] using gm⟩
  · rintro r T1 H1 ⟨hkp, fr, j, hjr, g24, gn1, gm1⟩
    have k3 := (hkp 3 (by simp)).trans h3
    have k5 := (hkp 5 (by simp)).trans h5
    have k6 := (hkp 6 (by simp)).trans h6
    have k22 := (hkp 22 (by simp)).trans h22
    have k23 := (hkp 23 (by simp)).trans h23
    have nxB := fr.nx
    have eA : Ex A H1 := ⟨by have := eB.nx; omega, fun i hi ob ho => fr.old i (by have := eB.nx; omega) (by simp; omega) ob (eB.get i hi ob ho)⟩
    by_cases hj : j < L.length
    · obtain ⟨h, hh⟩ : ∃ y, L[j]? = some y := ⟨_, List.getElem?_eq_getElem hj⟩
      have hm := List.mem_of_getElem? hh
      have so := o.s h hm
      have nn := o.nn h hm
      have ko := o.kid h hm
      obtain ⟨c, hcj⟩ : ∃ y, cls[j]? = some y := ⟨_, List.getElem?_eq_getElem (by omega)⟩
      have hcd : cls.getD j 0 = c := by rw [List.getD_eq_getElem?_getD, hcj]; rfl
      have hkj := keysC_get hh hcj
      have hlt : (j : Int) < (L.length : Int) := by omega
      obtain ⟨ns, ks, ld, n1, c1⟩ := (hL.ex eA).head hh
      -- the head's own copy
      obtain ⟨H2, hH2⟩ : ∃ P, P = (H1.push (.row [.i .i64 0, .nsl, .nsl, .b false] true)).put H1.nx (.row [.i .i64 h.kind, ns, ks, .b h.opn] true) := ⟨_, rfl⟩
      have st8 : aStore (H1.push (.row [.i .i64 0, .nsl, .nsl, .b false] true)) (.p H1.nx 0) (.agg [.i .i64 h.kind, ns, ks, .b h.opn]) 4 = some H2 := by
        rw [hH2]; simp [aStore, splice]
      have n2 : H2.nx = H1.nx + 1 := by rw [hH2]; rfl
      have old2 : ∀ i, i < H1.nx → H2.get i = H1.get i := fun i hi => by rw [hH2, Heap.get_put, if_neg (by omega), get_push_old hi]
      have e12 : Ex H1 H2 := ⟨by omega, fun i hi ob ho => by rw [old2 i hi]; exact ho⟩
      have g8 : H2.get H1.nx = some (.row [.i .i64 h.kind, ns, ks, .b h.opn] true) := by rw [hH2, Heap.get_put, if_pos rfl]
      have l8 : aLoad H2 (.p H1.nx 0) 4 true = some (.agg [.i .i64 h.kind, ns, ks, .b h.opn]) := by rw [load_agg (o := 0) (n := 4) g8 (by simp)]; rfl
      simp [l71_1, r71_5, r71_6, k22, k23, g24, hlt, sidx_at hL.len hj, ld, st8]
      simp [r71_7, l8]
      refine Call.is (call42 (h := h) ⟨ns, ks, rfl, n1.ex e12, c1.ex e12⟩ so.k nn.1 nn.2.2) ?_
      -- the row of numbers to look at
      have g8' : ∀ ob, (H2.push ob).get H1.nx = some (.row [.i .i64 h.kind, ns, ks, .b h.opn] true) := fun ob => by rw [get_push_old (by omega)]; exact g8
      have lks : ∀ ob, aLoad (H2.push ob) (.p H1.nx 2) 1 false = some ks := fun ob => by rw [load_row (g8' ob)]; rfl
      obtain ⟨kv, H3, ap, ik, e3⟩ := app_one (H := H2.push (.row [.i .i64 (-1)] true)) (q := H2.nx) (ks := ks) (kids := h.kids) (by simp) (get_push_nx _ _) ((c1.ex e12).ex ((Ex.refl _).push _)) (by omega)
      have ikl : AM.slen kv = some (h.kids.length + 1) := by have := ik.len'; simpa using this
      simp [kC, r71_8, lks, ap, ikl]
      have n3 := e3.nx
      simp at n3
      have e13 : Ex H1 H3 := e12.trans (((Ex.refl _).push _).trans e3)
      have hc1 := hc.fr fr hco
      refine lp71_0 (cls := cls) (n := L.length) (i := j) (ds := -1 :: h.kids) (key := signC h) (hc1.ex e13) hl hj hcl ik (fun d hd => ?_) (by simp; omega) ?_ (by simp [k3]) (by simp) (by simp) (by simp) (by simp) (by simp) fun T2 hk2 h9 => ?_
      · rcases List.mem_cons.1 hd with rfl | hd
        · exact .inl rfl
        · exact .inr (ko d hd)
      · have := colon_len (l := h.names) (m := 60000) nn.2.2
        unfold signC
        rw [List.length_append]
        have h1 : (if h.opn = true then [93] else [kindC.getD h.kind.toNat 0]).length = 1 := by split <;> rfl
        rw [h1]
        have := Nat.mul_lt_mul_of_pos_right nn.1 (show 0 < 60000 by decide)
        omega
      rw [flC_key (fun k hk => (ko k hk).1), hcd] at h9
      obtain ⟨key, hkey⟩ : ∃ z, z = keyC h (c :: kidsC cls h) := ⟨_, rfl⟩
      rw [← hkey] at h9 hkj
      have m3 := hk2 3 (by simp)
      have m4 := hk2 4 (by simp)
      have m5 := hk2 5 (by simp)
      have m6 := hk2 6 (by simp)
      have m7 := hk2 7 (by simp)
      have m0 := hk2 0 (by simp)
      have m22 := hk2 22 (by simp)
      have m23 := hk2 23 (by simp)
      have m24 := hk2 24 (by simp)
      simp [k3, k5, k6, k22, k23, g24] at m0 m3 m4 m5 m6 m7 m22 m23 m24
      simp
      obtain ⟨F, hF⟩ : ∃ z, z = foldG [] ((keysC L cls).take j) := ⟨_, rfl⟩
      obtain ⟨nums, hnums⟩ : ∃ z, z = numG [] ((keysC L cls).take j) := ⟨_, rfl⟩
      have hnl : nums.length = j := by rw [hnums, numG_length, List.length_take]; omega
      have htk : (keysC L cls).take (j + 1) = (keysC L cls).take j ++ [key] := by rw [List.take_add_one, hkj]; rfl
      have hF1 : foldG [] ((keysC L cls).take (j + 1)) = addG key F := by rw [htk, foldG_snoc, hF]
      have hN1 : numG [] ((keysC L cls).take (j + 1)) = nums ++ [idxG key F] := by rw [htk, numG_snoc, hF, hnums]
      rw [← hF] at gm1
      rw [← hnums] at gn1
      have gn3 := e13.get qn (by omega) _ gn1
      have gm3 := e13.get qm (by omega) _ gm1
      have hFl : F.length ≤ j := by
        have := foldG_le ((keysC L cls).take j) []
        rw [← hF, List.length_take] at this
        simp at this; omega
      have hlook : ∀ r, r = posG key F 0 → aLook H3 .str (.i .i64 0) true (.m qm) (.s key) = some (.tup [(match r with | some i => .i .i64 ((i : Nat) : Int) | none => .i .i64 0), .b r.isSome]) := fun r hr => by
        simp only [aLook, gm3]
        rw [find_entS key F 0 0, ← hr]
        cases r <;> rfl
      have fin : ∀ (T3 : Tm) (H4 : Heap), H4.get qn = H3.get qn → Fr [some qm] H3 H4 → H4.get qm = some (.map (entS 0 (addG key F))) → T3.get 13 = some (.i .i64 ((idxG key F : Nat) : Int)) → Keep [0, 3, 4, 5, 6, 7, 22, 23, 24] T2 T3 →
          runO r71_20 T3 H4 (blkK 3 (seqK (run (.mask [0, 3, 4, 5, 6, 22, 23, 24] (.region r71_21))) (lpK (fun r T' H' => Keep [0, 3, 4, 5, 6, 22, 23] T T' ∧ Fr [some qn, some qm] B H' ∧ ∃ j : Nat, j + r = L.length ∧ T'.get 24 = some (.i .i64 (j : Int)) ∧ H'.get qn = some (.row (intsR (numG [] ((keysC L cls).take j) ++ List.replicate (L.length - j) 0)) true) ∧ H'.get qm = some (.map (entS 0 (foldG [] ((keysC L cls).take j))))) r Q))) := by
        intro T3 H4 hqn fr4 hqm h13 hk3
        have p5 := (hk3 5 (by simp)).trans m5
        have p7 := (hk3 7 (by simp)).trans m7
        have p24 := (hk3 24 (by simp)).trans m24
        have p23 := (hk3 23 (by simp)).trans m23
        have p22 := (hk3 22 (by simp)).trans m22
        have p6 := (hk3 6 (by simp)).trans m6
        have p4 := (hk3 4 (by simp)).trans m4
        have p3 := (hk3 3 (by simp)).trans m3
        have p0 := (hk3 0 (by simp)).trans m0
        have gn4 := hqn.trans gn3
        have sx : sidx 1 (.sl qn 0 L.length kk 1) (.i .i64 (j : Int)) = some (.p qn j) := by rw [sidx_at (n := L.length) rfl hj]; simp
        have st : aStore H4 (.p qn j) (.i .i64 ((idxG key F : Nat) : Int)) 1 = some (H4.put qn (.row (intsR ((nums ++ [idxG key F]) ++ List.replicate (L.length - (j + 1)) 0)) true)) := by
          simp only [aStore, cells_i, gn4]
          rw [if_pos ⟨rfl, by simp [intsR, hnl]; omega⟩, row_set hnl hj]
        simp [r71_20, p5, p7, h13, sx, st, r71_21, p24, b_inc (show j < 4611686018427387904 by omega)]
        refine ⟨r - 1, by omega, fun t ht => ?_, ⟨by have := fr4.nx; rw [nx_put']; omega, fun i hi hm ob ho => ?_⟩, j + 1, by omega, by simp, ?_, ?_⟩
        · have hw := hkp t ht
          simp at ht
          rcases ht with rfl | rfl | rfl | rfl | rfl | rfl | rfl <;> simp [p0, p3, p4, p5, p6, p22, p23, k3, k5, k6, k22, k23, h3, h5, h6, h22, h23, hw] <;> exact hw
        · simp only [List.mem_cons, List.mem_nil_iff, or_false, not_or, Option.some.injEq] at hm
          rw [Heap.get_put, if_neg hm.1]
          exact fr4.old i (by omega) (by simp; exact hm.2) ob (e13.get i (by omega) ob (fr.old i hi (by simp; exact hm) ob ho))
        · rw [Heap.get_put, if_pos rfl, hN1]; simp
        · rw [Heap.get_put, if_neg q2.2.2, hF1]; exact hqm
      cases hp : posG key F 0 with
      | some i0 =>
        have hlk := hlook (some i0) hp.symm
        simp [r71_16, m6, h9, hlk, r71_17]
        refine fin _ H3 rfl ⟨Nat.le_refl _, fun _ _ _ _ h => h⟩ ?_ ?_ ?_
        · rw [gm3]; simp [addG, hp]
        · simp [idxG, hp]
        · simp [Keep]
      | none =>
        have hlk := hlook none hp.symm
        have hadd : addG key F = F ++ [key] := by simp [addG, hp]
        have hidx : idxG key F = F.length := by simp [idxG, hp]
        have hupd : aUpd H3 .str (.m qm) (.s key) (.i .i64 ((F.length : Nat) : Int)) = some (H3.put qm (.map (entS 0 (F ++ [key])))) := by
          have hf := find_entS key F 0 0
          rw [hp] at hf
          simp only [Option.map_none] at hf
          have hk : aKeyOk .str (.s key) = true := rfl
          simp only [aUpd, gm3, hk, if_true, hf]
          rw [entS_snoc]
          simp
        have lenm : (match AVal.m qm with
            | .nm => some (AVal.i .i64 0)
            | .m i => (match H3.get i with
              | some (.map es) => some (AVal.i .i64 (es.length : Int))
              | _ => none)
            | _ => none) = some (AVal.i .i64 ((F.length : Nat) : Int)) := by
          simp only [gm3, entS_len]
        simp [r71_16, m6, h9, hlk, r71_17, r71_18, gm3, entS_len, r71_19, hupd]
        refine fin _ (H3.put qm (.map (entS 0 (F ++ [key])))) ?_ ⟨by simp, fun i hi hm ob ho => ?_⟩ ?_ ?_ ?_
        · rw [Heap.get_put, if_neg (fun e => q2.2.2 e.symm)]
        · simp at hm
          rw [Heap.get_put, if_neg hm]; exact ho
        · rw [Heap.get_put, if_pos rfl, hadd]
        · simp [hidx]
        · simp [Keep]
    · have hlt : ¬ (j : Int) < (L.length : Int) := by omega
      simp [l71_1, r71_5, k22, k23, g24, hlt]
      have hjn : L.length - j = 0 := by omega
      rw [List.take_of_length_le (by omega), hjn] at gn1
      rw [List.take_of_length_le (by omega)] at gm1
      refine hQ _ _ (fun t ht => ?_) fr (by simpa [nextC] using gn1) gm1
      have hw := hkp t (by simp at ht ⊢; omega)
      simp at ht
      rcases ht with rfl | rfl | rfl | rfl | rfl <;> simp [hw]

def Inv71 (A : Heap) (L : List Hd) (lv : AVal) (r : Nat) (T : Tm) (H' : Heap) : Prop := Ex A H' ∧ T.get 0 = some lv ∧ ∃ (qc cnt : Nat) (kk : Option Nat) (cls : List Nat), T.get 3 = some (.sl qc 0 L.length kk 1) ∧ T.get 4 = some (.i .i64 (cnt : Int)) ∧ A.nx ≤ qc ∧ qc < H'.nx ∧ H'.get qc = some (.row (intsR cls) true) ∧ cls.length = L.length ∧ (∀ c ∈ cls, c < L.length) ∧ (cnt = 0 ∨ Surj cls cnt) ∧ r + cnt = L.length

theorem call71 {A : Heap} {lv : AVal} {L : List Hd} (o : LOk L) (hL : Hds A lv L) (h0 : 0 < L.length) :
    Call 71 [lv] A fun v H' => Ex A H' ∧ ∃ cls, Stable L cls ∧ Ints H' v (cls.map fun (c : Nat) => (c : Int)) ∧ (∀ c ∈ cls, c < L.length) ∧ cls.length = L.length := by
  have on := o.n
  have hlc := hL.cells
  refine Call.by (a := a71) rfl (by simp [a71]) ?_
  have mk0 : ∀ (T : Tm) (a b : AOpd), ev T a = some (.i .i64 (L.length : Int)) → ev T b = some (.i .i64 (L.length : Int)) → aNew T (.mksl 1 8 [(.i .i64 0)] a b) = some (.row (intsR (List.replicate L.length 0)) true, fun i => .sl i 0 L.length (some L.length) 1) := fun T a b h1 h2 => by
    rw [mksl_int h1 h2 (by omega)]
    simp [intsR]
  simp [a71, c71, r71_0, r71_1, hL.len]
  rw [mk0 _ _ _ (by simp) (by simp)]
  simp [r71_2]
  refine Loop.by (Inv71 A L lv) L.length ?_ ?_
  · refine ⟨(Ex.refl _).push _, by simp, A.nx, 0, some L.length, List.replicate L.length 0, by simp, by simp, Nat.le_refl _, by simp, get_push_nx _ _, by simp, fun c hc => ?_, .inl rfl, by simp⟩
    have := (List.mem_replicate.1 hc).2
    omega
  · rintro r T H1 ⟨e1, g0, qc, cnt, kk, cls, g3, g4, a1, a2, gc, cl, clt, inv, hr⟩
    obtain ⟨B, hB⟩ : ∃ P, P = (H1.push (.row (intsR (List.replicate L.length 0)) true)).push (.map []) := ⟨_, rfl⟩
    have nB : B.nx = H1.nx + 2 := by rw [hB]; rfl
    have eB1 : Ex H1 B := by rw [hB]; exact ((Ex.refl _).push _).push _
    have gnB : B.get H1.nx = some (.row (intsR (List.replicate L.length 0)) true) := by rw [hB, get_push_old (by simp)]; exact get_push_nx _ _
    have gmB : B.get (H1.nx + 1) = some (.map []) := by rw [hB]; exact get_push_nx _ _
    have gcB := eB1.get qc a2 _ gc
    have nA := e1.nx
    simp [l71_2, r71_3, g0, hL.len]
    rw [mk0 _ _ _ (by simp) (by simp)]
    simp
    rw [← hB]
    simp [r71_4, g0, hL.len]
    refine lp71_1 (A := A) (L := L) (cls := cls) (cv := .sl qc 0 L.length kk 1) (qn := H1.nx) (qm := H1.nx + 1) (kk := some L.length) o hL (e1.trans eB1) ⟨by omega, by omega⟩ ⟨by omega, by omega, by omega⟩ gnB gmB ?_ ?_ cl (fun c hc => by have := clt c hc; omega) (by simp [g3]) (by simp) (by simp) (by simp) (by simp) (by simp) fun T2 H2 hk2 fr2 gn2 gm2 => ?_
    · have := Sl.all (k := kk) gcB (by omega) (by simp [intsR, cl] : L.length = (intsR cls).length)
      unfold Ints
      rw [intsR_map]; exact this
    · refine .inr ?_
      simp [sid]; omega
    have n2 := fr2.nx
    have k0 := hk2 0 (by simp)
    have k4 := hk2 4 (by simp)
    have k5 := hk2 5 (by simp)
    have k6 := hk2 6 (by simp)
    simp [g0, g4] at k0 k4 k5 k6
    have e2 : Ex A H2 := ⟨by omega, fun i hi ob ho => fr2.old i (by omega) (by simp; omega) ob ((e1.trans eB1).get i hi ob ho)⟩
    have hcn : (foldG [] (keysC L cls)).length = cntC L cls := rfl
    have hlen : (match H2.get (H1.nx + 1) with
        | some (.map es) => some (AVal.i .i64 (es.length : Int))
        | _ => none) = some (AVal.i .i64 ((cntC L cls : Nat) : Int)) := by simp only [gm2, entS_len, hcn]
    have hcle := cntC_le L cls
    have hpos : 0 < cntC L cls := by
      have := (nextC_surj L cls)
      have hn : 0 < (nextC L cls).length := by rw [nextC_len]; exact h0
      have := this.lt _ (List.getElem_mem (l := nextC L cls) (n := 0) hn)
      omega
    have nlt : ∀ c ∈ nextC L cls, c < L.length := fun c hc => by have := (nextC_surj L cls).lt c hc; omega
    simp [r71_22, k5, r71_23, k6, gm2, entS_len, hcn, k4, aEq]
    by_cases hc : cntC L cls = cnt
    · have hb : (((cntC L cls : Nat) : Int) == (cnt : Int)) = true := by simp [hc]
      have hs : Surj cls cnt := by
        rcases inv with h | h
        · omega
        · exact h
      simp [hb, r71_24]
      refine ⟨e2, nextC L cls, stable_of o.s o.kid cl hs hc, ?_, nlt, nextC_len L cls⟩
      have := Sl.all (k := some L.length) gn2 (by omega) (by simp [intsR, nextC_len] : L.length = (intsR (nextC L cls)).length)
      unfold Ints
      rw [intsR_map]; exact this
    · have hb : (((cntC L cls : Nat) : Int) == (cnt : Int)) = false := by simp [hc]; omega
      have hlt : cnt < cntC L cls := by
        rcases inv with h | h
        · omega
        · have := cnt_le o.s cl h; omega
      simp [hb, r71_25, k6, gm2, entS_len, hcn]
      exact ⟨r - (cntC L cls - cnt), by omega, e2, by simp [k0], H1.nx, cntC L cls, some L.length, nextC L cls, by simp, by simp, by omega, by omega, gn2, nextC_len L cls, nlt, .inr (nextC_surj L cls), by omega⟩


/-! ### Maps from numbers to numbers -/
def entI (l : List (Nat × Nat)) : List (AVal × AVal) := l.map fun p => (.i .i64 (p.1 : Int), .i .i64 (p.2 : Int))
def lookI (c : Nat) : List (Nat × Nat) → Option Nat
  | [] => none
  | (k, w) :: r => if c = k then some w else lookI c r
def placeI (c : Nat) : List (Nat × Nat) → Nat → Option (Nat × Nat)
  | [], _ => none
  | (k, w) :: r, n => if c = k then some (n, w) else placeI c r (n + 1)
def updI (c v : Nat) : List (Nat × Nat) → List (Nat × Nat)
  | [] => [(c, v)]
  | (k, w) :: r => if c = k then (c, v) :: r else (k, w) :: updI c v r

theorem find_entI (c : Nat) : ∀ (l : List (Nat × Nat)) (n : Nat), aFind (.int .i64) (.i .i64 (c : Int)) (entI l) n = some ((placeI c l n).map fun p => (p.1, .i .i64 (p.2 : Int)))
  | [], n => rfl
  | (k, w) :: r, n => by
    have he : aKeyEq (.int .i64) (.i .i64 (c : Int)) (.i .i64 (k : Int)) = some (decide (c = k)) := by
      simp only [aKeyEq, aEqInt, if_true]
      congr 1
      rw [Bool.eq_iff_iff]; simp; omega
    have ih := find_entI c r (n + 1)
    unfold entI at ih ⊢
    simp only [List.map_cons, aFind, he, placeI]
    by_cases h : c = k
    · simp [h]
    · simp only [h, decide_false, if_false]
      exact ih
theorem place_look (c : Nat) : ∀ (l : List (Nat × Nat)) (n : Nat), (placeI c l n).map (·.2) = lookI c l
  | [], _ => rfl
  | (k, w) :: r, n => by
    unfold placeI lookI
    split
    · rfl
    · exact place_look c r (n + 1)
theorem place_none {c v : Nat} : ∀ {l : List (Nat × Nat)} {n : Nat}, placeI c l n = none → updI c v l = l ++ [(c, v)]
  | [], _, _ => rfl
  | (k, w) :: r, n, h => by
    unfold placeI at h
    split at h
    · cases h
    · rename_i hne
      simp only [updI, if_neg hne, List.cons_append, place_none h]
theorem place_some {c v : Nat} : ∀ {l : List (Nat × Nat)} {n j w : Nat}, placeI c l n = some (j, w) → n ≤ j ∧ updI c v l = l.set (j - n) (c, v)
  | [], _, _, _, h => by simp [placeI] at h
  | (k, w') :: r, n, j, w, h => by
    unfold placeI at h
    split at h
    · rename_i he
      simp at h
      obtain ⟨rfl, rfl⟩ := h
      simp [updI, he]
    · rename_i hne
      obtain ⟨h1, h2⟩ := place_some (v := v) h
      refine ⟨by omega, ?_⟩
      simp only [updI, if_neg hne, h2]
      rw [show j - n = j - (n + 1) + 1 by omega, List.set_cons_succ]
theorem look_upd (c v d : Nat) : ∀ l : List (Nat × Nat), lookI d (updI c v l) = if d = c then some v else lookI d l
  | [] => by simp only [updI, lookI]
  | (k, w) :: r => by
    unfold updI
    by_cases h : c = k
    · subst h
      simp only [if_true, lookI]
      split <;> rfl
    · simp only [if_neg h, lookI, look_upd c v d r]
      by_cases h2 : d = k
      · subst h2
        have : ¬ d = c := fun e => h e.symm
        simp [this]
      · simp [h2]

theorem look_I {H : Heap} {q : Nat} {l : List (Nat × Nat)} (hg : H.get q = some (.map (entI l))) (c : Nat) (ok : Bool) :
    aLook H (.int .i64) (.i .i64 0) ok (.m q) (.i .i64 (c : Int)) = some (if ok then .tup [.i .i64 (((lookI c l).getD 0 : Nat) : Int), .b (lookI c l).isSome] else .i .i64 (((lookI c l).getD 0 : Nat) : Int)) := by
  have hk : aKeyOk (.int .i64) (.i .i64 (c : Int)) = true := rfl
  simp only [aLook, hk, if_true, hg, find_entI]
  rw [← place_look c l 0]
  cases placeI c l 0 <;> rfl
theorem upd_I {H : Heap} {q : Nat} {l : List (Nat × Nat)} (hg : H.get q = some (.map (entI l))) (c v : Nat) :
    aUpd H (.int .i64) (.m q) (.i .i64 (c : Int)) (.i .i64 (v : Int)) = some (H.put q (.map (entI (updI c v l)))) := by
  have hk : aKeyOk (.int .i64) (.i .i64 (c : Int)) = true := rfl
  simp only [aUpd, hk, if_true, hg, find_entI]
  cases hp : placeI c l 0 with
  | none =>
    rw [place_none hp]
    simp [entI]
  | some p =>
    obtain ⟨j, w⟩ := p
    rw [(place_some hp).2]
    simp [entI, List.map_set]

/-! ### The order: a row that grows from one -/
def OB (H : Heap) (v : AVal) (l : List Nat) : Prop :=
  (∃ q own, v = .sl q 0 1 (some 1) 1 ∧ l.length = 1 ∧ q < H.nx ∧ H.get q = some (.row (intsR l) own)) ∨ (∃ q, v = .sl q 0 l.length none 1 ∧ q < H.nx ∧ H.get q = some (.row (intsR l) true))

theorem OB.sl {H : Heap} {v : AVal} {l : List Nat} (h : OB H v l) : Sl H 1 false v (intsR l) := by
  rcases h with ⟨q, own, rfl, h1, h2, h3⟩ | ⟨q, rfl, h2, h3⟩
  · exact Sl.all h3 h2 (by simp [intsR, h1])
  · exact Sl.all h3 h2 (by simp [intsR])
theorem OB.slen {H : Heap} {v : AVal} {l : List Nat} (h : OB H v l) : AM.slen v = some l.length := h.sl.slen (by simp [intsR])
theorem OB.sid_lt {H : Heap} {v : AVal} {l : List Nat} (h : OB H v l) {i : Nat} (hi : sid v = some i) : i < H.nx := by
  rcases h with ⟨q, own, rfl, h1, h2, h3⟩ | ⟨q, rfl, h2, h3⟩ <;> simp [sid] at hi <;> omega
theorem OB.keepS {H H' : Heap} {v : AVal} {l : List Nat} (h : OB H v l) (hn : H.nx ≤ H'.nx) (hk : ∀ i, sid v = some i → ∀ o, H.get i = some o → H'.get i = some o) : OB H' v l := by
  rcases h with ⟨q, own, rfl, h1, h2, h3⟩ | ⟨q, rfl, h2, h3⟩
  · exact .inl ⟨q, own, rfl, h1, by omega, hk q rfl _ h3⟩
  · exact .inr ⟨q, rfl, by omega, hk q rfl _ h3⟩
theorem OB.app {H : Heap} {v : AVal} {l : List Nat} {c : Nat} (h : OB H v l) (hl : l.length < 1000000) :
    ∃ v' H', aApp (H.push (.row [.i .i64 (c : Int)] true)) 1 8 v (.sl H.nx 0 1 (some 1) 1) = some (v', H') ∧ OB H' v' (l ++ [c]) ∧ H'.nx = H.nx + 2 ∧ sid v' = some (H.nx + 1) ∧ v'.cells? = some [v'] ∧ (∀ i, i < H.nx → sid v ≠ some i → H'.get i = H.get i) := by
  have hx : aNews (H.push (.row [.i .i64 (c : Int)] true)) (.sl H.nx 0 1 (some 1) 1) 1 = some ([.i .i64 (c : Int)], 1) := news_one (get_push_nx _ _) rfl
  have hm : intsR (l ++ [c]) = intsR l ++ [.i .i64 (c : Int)] := by simp [intsR]
  have hil : (intsR l).length = l.length := by simp [intsR]
  rcases h with ⟨q, own, rfl, h1, h2, h3⟩ | ⟨q, rfl, h2, h3⟩
  · have hg : (H.push (.row [.i .i64 (c : Int)] true)).get q = some (.row (intsR l) own) := by rw [get_push_old h2]; exact h3
    refine ⟨.sl (H.nx + 1) 0 2 none 1, (H.push (.row [.i .i64 (c : Int)] true)).push (.row (intsR l ++ [.i .i64 (c : Int)]) true), ?_, .inr ⟨H.nx + 1, by simp [h1], by simp, by rw [hm]; exact get_push_nx _ _⟩, rfl, rfl, rfl, fun i hi _ => ?_⟩
    · have ht : (intsR l).take 1 = intsR l := List.take_of_length_le (by omega)
      simp only [aApp, hx, hg]
      simp [hil, h1, ht]
    · rw [get_push_old (by simp; omega), get_push_old hi]
  · have hg : (H.push (.row [.i .i64 (c : Int)] true)).get q = some (.row (intsR l) true) := by rw [get_push_old h2]; exact h3
    refine ⟨.sl (H.nx + 1) 0 (l.length + 1) none 1, ((H.push (.row [.i .i64 (c : Int)] true)).push (.row (intsR l ++ [.i .i64 (c : Int)]) true)).put q .dead, ?_, .inr ⟨H.nx + 1, by simp, by simp, ?_⟩, rfl, rfl, rfl, fun i hi hs => ?_⟩
    · simp only [aApp, hx, hg]
      simp [hil]
      omega
    · rw [Heap.get_put, if_neg (by omega), hm]; exact get_push_nx _ _
    · rw [Heap.get_put, if_neg (fun e => hs (by rw [e]; rfl)), get_push_old (by simp; omega), get_push_old hi]

/-- The inner loop's state. -/
structure In41 (B H : Heap) (qnum : Nat) (ov0 kv0 ov kv : AVal) (ord ks : List Nat) : Prop where
  fr : Fr [some qnum, sid ov0, sid kv0] B H
  nm : ∃ nm, H.get qnum = some (.map (entI nm)) ∧ ∀ c, lookI c nm = posG c ord 0
  ob : OB H ov ord
  kb : Buf H 1 kv ks.length (intsR ks)
  so : sid ov = sid ov0 ∨ ∀ i, sid ov = some i → B.nx ≤ i
  sk : sid kv = sid kv0 ∨ ∀ i, sid kv = some i → B.nx ≤ i
  ne : ∀ i, sid ov = some i → i ≠ qnum ∧ sid kv ≠ some i
  nk : sid kv ≠ some qnum
  ql : qnum < B.nx

/-- The order grows by a class. -/
theorem In41.grow {B H : Heap} {qnum : Nat} {ov0 kv0 ov kv : AVal} {ord ks : List Nat} {c : Nat} (t : In41 B H qnum ov0 kv0 ov kv ord ks) (hc : posG c ord 0 = none) (hl : ord.length < 1000000) :
    ∃ H1, aUpd H (.int .i64) (.m qnum) (.i .i64 (c : Int)) (.i .i64 (ord.length : Int)) = some H1 ∧ ∃ ov' H2, aApp (H1.push (.row [.i .i64 (c : Int)] true)) 1 8 ov (.sl H1.nx 0 1 (some 1) 1) = some (ov', H2) ∧ In41 B H2 qnum ov0 kv0 ov' kv (addG c ord) ks := by
  obtain ⟨nm, g1, g2⟩ := t.nm
  refine ⟨_, upd_I g1 c ord.length, ?_⟩
  obtain ⟨H1, hH1⟩ : ∃ P, P = H.put qnum (.map (entI (updI c ord.length nm))) := ⟨_, rfl⟩
  rw [← hH1]
  have n1 : H1.nx = H.nx := by rw [hH1]; rfl
  have old1 : ∀ i, i ≠ qnum → H1.get i = H.get i := fun i hi => by rw [hH1, Heap.get_put, if_neg hi]
  have gq1 : H1.get qnum = some (.map (entI (updI c ord.length nm))) := by rw [hH1, Heap.get_put, if_pos rfl]
  have ob1 : OB H1 ov ord := t.ob.keepS (by omega) fun i hi o ho => by rw [old1 i (t.ne i hi).1]; exact ho
  obtain ⟨ov', H2, e1, e2, e3, e4, e5, e6⟩ := ob1.app (c := c) hl
  have hnx := t.fr.nx
  have hql := t.ql
  have hadd : addG c ord = ord ++ [c] := by simp [addG, hc]
  have ovq : sid ov ≠ some qnum := fun e => (t.ne qnum e).1 rfl
  refine ⟨ov', H2, e1, ⟨by omega, fun i hi hm o ho => ?_⟩, ⟨updI c ord.length nm, ?_, fun d => ?_⟩, by rw [hadd]; exact e2, t.kb.keepS (by omega) fun i hi o ho => ?_, .inr fun i hi => ?_, t.sk, fun i hi => ?_, t.nk, t.ql⟩
  · simp only [List.mem_cons, List.mem_nil_iff, or_false, not_or, Option.some.injEq] at hm
    have h1 := t.fr.old i hi (by simp; exact hm) o ho
    rw [e6 i (by omega) ?_, old1 i hm.1]
    · exact h1
    · intro e
      rcases t.so with h | h
      · exact hm.2.1 (by rw [← h, e])
      · have := h i e; omega
  · rw [e6 qnum (by omega) ovq]; exact gq1
  · rw [look_upd, hadd]
    have hap : ∀ (l : List Nat) (n : Nat), posG d (l ++ [c]) n = if (posG d l n).isSome then posG d l n else if d = c then some (n + l.length) else none := by
      intro l
      induction l with
      | nil => intro n; simp [posG]
      | cons x r ih =>
        intro n
        simp only [List.cons_append, posG]
        by_cases hx : d = x
        · simp [hx]
        · simp only [hx, if_false, ih (n + 1), List.length_cons]
          simp [Nat.add_assoc, Nat.add_comm 1]
    rw [hap, g2 d]
    by_cases hd : d = c
    · subst hd; simp [hc]
    · simp only [hd, if_false]
      cases posG d ord 0 <;> simp
  · have hne := t.ne
    have hk : i < H.nx := t.kb.sid_lt hi
    rw [e6 i (by omega) (fun e => (t.ne i e).2 hi), old1 i (fun e => t.nk (e ▸ hi))]; exact ho
  · rw [e4] at hi; simp at hi; omega
  · rw [e4] at hi
    simp at hi
    refine ⟨by omega, fun e => ?_⟩
    have := t.kb.sid_lt e; omega

/-- A kid's number is put behind. -/
theorem In41.kid {B H : Heap} {qnum : Nat} {ov0 kv0 ov kv : AVal} {ord ks : List Nat} {n : Nat} (t : In41 B H qnum ov0 kv0 ov kv ord ks) (hl : ks.length < 1000000) :
    ∃ kv' H2, aApp (H.push (.row [.i .i64 (n : Int)] true)) 1 8 kv (.sl H.nx 0 1 (some 1) 1) = some (kv', H2) ∧ In41 B H2 qnum ov0 kv0 ov kv' ord (ks ++ [n]) := by
  obtain ⟨nm, g1, g2⟩ := t.nm
  obtain ⟨kv', H2, e1, e2, e3, e4, e5⟩ := t.kb.app1 (bytes := 8) (news := [.i .i64 (n : Int)]) rfl (by omega) (by omega)
  have hnx := t.fr.nx
  have hql := t.ql
  have kvs : sid kv' = some (H.nx + 1) := by rw [e4]; rfl
  have hm : intsR (ks ++ [n]) = intsR ks ++ [.i .i64 (n : Int)] := by simp [intsR]
  refine ⟨kv', H2, e1, ⟨by omega, fun i hi hmm o ho => ?_⟩, ⟨nm, ?_, g2⟩, t.ob.keepS (by omega) fun i hi o ho => ?_, by rw [hm, List.length_append]; exact e2, t.so, .inr fun i hi => ?_, fun i hi => ?_, ?_, t.ql⟩
  · simp only [List.mem_cons, List.mem_nil_iff, or_false, not_or, Option.some.injEq] at hmm
    rw [e5 i (by omega) ?_]
    · exact t.fr.old i hi (by simp; exact hmm) o ho
    · intro e
      rcases t.sk with h | h
      · exact hmm.2.2 (by rw [← h, e])
      · have := h i e; omega
  · rw [e5 qnum (by omega) t.nk]; exact g1
  · rw [e5 i (t.ob.sid_lt hi) (t.ne i hi).2]; exact ho
  · rw [kvs] at hi; simp at hi; omega
  · refine ⟨(t.ne i hi).1, fun e => ?_⟩
    rw [kvs] at e
    have := t.ob.sid_lt hi
    simp at e; omega
  · rw [kvs]; simp; omega

def Iv41 (B : Heap) (T : Tm) (qnum : Nat) (ov0 kv0 : AVal) (ord kc : List Nat) (m : Nat) (r : Nat) (T' : Tm) (H' : Heap) : Prop :=
  Keep [0, 4, 5, 6, 8, 10, 11, 12, 67, 68] T T' ∧ ∃ j : Nat, j + r = m ∧ T'.get 69 = some (.i .i64 (j : Int)) ∧ ∃ ov kv, T'.get 9 = some ov ∧ T'.get 13 = some kv ∧ In41 B H' qnum ov0 kv0 ov kv (foldG ord (kc.take j)) (numG ord (kc.take j))

theorem lp41_1 {B : Heap} {T : Tm} {Q : Post} {cv kl ov0 kv0 : AVal} {cls ord : List Nat} {kids : List Int} {qnum n : Nat} (t0 : In41 B B qnum ov0 kv0 ov0 kv0 ord []) (hc : Ints B cv (cls.map fun (c : Nat) => (c : Int))) (hco : Outs [some qnum, sid ov0, sid kv0] cv) (hk : Ints B kl kids) (hko : Outs [some qnum, sid ov0, sid kv0] kl) (hcl : cls.length = n) (hkr : ∀ k ∈ kids, 0 ≤ k ∧ k < (n : Int)) (hon : ord.length < 100000) (hkn : kids.length < 100000)
    (h5 : T.get 5 = some cv) (h8 : T.get 8 = some (.m qnum)) (h9 : T.get 9 = some ov0) (h13 : T.get 13 = some kv0) (h67 : T.get 67 = some kl) (h68 : T.get 68 = some (.i .i64 (kids.length : Int))) (h69 : T.get 69 = some (.i .i64 0))
    (hQ : ∀ T' H' ov kv, Keep [0, 4, 5, 6, 8, 10, 11, 12] T T' → T'.get 9 = some ov → T'.get 13 = some kv → In41 B H' qnum ov0 kv0 ov kv (foldG ord (kids.map fun k => cls.getD k.toNat 0)) (numG ord (kids.map fun k => cls.getD k.toNat 0)) → Q (.exit 4) T' H') : Loop l41_1 T B Q := by
  obtain ⟨kc, hkc⟩ : ∃ z, z = kids.map fun k => cls.getD k.toNat 0 := ⟨_, rfl⟩
  rw [← hkc] at hQ
  have hkcl : kc.length = kids.length := by rw [hkc]; simp
  refine Loop.by (Iv41 B T qnum ov0 kv0 ord kc kids.length) kids.length ?_ ?_
  · exact ⟨fun t _ => rfl, 0, by simp, h69, ov0, kv0, h9, h13, by simpa [foldG, numG] using t0⟩
  · rintro r T1 H1 ⟨hkp, j, hjr, g69, ov, kv, g9, g13, t⟩
    have k5 := (hkp 5 (by simp)).trans h5
    have k8 := (hkp 8 (by simp)).trans h8
    have k67 := (hkp 67 (by simp)).trans h67
    have k68 := (hkp 68 (by simp)).trans h68
    by_cases hj : j < kids.length
    · obtain ⟨k, hkj⟩ : ∃ y, kids[j]? = some y := ⟨_, List.getElem?_eq_getElem hj⟩
      have hlt : (j : Int) < (kids.length : Int) := by omega
      have hkrr := hkr k (List.mem_of_getElem? hkj)
      obtain ⟨kn, rfl⟩ : ∃ z : Nat, k = z := ⟨k.toNat, by omega⟩
      have hknl : kn < n := by omega
      obtain ⟨c, hcd⟩ : ∃ c, c = cls.getD kn 0 := ⟨_, rfl⟩
      have hcj : kc[j]? = some c := by rw [hkc, List.getElem?_map, hkj, hcd]; rfl
      have htk : kc.take (j + 1) = kc.take j ++ [c] := by rw [List.take_add_one, hcj]; rfl
      have hc1 := hc.fr t.fr hco
      have hk1 := hk.fr t.fr hko
      have gc : (cls.map fun (c : Nat) => (c : Int))[kn]? = some (c : Int) := by
        rw [List.getElem?_map, hcd, List.getD_eq_getElem?_getD, List.getElem?_eq_getElem (by omega)]; rfl
      have sx : sidx 1 cv (.i .i64 (kn : Int)) = some (sptr 1 cv kn) := sidx_at hc.len' (by simp; omega)
      obtain ⟨oj, hoj⟩ : ∃ z, z = foldG ord (kc.take j) := ⟨_, rfl⟩
      obtain ⟨nj, hnj⟩ : ∃ z, z = numG ord (kc.take j) := ⟨_, rfl⟩
      have hol : oj.length < 300000 := by
        have := foldG_le (kc.take j) ord
        rw [← hoj, List.length_take] at this; omega
      have hnl : nj.length = j := by rw [hnj, numG_length, List.length_take]; omega
      rw [← hoj, ← hnj] at t
      obtain ⟨nm, n1, n2⟩ := t.nm
      have hlk := look_I n1 c true
      simp only [if_true] at hlk
      have fin : ∀ (T2 : Tm) (H2 : Heap) (ov' : AVal), T2.get 9 = some ov' → Keep [0, 4, 5, 6, 8, 10, 11, 12, 13, 67, 68, 69] T1 T2 → T2.get 16 = some (.i .i64 (c : Int)) → In41 B H2 qnum ov0 kv0 ov' kv (addG c oj) nj →
          runO r41_23 T2 H2 (blkK 5 (seqK (run (.mask [0, 4, 5, 6, 8, 9, 10, 11, 12, 13, 67, 68, 69] (.region r41_24))) (lpK (Iv41 B T qnum ov0 kv0 ord kc kids.length) r Q))) := by
        intro T2 H2 ov' m9 hk2 m16 t2
        have m13 := (hk2 13 (by simp)).trans g13
        have m8 := (hk2 8 (by simp)).trans k8
        have m69 := (hk2 69 (by simp)).trans g69
        obtain ⟨nm2, n12, n22⟩ := t2.nm
        have hlk2 := look_I n12 c false
        have hidx : (lookI c nm2).getD 0 = idxG c oj := by
          rw [n22 c]
          unfold addG idxG
          cases hp : posG c oj 0 with
          | some i => simp [hp]
          | none =>
            simp only [Option.isSome_none, Bool.false_eq_true, if_false, Option.getD_none]
            have hap : ∀ (l : List Nat) (n : Nat), posG c l n = none → posG c (l ++ [c]) n = some (n + l.length) := by
              intro l
              induction l with
              | nil => intro n _; simp [posG]
              | cons x r ih =>
                intro n hn
                simp only [posG] at hn
                split at hn
                · cases hn
                · rename_i hne
                  simp only [List.cons_append, posG, if_neg hne, ih (n + 1) hn, List.length_cons]
                  congr 1; omega
            rw [hap oj 0 hp]; simp
        rw [hidx] at hlk2
        simp only [Bool.false_eq_true, if_false] at hlk2
        obtain ⟨kv', H3, e1, e2⟩ := t2.kid (n := idxG c oj) (by omega)
        simp [r41_23, m13, m8, m16, hlk2, e1, r41_24, m69, b_inc (show j < 4611686018427387904 by omega)]
        refine ⟨r - 1, by omega, fun t ht => ?_, j + 1, by omega, by simp, ov', kv', by simp [m9], by simp, ?_⟩
        · have e1 := hk2 t (by simp at ht ⊢; omega)
          have e2 := hkp t ht
          simp at ht
          rcases ht with rfl | rfl | rfl | rfl | rfl | rfl | rfl | rfl | rfl | rfl <;> simp [e1, e2]
        · rw [htk, foldG_snoc, numG_snoc, ← hoj, ← hnj]; exact e2
      simp [l41_1, r41_16, r41_17, r41_18, k5, k67, k68, g69, hlt, sidx_at hk.len' hj, hk1.get hkj, sx, hc1.get gc]
      cases hp : posG c oj 0 with
      | some i =>
        have hls : lookI c nm = some i := by rw [n2, hp]
        rw [hls] at hlk
        simp at hlk
        simp [r41_19, k8, hlk, r41_20]
        refine fin _ H1 ov (by simp [g9]) ?_ (by simp) ?_
        · simp [Keep]
        · have : addG c oj = oj := by simp [addG, hp]
          rw [this]; exact t
      | none =>
        have hls : lookI c nm = none := by rw [n2, hp]
        rw [hls] at hlk
        simp at hlk
        obtain ⟨H2, u1, ov', H3, u2, u3⟩ := t.grow hp (by omega)
        have hosl := t.ob.slen
        simp [r41_19, k8, hlk, r41_20, r41_21, g9, hosl, u1, r41_22, u2]
        refine fin _ H3 ov' (by simp) ?_ (by simp) u3
        simp [Keep]
    · have hlt : ¬ (j : Int) < (kids.length : Int) := by omega
      simp [l41_1, r41_16, k67, k68, g69, hlt]
      rw [List.take_of_length_le (by omega)] at t
      refine hQ _ _ ov kv (fun t ht => ?_) (by simp [g9]) (by simp [g13]) t
      have hw := hkp t (by simp at ht ⊢; omega)
      simp at ht
      rcases ht with rfl | rfl | rfl | rfl | rfl | rfl | rfl | rfl <;> simp [hw]


theorem lp41_0 {B : Heap} {T : Tm} {Q : Post} {cv : AVal} {cls : List Nat} {qo n : Nat} (hq : qo < B.nx) (gm : B.get qo = some (.map [])) (hc : Ints B cv (cls.map fun (c : Nat) => (c : Int))) (hco : Outs [some qo] cv) (hl : cls.length = n) (hn : n < 100000)
    (h5 : T.get 5 = some cv) (h6 : T.get 6 = some (.m qo)) (h7 : T.get 7 = some (.i .i64 ((n : Int) - 1)))
    (hQ : ∀ T' H' om, Keep [0, 1, 4, 5, 6] T T' → Fr [some qo] B H' → H'.get qo = some (.map (entI om)) → (∀ (c i : Nat), lookI c om = some i → cls[i]? = some c) → (∀ c ∈ cls, (lookI c om).isSome) → Q (.exit 0) T' H') : Loop l41_0 T B Q := by
  refine Loop.by (fun r T' H' => Keep [0, 1, 4, 5, 6] T T' ∧ Fr [some qo] B H' ∧ r ≤ n ∧ T'.get 7 = some (.i .i64 ((r : Int) - 1)) ∧ ∃ om, H'.get qo = some (.map (entI om)) ∧ (∀ (c i : Nat), lookI c om = some i → cls[i]? = some c) ∧ ∀ (i c : Nat), r ≤ i → cls[i]? = some c → (lookI c om).isSome) n ?_ ?_
  · refine ⟨fun t _ => rfl, ⟨Nat.le_refl _, fun _ _ _ _ h => h⟩, Nat.le_refl _, h7, [], gm, by simp [lookI], fun i c hi hc => ?_⟩
    have := (List.getElem?_eq_some_iff.1 hc).1; omega
  · rintro r T1 H1 ⟨hkp, fr, hrn, g7, om, go, p1, p2⟩
    have k5 := (hkp 5 (by simp)).trans h5
    have k6 := (hkp 6 (by simp)).trans h6
    by_cases hr : r = 0
    · subst hr
      simp [l41_0, r41_4, g7]
      exact hQ _ _ om (fun t ht => by have e2 := hkp t ht; simp at ht; rcases ht with rfl | rfl | rfl | rfl | rfl <;> simp [e2]) fr go p1 fun c hc => by
        obtain ⟨i, hi⟩ := List.mem_iff_getElem?.1 hc
        exact p2 i c (Nat.zero_le _) hi
    · obtain ⟨i, rfl⟩ : ∃ i, r = i + 1 := ⟨r - 1, by omega⟩
      have hi : i < cls.length := by omega
      obtain ⟨c, hci⟩ : ∃ y, cls[i]? = some y := ⟨_, List.getElem?_eq_getElem hi⟩
      have g7' : T1.get 7 = some (.i .i64 (i : Int)) := by rw [g7]; congr 2; omega
      have hc1 := hc.fr fr hco
      have gc : (cls.map fun (c : Nat) => (c : Int))[i]? = some (c : Int) := by rw [List.getElem?_map, hci]; rfl
      have sx : sidx 1 cv (.i .i64 (i : Int)) = some (sptr 1 cv i) := sidx_at hc.len' (by simp; omega)
      have hu := upd_I go c i
      have hsub := b_sub (a := (i : Int)) (b := 1) ⟨by omega, by omega⟩
      simp [l41_0, r41_4, g7', r41_5, k5, k6, sx, hc1.get gc, hu, r41_6, hsub]
      refine ⟨i, by omega, fun t ht => ?_, ⟨by rw [nx_put']; exact fr.nx, fun a ha hm o ho => ?_⟩, by omega, by simp, updI c i om, by rw [Heap.get_put, if_pos rfl], fun d a hd => ?_, fun a d ha hd => ?_⟩
      · have e2 := hkp t (by simp at ht ⊢; omega)
        simp at ht
        rcases ht with rfl | rfl | rfl | rfl | rfl <;> simp [e2]
      · simp at hm
        rw [Heap.get_put, if_neg hm]
        exact fr.old a ha (by simp; exact hm) o ho
      · rw [look_upd] at hd
        split at hd
        · rename_i e
          simp at hd
          rw [← hd, e]; exact hci
        · exact p1 d a hd
      · rw [look_upd]
        split
        · rfl
        · rename_i hne
          by_cases hai : a = i
          · subst hai
            rw [hci] at hd
            exact absurd (Option.some.inj hd).symm hne
          · exact p2 a d (by omega) hd

/-- What the normal row says, so far. -/
def NmS (L : List Hd) (cls ord : List Nat) (out : List Hd) : Prop :=
  ∀ (j : Nat) g, out[j]? = some g → ∃ (c i : Nat) (h : Hd), ord[j]? = some c ∧ cls[i]? = some c ∧ L[i]? = some h ∧ g.kind = h.kind ∧ g.names = h.names ∧ g.opn = h.opn ∧ g.kids.length = h.kids.length ∧ ∀ (a : Nat) k, h.kids[a]? = some k → ∃ m : Nat, g.kids[a]? = some (m : Int) ∧ ord[m]? = some (cls.getD k.toNat 0)

theorem NmS.grow {L : List Hd} {cls ord ord' : List Nat} {out : List Hd} (h : NmS L cls ord out) (hp : ord <+: ord') : NmS L cls ord' out := fun j g hg => by
  obtain ⟨c, i, x, a1, a2, a3, a4, a5, a6, a7, a8⟩ := h j g hg
  refine ⟨c, i, x, pre_get hp a1, a2, a3, a4, a5, a6, a7, fun a k hk => ?_⟩
  obtain ⟨m, b1, b2⟩ := a8 a k hk
  exact ⟨m, b1, pre_get hp b2⟩

structure Ot41 (C H : Heap) (q4 qnum q10 : Nat) (ov0 ov outv : AVal) (ord : List Nat) (out : List Hd) : Prop where
  fr : Fr [some qnum, sid ov0, some q10] C H
  nm : ∃ nm, H.get qnum = some (.map (entI nm)) ∧ ∀ c, lookI c nm = posG c ord 0
  ob : OB H ov ord
  so : sid ov = sid ov0 ∨ ∀ i, sid ov = some i → C.nx ≤ i
  go : H.get q10 = some (.row [outv, .i .i64 0] true)
  ou : ∃ oc : List (List AVal), Buf H 4 outv out.length oc.flatten ∧ oc.length = out.length ∧ (∀ c ∈ oc, c.length = 4) ∧ ∀ (j : Nat) c h, oc[j]? = some c → out[j]? = some h → HdO H H.nx [some q4, some qnum, some q10, sid ov, sid outv] c h ∧ ∀ v ∈ c, ∀ i, sid v = some i → C.nx ≤ i
  soo : ∀ i, sid outv = some i → C.nx ≤ i ∧ sid ov ≠ some i
  ne : ∀ i, sid ov = some i → i ≠ qnum ∧ i ≠ q10
  ql : qnum < C.nx ∧ q10 < C.nx ∧ qnum ≠ q10
  q4l : q4 < C.nx

def Iv412 (C : Heap) (T : Tm) (q4 qnum q10 : Nat) (ov0 : AVal) (L : List Hd) (cls ord0 : List Nat) (r : Nat) (T' : Tm) (H' : Heap) : Prop :=
  Keep [0, 4, 5, 6, 8, 10] T T' ∧ ∃ ov outv ord out, T'.get 9 = some ov ∧ T'.get 11 = some (.i .i64 (out.length : Int)) ∧ Ot41 C H' q4 qnum q10 ov0 ov outv ord out ∧ ord0 <+: ord ∧ NmS L cls ord out ∧ out.length ≤ ord.length ∧ ord.Nodup ∧ (∀ c ∈ ord, c ∈ cls) ∧ r + out.length = L.length

theorem lp41_2 {A C : Heap} {T : Tm} {Q : Post} {lv cv ov0 : AVal} {L : List Hd} {cls ord0 : List Nat} {om : List (Nat × Nat)} {qo qnum q10 q4 : Nat} (o : LOk L) (hL : Hds A lv L) (eA : Ex A C) (hAq : A.nx ≤ qnum ∧ A.nx ≤ q10 ∧ (∀ i, sid ov0 = some i → A.nx ≤ i)) (hcl : cls.length = L.length)
    (st : Ot41 C C q4 qnum q10 ov0 ov0 .nsl ord0 []) (hc : Ints C cv (cls.map fun (c : Nat) => (c : Int))) (hco : Outs [some qnum, sid ov0, some q10] cv) (go : C.get qo = some (.map (entI om))) (hqo : qo < C.nx ∧ qo ≠ qnum ∧ sid ov0 ≠ some qo ∧ qo ≠ q10) (om1 : ∀ (c i : Nat), lookI c om = some i → cls[i]? = some c) (om2 : ∀ c ∈ cls, (lookI c om).isSome)
    (ho1 : ord0.Nodup) (ho2 : ∀ c ∈ ord0, c ∈ cls) (hlt : ∀ c ∈ cls, c < L.length)
    (h0 : T.get 0 = some lv) (h5 : T.get 5 = some cv) (h6 : T.get 6 = some (.m qo)) (h8 : T.get 8 = some (.m qnum)) (h9 : T.get 9 = some ov0) (h10 : T.get 10 = some (.p q10 0)) (h11 : T.get 11 = some (.i .i64 0))
    (hQ : ∀ T' H' ov outv ord out, Keep [4, 10] T T' → Ot41 C H' q4 qnum q10 ov0 ov outv ord out → ord0 <+: ord → NmS L cls ord out → out.length = ord.length → ord.length ≤ L.length → Q (.exit 2) T' H') : Loop l41_2 T C Q := by
  have on := o.n
  refine Loop.by (Iv412 C T q4 qnum q10 ov0 L cls ord0) L.length ?_ ?_
  · exact ⟨fun t _ => rfl, ov0, .nsl, ord0, [], h9, h11, st, List.prefix_refl _, fun j g hg => by simp at hg, by simp, ho1, ho2, by simp⟩
  · rintro r T1 H ⟨hkp, ov, outv, ord, out, g9, g11, t, hpre, nms, hle, hnd, hmem, hr⟩
    have k0 := (hkp 0 (by simp)).trans h0
    have k4 := hkp 4 (by simp)
    have k5 := (hkp 5 (by simp)).trans h5
    have k6 := (hkp 6 (by simp)).trans h6
    have k8 := (hkp 8 (by simp)).trans h8
    have k10 := (hkp 10 (by simp)).trans h10
    have hol : ord.length ≤ L.length := nodup_le hnd fun c hc => hlt c (hmem c hc)
    have hosl := t.ob.slen
    by_cases hat : out.length < ord.length
    · obtain ⟨c, hcat⟩ : ∃ y, ord[out.length]? = some y := ⟨_, List.getElem?_eq_getElem hat⟩
      have hcm := hmem c (List.mem_of_getElem? hcat)
      obtain ⟨i, hi⟩ := Option.isSome_iff_exists.1 (om2 c hcm)
      have hci := om1 c i hi
      have hil : i < L.length := by have := (List.getElem?_eq_some_iff.1 hci).1; omega
      obtain ⟨h, hh⟩ : ∃ y, L[i]? = some y := ⟨_, List.getElem?_eq_getElem hil⟩
      have hm := List.mem_of_getElem? hh
      have nn := o.nn h hm
      have ko := o.kid h hm
      have hlt' : (out.length : Int) < (ord.length : Int) := by omega
      have nC := t.fr.nx
      have nA := eA.nx
      have q1 := t.ql
      have ovlt : ∀ i, sid ov = some i → i < H.nx := fun i hi => t.ob.sid_lt hi
      obtain ⟨oc, oc1, oc2, oc3, oc4⟩ := t.ou
      have outlt : ∀ i, sid outv = some i → i < H.nx := fun i hi => oc1.sid_lt hi
      -- what lies still
      have eAH : Ex A H := ⟨by omega, fun i hi ob ho => t.fr.old i (by omega) (by
        simp only [List.mem_cons, List.mem_nil_iff, or_false, not_or, Option.some.injEq]
        exact ⟨by omega, fun e => by have := hAq.2.2 i e.symm; omega, by omega⟩) ob (eA.get i hi ob ho)⟩
      have goH : H.get qo = some (.map (entI om)) := t.fr.old qo hqo.1 (by
        simp only [List.mem_cons, List.mem_nil_iff, or_false, not_or, Option.some.injEq]
        exact ⟨hqo.2.1, fun e => hqo.2.2.1 e.symm, hqo.2.2.2⟩) _ go
      have hlko := look_I goH c false
      rw [hi] at hlko
      simp only [Bool.false_eq_true, if_false, Option.getD_some] at hlko
      have hob := t.ob.sl
      have lord : aLoad H (sptr 1 ov out.length) 1 false = some (.i .i64 (c : Int)) := hob.at' out.length _ (by rw [intsR, List.getElem?_map, hcat]; rfl)
      have sxo : sidx 1 ov (.i .i64 (out.length : Int)) = some (sptr 1 ov out.length) := sidx_at (n := ord.length) hosl hat
      obtain ⟨ns, ks, ld, xn, xk⟩ := hL.headX eAH hh
      obtain ⟨H1, hH1⟩ : ∃ P, P = (H.push (.row [.i .i64 0, .nsl, .nsl, .b false] true)).put H.nx (.row [.i .i64 h.kind, ns, ks, .b h.opn] true) := ⟨_, rfl⟩
      have st12 : aStore (H.push (.row [.i .i64 0, .nsl, .nsl, .b false] true)) (.p H.nx 0) (.agg [.i .i64 h.kind, ns, ks, .b h.opn]) 4 = some H1 := by
        rw [hH1]; simp [aStore, splice]
      have n1 : H1.nx = H.nx + 1 := by rw [hH1]; rfl
      have old1 : ∀ i, i < H.nx → H1.get i = H.get i := fun i hi => by rw [hH1, Heap.get_put, if_neg (by omega), get_push_old hi]
      have e01 : Ex H H1 := ⟨by omega, fun i hi ob ho => by rw [old1 i hi]; exact ho⟩
      have g12 : H1.get H.nx = some (.row [.i .i64 h.kind, ns, ks, .b h.opn] true) := by rw [hH1, Heap.get_put, if_pos rfl]
      have l121 : aLoad H1 (.p H.nx 1) 1 false = some ns := by rw [load_row g12]; rfl
      simp [l41_2, r41_11, g9, g11, hosl, hlt', r41_12, k0, k6, sxo, lord, hlko, sidx_at hL.len hil, ld, st12]
      simp [r41_13, l121]
      refine Call.mono (call69 (xn.ex (eAH.trans e01)) (by omega)) ?_
      rintro nv H2 _ ⟨e12, bnv, snv⟩
      have n2 := e12.nx
      have g122 := e12.get _ (by omega) _ g12
      have hcn : nv.cells? = some [nv] := bnv.sl1.cells
      obtain ⟨H3, hH3⟩ : ∃ P, P = H2.put H.nx (.row [.i .i64 h.kind, nv, ks, .b h.opn] true) := ⟨_, rfl⟩
      have st12b : aStore H2 (.p H.nx 1) nv 1 = some H3 := by
        rw [hH3]; simp only [aStore, hcn, g122]; rfl
      have n3 : H3.nx = H2.nx := by rw [hH3]; rfl
      have old3 : ∀ i, i ≠ H.nx → H3.get i = H2.get i := fun i hi => by rw [hH3, Heap.get_put, if_neg hi]
      obtain ⟨H4, hH4⟩ : ∃ P, P = H3.push (.row [] true) := ⟨_, rfl⟩
      have n4 : H4.nx = H2.nx + 1 := by rw [hH4, nx_push', n3]
      have old4 : ∀ i, i < H2.nx → H4.get i = H3.get i := fun i hi => by rw [hH4, get_push_old (by omega)]
      have g124 : H4.get H.nx = some (.row [.i .i64 h.kind, nv, ks, .b h.opn] true) := by rw [old4 _ (by omega), hH3, Heap.get_put, if_pos rfl]
      have l124 : aLoad H4 (.p H.nx 2) 1 false = some ks := by rw [load_row g124]; rfl
      have f04 : Fr [] H H4 := ⟨by omega, fun i hi _ ob ho => by
        rw [old4 i (by omega), old3 i (by omega)]
        exact e12.get i (by omega) ob (e01.get i hi ob ho)⟩
      have hks4 : Ints H4 ks h.kids := (xk.ex eAH).fr f04 (.inr (by simp))
      simp [kC, st12b]
      simp [r41_14]
      rw [← hH4]
      simp [r41_15, l124, hks4.len']
      have hcC := hc.fr t.fr hco
      have hc4 := hcC.fr f04 (.inr (by simp))
      have cvlt : ∀ i, sid cv = some i → i < C.nx := fun i hi => by
        have h2 := hc.ins
        cases cv <;> simp only [slin] at h2 <;> simp [K.sid] at hi
        omega
      have kslt : ∀ i, sid ks = some i → i < A.nx := fun i hi => by
        have h2 := xk.ins
        cases ks <;> simp only [slin] at h2 <;> simp [K.sid] at hi
        omega
      have h30 : H3.nx = H2.nx := n3
      have cvov : ∀ i, sid cv = some i → i ≠ qnum ∧ sid ov ≠ some i := fun i hi => by
        have hco' : sid cv ∉ [some qnum, sid ov0, some q10] := by
          rcases hco with e | e
          · rw [hi] at e; cases e
          · exact e
        rw [hi] at hco'
        simp only [List.mem_cons, List.mem_nil_iff, or_false, not_or, Option.some.injEq] at hco'
        refine ⟨hco'.1, fun e => ?_⟩
        rcases t.so with h | h
        · exact hco'.2.1 (by rw [← h, e])
        · have := h i e; have := cvlt i hi; omega
      have ovA : ∀ i, sid ov = some i → A.nx ≤ i := fun i hi => by
        rcases t.so with h | h
        · exact hAq.2.2 i (by rw [← h]; exact hi)
        · have := h i hi; omega
      obtain ⟨nm, nm1, nm2⟩ := t.nm
      have t4 : In41 H4 H4 qnum ov (.sl H3.nx 0 0 (some 0) 1) ov (.sl H3.nx 0 0 (some 0) 1) ord [] := by
        refine ⟨⟨Nat.le_refl _, fun _ _ _ _ h => h⟩, ⟨nm, f04.old qnum (by omega) (by simp) _ nm1, nm2⟩, t.ob.keepS f04.nx fun i hi ob ho => f04.old i (ovlt i hi) (by simp) ob ho, ?_, .inl rfl, .inl rfl, fun i hi => ⟨(t.ne i hi).1, ?_⟩, ?_, by omega⟩
        · rw [hH4]
          exact Buf.zero (own := true) (by simp) (get_push_nx _ _)
        · have := ovlt i hi
          simp [sid]; omega
        · simp [sid]; omega
      refine lp41_1 (cls := cls) (kids := h.kids) (n := L.length) t4 hc4 ?_ hks4 ?_ hcl ko (by omega) (by omega) (by simp [k5]) (by simp [k8]) (by simp [g9]) (by simp) (by simp) (by simp) (by simp) fun T2 H5 ov' kv' hk2 m9 m13 t5 => ?_
      · cases hs : sid cv with
        | none => exact .inl hs
        | some i =>
          refine .inr ?_
          have h1 := cvov i hs
          have h2 := cvlt i hs
          rw [hs]
          simp only [List.mem_cons, List.mem_nil_iff, or_false, not_or, Option.some.injEq]
          exact ⟨h1.1, fun e => h1.2 e.symm, by simp [sid]; omega⟩
      · cases hs : sid ks with
        | none => exact .inl hs
        | some i =>
          refine .inr ?_
          have h1 := kslt i hs
          rw [hs]
          simp only [List.mem_cons, List.mem_nil_iff, or_false, not_or, Option.some.injEq]
          exact ⟨by omega, fun e => by have := ovA i e.symm; omega, by simp [sid]; omega⟩
      obtain ⟨kc, hkc⟩ : ∃ z, z = h.kids.map fun k => cls.getD k.toNat 0 := ⟨_, rfl⟩
      obtain ⟨ord', hord'⟩ : ∃ z, z = foldG ord kc := ⟨_, rfl⟩
      obtain ⟨nums, hnums⟩ : ∃ z, z = numG ord kc := ⟨_, rfl⟩
      have hkcl : kc.length = h.kids.length := by rw [hkc]; simp
      have hnl : nums.length = h.kids.length := by rw [hnums, numG_length, hkcl]
      rw [← hkc, ← hord', ← hnums] at t5
      have m0 := hk2 0 (by simp)
      have m4 := hk2 4 (by simp)
      have m5 := hk2 5 (by simp)
      have m6 := hk2 6 (by simp)
      have m8 := hk2 8 (by simp)
      have m10 := hk2 10 (by simp)
      have m11 := hk2 11 (by simp)
      have m12 := hk2 12 (by simp)
      simp [k0, k5, k6, k8, k10, g11] at m0 m4 m5 m6 m8 m10 m11 m12
      have n5 := t5.fr.nx
      have kk : sid (.sl H3.nx 0 0 (some 0) 1 : AVal) = some H3.nx := rfl
      have fx : ∀ i, i < H4.nx → i ≠ qnum → sid ov ≠ some i → i ≠ H3.nx → ∀ ob, H4.get i = some ob → H5.get i = some ob := fun i hi h1 h2 h3 ob ho => t5.fr.old i hi (by
        simp only [List.mem_cons, List.mem_nil_iff, or_false, not_or, kk, Option.some.injEq]
        exact ⟨h1, fun e => h2 e.symm, h3⟩) ob ho
      have g125 := fx H.nx (by omega) (by omega) (fun e => by have := ovlt _ e; omega) (by omega) _ g124
      have hck : kv'.cells? = some [kv'] := t5.kb.sl1.cells
      obtain ⟨H6, hH6⟩ : ∃ P, P = H5.put H.nx (.row [.i .i64 h.kind, nv, kv', .b h.opn] true) := ⟨_, rfl⟩
      have st12c : aStore H5 (.p H.nx 2) kv' 1 = some H6 := by
        rw [hH6]; simp only [aStore, hck, g125]; rfl
      have n6 : H6.nx = H5.nx := by rw [hH6]; rfl
      have old6 : ∀ i, i ≠ H.nx → H6.get i = H5.get i := fun i hi => by rw [hH6, Heap.get_put, if_neg hi]
      have g126 : H6.get H.nx = some (.row [.i .i64 h.kind, nv, kv', .b h.opn] true) := by rw [hH6, Heap.get_put, if_pos rfl]
      have ovq10 : sid ov ≠ some q10 := fun e => (t.ne q10 e).2 rfl
      have g105 := fx q10 (by omega) (fun e => q1.2.2 e.symm) ovq10 (by omega) _ (f04.old q10 (by omega) (by simp) _ t.go)
      have g106 := (old6 q10 (by omega)).trans g105
      have l106 : aLoad H6 (.p q10 0) 1 false = some outv := by rw [load_row g106]; rfl
      have l126 : aLoad H6 (.p H.nx 0) 4 true = some (.agg [.i .i64 h.kind, nv, kv', .b h.opn]) := by rw [load_agg (o := 0) (n := 4) g126 (by simp)]; rfl
      have ob6 : Buf H6 4 outv out.length oc.flatten := oc1.keepS (by omega) fun i hi ob ho => by
        have := outlt i hi
        rw [old6 i (by omega)]
        have hsoo := t.soo i hi
        have hne10 : i ≠ qnum ∧ i ≠ q10 := ⟨by omega, by omega⟩
        exact fx i (by omega) hne10.1 hsoo.2 (by omega) ob (f04.old i this (by simp) ob ho)
      obtain ⟨outv', H7, a1, a2, a3, a4, a5⟩ := ob6.app1 (bytes := 64) (news := [.i .i64 h.kind, nv, kv', .b h.opn]) rfl (by omega) (by omega)
      have hco7 : outv'.cells? = some [outv'] := by rw [a4]; rfl
      have outq10 : sid outv ≠ some q10 := fun e => by have := (t.soo q10 e).1; omega
      have g107 : H7.get q10 = some (.row [outv, .i .i64 0] true) := by rw [a5 q10 (by omega) outq10]; exact g106
      obtain ⟨H8, hH8⟩ : ∃ P, P = H7.put q10 (.row [outv', .i .i64 0] true) := ⟨_, rfl⟩
      have st10 : aStore H7 (.p q10 0) outv' 1 = some H8 := by
        rw [hH8]; simp only [aStore, hco7, g107]; rfl
      have n8 : H8.nx = H6.nx + 2 := by rw [hH8, nx_put', a3]
      have old8 : ∀ i, i ≠ q10 → H8.get i = H7.get i := fun i hi => by rw [hH8, Heap.get_put, if_neg hi]
      have osid : sid outv' = some (H6.nx + 1) := by rw [a4]; rfl
      simp [r41_25, m13, m12, st12c, r41_26, m10, l106, l126, a1, st10, r41_27, m11, b_inc (show out.length < 4611686018427387904 by omega)]
      have F : ∀ i, i < H.nx → i ≠ qnum → sid ov ≠ some i → sid outv ≠ some i → i ≠ q10 → ∀ ob, H.get i = some ob → H8.get i = some ob := fun i hi h1 h2 h3 h4 ob ho => by
        rw [old8 i h4, a5 i (by omega) h3, old6 i (by omega)]
        exact fx i (by omega) h1 h2 (by omega) ob (f04.old i hi (by simp) ob ho)
      have frS : Fr [some qnum, some q10, sid ov, sid outv] H H8 := ⟨by omega, fun i hi hm ob ho => by
        simp only [List.mem_cons, List.mem_nil_iff, or_false, not_or, Option.some.injEq] at hm
        exact F i hi hm.1 (fun e => hm.2.2.1 e.symm) (fun e => hm.2.2.2 e.symm) hm.2.1 ob ho⟩
      have drop4 : ∀ {v}, Outs [some q4, some qnum, some q10, sid ov, sid outv] v → Outs [some qnum, some q10, sid ov, sid outv] v := fun h => h.imp id fun h hm => h (List.mem_cons_of_mem _ hm)
      have q4l := t.q4l
      have ovc : ∀ i, sid ov' = some i → (sid ov = some i) ∨ (H4.nx ≤ i ∧ i < H5.nx) := fun i hi => by
        rcases t5.so with h | h
        · exact .inl (by rw [← h]; exact hi)
        · exact .inr ⟨h i hi, t5.ob.sid_lt hi⟩
      have kvc : ∀ i, sid kv' = some i → i = H3.nx ∨ (H4.nx ≤ i ∧ i < H5.nx) := fun i hi => by
        rcases t5.sk with h | h
        · rw [h, kk] at hi; simp at hi; exact .inl hi.symm
        · exact .inr ⟨h i hi, t5.kb.sid_lt hi⟩
      have tail : ∀ i, i < H5.nx → i ≠ H.nx → sid outv ≠ some i → i ≠ q10 → ∀ ob, H5.get i = some ob → H8.get i = some ob := fun i hi h1 h2 h3 ob ho => by
        rw [old8 i h3, a5 i (by omega) h2, old6 i h1]; exact ho
      obtain ⟨nm', nm1', nm2'⟩ := t5.nm
      have hpre' : ord <+: ord' := by rw [hord']; exact foldG_pre kc ord
      obtain ⟨g, hg⟩ : ∃ z : Hd, z = ⟨h.kind, h.names, nums.map fun (n : Nat) => (n : Int), h.opn⟩ := ⟨_, rfl⟩
      have outq : ∀ i, sid outv = some i → C.nx ≤ i ∧ i < H.nx := fun i hi => ⟨(t.soo i hi).1, outlt i hi⟩
      have nvc : ∀ i, sid nv = some i → H1.nx ≤ i ∧ i < H2.nx := fun i hi => ⟨snv i hi, bnv.sid_lt hi⟩
      have t8 : Ot41 C H8 q4 qnum q10 ov0 ov' outv' ord' (out ++ [g]) := by
        refine ⟨⟨by omega, fun i hi hm ob ho => ?_⟩, ⟨nm', ?_, nm2'⟩, t5.ob.keepS (by omega) fun i hi ob ho => ?_, ?_, by rw [hH8, Heap.get_put, if_pos rfl], ⟨oc ++ [[.i .i64 h.kind, nv, kv', .b h.opn]], ?_, by simp [oc2], fun c hc => ?_, fun j c x hc hx => ?_⟩, fun i hi => ?_, fun i hi => ?_, t.ql, t.q4l⟩
        · simp only [List.mem_cons, List.mem_nil_iff, or_false, not_or, Option.some.injEq] at hm
          refine F i (by omega) hm.1 (fun e => ?_) (fun e => by have := outq i e; omega) hm.2.2 ob (t.fr.old i hi (by simp; exact hm) ob ho)
          rcases t.so with h | h
          · exact hm.2.1 (by rw [← h, e])
          · have := h i e; omega
        · exact tail qnum (by omega) (by omega) (fun e => by have := outq _ e; omega) q1.2.2 _ nm1'
        · refine tail i (t5.ob.sid_lt hi) ?_ ?_ ?_ ob ho
          · rcases ovc i hi with e | e
            · have := ovlt i e; omega
            · omega
          · rcases ovc i hi with e | e
            · exact fun e2 => (t.soo i e2).2 e
            · exact fun e2 => by have := outlt i e2; omega
          · rcases ovc i hi with e | e
            · exact (t.ne i e).2
            · omega
        · rcases t5.so with h | h
          · rw [h]; exact t.so
          · exact .inr fun i hi => by have := h i hi; omega
        · rw [List.flatten_append, List.length_append]
          exact a2.keepS (by omega) fun i hi ob ho => by
            rw [osid] at hi
            simp at hi
            rw [old8 i (by omega)]
            exact ho
        · rcases List.mem_append.1 hc with hc | hc
          · exact oc3 c hc
          · simp at hc; rw [hc]; rfl
        · by_cases hj : j < out.length
          · rw [List.getElem?_append_left (by omega)] at hc
            rw [List.getElem?_append_left hj] at hx
            obtain ⟨⟨ns', ks', rfl, y1, y2, y3, y4⟩, y5⟩ := oc4 j c x hc hx
            have cvt : ∀ v, Outd H.nx [some q4, some qnum, some q10, sid ov, sid outv] v → Outd H8.nx [some q4, some qnum, some q10, sid ov', sid outv'] v := fun v hv => by
              refine ⟨?_, fun i hi => by have := hv.2 i hi; omega⟩
              rcases hv.1 with e | e
              · exact .inl e
              · cases hs : sid v with
                | none => exact .inl hs
                | some i =>
                  have hi := hv.2 i hs
                  refine .inr ?_
                  rw [hs] at e ⊢
                  simp only [List.mem_cons, List.mem_nil_iff, or_false, not_or, Option.some.injEq] at e ⊢
                  refine ⟨e.1, e.2.1, e.2.2.1, fun e2 => ?_, by rw [osid]; simp; omega⟩
                  rcases ovc i e2.symm with e3 | e3
                  · exact e.2.2.2.1 e3.symm
                  · omega
            exact ⟨⟨ns', ks', rfl, y1.fr frS (drop4 y3.1), y2.fr frS (drop4 y4.1), cvt _ y3, cvt _ y4⟩, y5⟩
          · have hje : j = out.length := by
              have := (List.getElem?_eq_some_iff.1 hx).1
              simp at this; omega
            subst hje
            rw [List.getElem?_append_right (by omega)] at hc hx
            simp [oc2] at hc hx
            subst hc hx
            rw [hg]
            refine ⟨⟨nv, kv', rfl, ?_, ?_, ⟨?_, fun i hi => by have := nvc i hi; omega⟩, ⟨?_, fun i hi => by have := t5.kb.sid_lt hi; omega⟩⟩, fun v hv i hi => ?_⟩
            rotate_right
            · simp at hv
              rcases hv with rfl | rfl | rfl | rfl
              · simp [sid] at hi
              · have := nvc i hi; omega
              · have := kvc i hi; omega
              · simp [sid] at hi
            · have : Buf H8 1 nv h.names.length (h.names.map .s) := bnv.keepS (by omega) fun i hi ob ho => by
                have hi2 := nvc i hi
                refine tail i (by omega) (by omega) (fun e => by have := outlt i e; omega) (by omega) ob (fx i (by omega) (by omega) (fun e => by have := ovlt i e; omega) (by omega) ob ?_)
                rw [old4 i (by omega), old3 i (by omega)]; exact ho
              exact this.sl1
            · have : Buf H8 1 kv' nums.length (intsR nums) := t5.kb.keepS (by omega) fun i hi ob ho => by
                have hi2 := kvc i hi
                exact tail i (t5.kb.sid_lt hi) (by omega) (fun e => by have := outlt i e; omega) (by omega) ob ho
              have := this.sl1
              unfold Ints
              rw [intsR_map]; exact this
            · cases hs : sid nv with
              | none => exact .inl hs
              | some i =>
                have := nvc i hs
                refine .inr ?_
                rw [hs]
                simp only [List.mem_cons, List.mem_nil_iff, or_false, not_or, Option.some.injEq]
                refine ⟨by omega, by omega, by omega, fun e => ?_, by rw [osid]; simp; omega⟩
                rcases ovc i e.symm with e | e
                · have := ovlt i e; omega
                · omega
            · cases hs : sid kv' with
              | none => exact .inl hs
              | some i =>
                have h2 := kvc i hs
                refine .inr ?_
                rw [hs]
                simp only [List.mem_cons, List.mem_nil_iff, or_false, not_or, Option.some.injEq]
                refine ⟨by omega, by omega, by omega, fun e => (t5.ne i e.symm).2 hs, by rw [osid]; simp; omega⟩
        · rw [osid] at hi
          simp at hi
          refine ⟨by omega, fun e => ?_⟩
          have := t5.ob.sid_lt e; omega
        · refine ⟨(t5.ne i hi).1, ?_⟩
          rcases ovc i hi with e | e
          · exact (t.ne i e).2
          · omega
      refine ⟨r - 1, by omega, fun t ht => ?_, ov', outv', ord', out ++ [g], by simp [m9], by simp, t8, hpre.trans hpre', ?_, ?_, ?_, fun d hd => ?_, by simp; omega⟩
      · have e2 := hkp t ht
        simp at ht
        rcases ht with rfl | rfl | rfl | rfl | rfl | rfl <;> simp [m0, m4, m5, m6, m8, m10, k0, k5, k6, k8, k10, h0, h5, h6, h8, h10, e2] <;> exact e2
      · intro j x hx
        by_cases hj : j < out.length
        · rw [List.getElem?_append_left hj] at hx
          exact nms.grow hpre' j x hx
        · have hje : j = out.length := by
            have := (List.getElem?_eq_some_iff.1 hx).1
            simp at this; omega
          subst hje
          rw [List.getElem?_append_right (by omega)] at hx
          simp at hx
          subst hx
          refine ⟨c, i, h, pre_get hpre' hcat, hci, hh, by rw [hg], by rw [hg], by rw [hg], by rw [hg]; simp [hnl], fun a k hk => ?_⟩
          have hka : kc[a]? = some (cls.getD k.toNat 0) := by rw [hkc, List.getElem?_map, hk]; rfl
          obtain ⟨m, b1, b2⟩ := numG_get (ps := ord) hka
          refine ⟨m, ?_, by rw [hord']; exact b2⟩
          rw [hg, hnums]
          simp only [List.getElem?_map, b1, Option.map_some]
      · have := hpre'.length_le
        simp; omega
      · rw [hord']; exact foldG_nodup hnd
      · rw [hord'] at hd
        rcases foldG_mem hd with hd | hd
        · exact hmem d hd
        · rw [hkc] at hd
          simp only [List.mem_map] at hd
          obtain ⟨k, hk, rfl⟩ := hd
          have hkr := ko k hk
          rw [List.getD_eq_getElem?_getD, List.getElem?_eq_getElem (by omega)]
          exact List.getElem_mem _
    · have hlt' : ¬ (out.length : Int) < (ord.length : Int) := by omega
      simp [l41_2, r41_11, g9, g11, hosl, hlt']
      refine hQ _ _ ov outv ord out (fun t ht => ?_) t hpre nms (by omega) hol
      have e2 := hkp t (by simp at ht ⊢; omega)
      simp at ht
      rcases ht with rfl | rfl <;> simp [e2]

/-- A graph all of whose slices are new. -/
structure GrN (n : Nat) (H : Heap) (v : AVal) (g : Gr) : Prop where
  ex : ∃ l, v = .agg [l, .i .i64 g.root] ∧ AM.slen l = some g.l.length ∧ slin H.nx 4 l ∧ (∀ i, sid l = some i → n ≤ i) ∧ ∀ (j : Nat) h, g.l[j]? = some h → ∃ ns ks, aLoad H (sptr 4 l j) 4 true = some (.agg [.i .i64 h.kind, ns, ks, .b h.opn]) ∧ Strs H ns h.names ∧ Ints H ks h.kids ∧ (∀ i, sid ns = some i → n ≤ i) ∧ (∀ i, sid ks = some i → n ≤ i)

theorem GrN.gr {n : Nat} {H : Heap} {v : AVal} {g : Gr} (k : GrN n H v g) : GrOf H v g := by
  obtain ⟨l, rfl, h1, h2, h3, h4⟩ := k.ex
  exact ⟨l, rfl, h1, h2, fun j h hj => by
    obtain ⟨ns, ks, a, b, c, _⟩ := h4 j h hj
    exact ⟨_, a, ns, ks, rfl, b, c⟩⟩
theorem GrN.fr {n m : Nat} {H H' : Heap} {v : AVal} {g : Gr} {S : List (Option Nat)} (k : GrN n H v g) (f : Fr S H H') (hS : ∀ i, some i ∈ S → i < n) (hS2 : none ∉ S) (hm : m ≤ n) : GrN m H' v g := by
  obtain ⟨l, rfl, h1, h2, h3, h4⟩ := k.ex
  have out : ∀ w, (∀ i, sid w = some i → n ≤ i) → Outs S w := fun w hw => by
    cases hs : sid w with
    | none => exact .inl hs
    | some i => exact .inr (by rw [hs]; intro hm; have := hS i hm; have := hw i hs; omega)
  refine ⟨l, rfl, h1, slin_le f.nx h2, fun i hi => by have := h3 i hi; omega, fun j h hj => ?_⟩
  obtain ⟨ns, ks, a, b, c, d, e⟩ := h4 j h hj
  refine ⟨ns, ks, ?_, b.fr f (out _ d), c.fr f (out _ e), fun i hi => by have := d i hi; omega, fun i hi => by have := e i hi; omega⟩
  have hjl := (List.getElem?_eq_some_iff.1 hj).1
  cases l <;> simp only [slin] at h2
  · simp at h1; omega
  · rename_i i o nn kk es
    rw [sptr_sl] at a ⊢
    have hi := h3 i rfl
    unfold aLoad at a ⊢
    simp only at a ⊢
    cases hg : H.get i with
    | none => rw [hg] at a; simp at a
    | some ob => rw [hg] at a; rw [f.old i h2.1 (fun hm => by have := hS i hm; omega) _ hg]; exact a

theorem flat4 : ∀ {oc : List (List AVal)} {j : Nat} {c : List AVal}, (∀ c ∈ oc, c.length = 4) → oc[j]? = some c → (oc.flatten.drop (j * 4)).take 4 = c
  | [], j, c, _, h => by simp at h
  | x :: r, 0, c, hl, h => by
    simp at h
    subst h
    have := hl x (by simp)
    simp [List.take_append_of_le_length, this]
  | x :: r, j + 1, c, hl, h => by
    simp at h
    have hx := hl x (by simp)
    have ih := flat4 (oc := r) (j := j) (fun c hc => hl c (by simp [hc])) h
    rw [List.flatten_cons, Nat.add_mul, Nat.one_mul, List.drop_append, List.drop_of_length_le (by omega), List.nil_append, hx, Nat.add_sub_cancel]
    exact ih

/-- What a normal graph has of the heads it is made of. -/
structure NmOf (L : List Hd) (root : Int) (N : Gr) : Prop where
  ex : ∃ cls ord, Stable L cls ∧ NmS L cls ord N.l ∧ N.l.length = ord.length ∧ ∃ c, ord[0]? = some c ∧ cls[root.toNat]? = some c
  root : N.root = 0
  pos : 0 < N.l.length
  le : N.l.length ≤ L.length

theorem call41 {A : Heap} {lv : AVal} {L : List Hd} {root : Int} (o : LOk L) (hL : Hds A lv L) (hr : 0 ≤ root ∧ root < (L.length : Int)) :
    Call 41 [lv, .i .i64 root] A fun v H' => Ex A H' ∧ ∃ N, GrN (A.nx + 1) H' v N ∧ NmOf L root N := by
  have on := o.n
  have hlc := hL.cells
  obtain ⟨rn, rfl⟩ : ∃ z : Nat, root = z := ⟨root.toNat, by omega⟩
  have hrn : rn < L.length := by omega
  refine Call.by (a := a41) rfl (by simp [a41]) ?_
  simp [a41, c41, r41_0, r41_1]
  obtain ⟨H1, hH1⟩ : ∃ P, P = A.push (.row [.nsl, .i .i64 0] true) := ⟨_, rfl⟩
  have n1 : H1.nx = A.nx + 1 := by rw [hH1]; rfl
  have e01 : Ex A H1 := by rw [hH1]; exact (Ex.refl _).push _
  have g41 : H1.get A.nx = some (.row [.nsl, .i .i64 0] true) := by rw [hH1]; exact get_push_nx _ _
  rw [← hH1]
  refine Call.mono (call71 o (hL.ex e01) (by omega)) ?_
  rintro cv H2 _ ⟨e12, cls, hst, hcv, hclt, hcl⟩
  have hcc := hcv.cells
  have n2 := e12.nx
  obtain ⟨H3, hH3⟩ : ∃ P, P = H2.push (.map []) := ⟨_, rfl⟩
  have n3 : H3.nx = H2.nx + 1 := by rw [hH3]; rfl
  have e23 : Ex H2 H3 := by rw [hH3]; exact (Ex.refl _).push _
  have gm3 : H3.get H2.nx = some (.map []) := by rw [hH3]; exact get_push_nx _ _
  have cvlt : ∀ i, sid cv = some i → i < H2.nx := fun i hi => by
    have h2 := hcv.ins
    cases cv <;> simp only [slin] at h2 <;> simp [K.sid] at hi
    omega
  have cvo : ∀ S : List (Option Nat), (∀ i, some i ∈ S → H2.nx ≤ i) → Outs S cv := fun S hS => by
    cases hs : sid cv with
    | none => exact .inl hs
    | some i => exact .inr (by rw [hs]; intro hm; have := hS i hm; have := cvlt i hs; omega)
  have hsub := b_sub (a := (L.length : Int)) (b := 1) ⟨by omega, by omega⟩
  simp [kC, r41_2]
  rw [← hH3]
  simp [r41_3, hL.len, hsub]
  refine lp41_0 (cls := cls) (qo := H2.nx) (n := L.length) (by omega) gm3 (hcv.ex e23) (cvo _ (by simp)) hcl (by omega) (by simp) (by simp) (by simp) fun T4 H4 om hk4 fr4 go4 om1 om2 => ?_
  have n4 := fr4.nx
  have k0 := hk4 0 (by simp)
  have k1 := hk4 1 (by simp)
  have k4 := hk4 4 (by simp)
  have k5 := hk4 5 (by simp)
  have k6 := hk4 6 (by simp)
  simp at k0 k1 k4 k5 k6
  obtain ⟨c0, hc0⟩ : ∃ y, cls[rn]? = some y := ⟨_, List.getElem?_eq_getElem (by omega)⟩
  have gc : (cls.map fun (c : Nat) => (c : Int))[rn]? = some (c0 : Int) := by rw [List.getElem?_map, hc0]; rfl
  have hcv4 : Ints H4 cv (cls.map fun (c : Nat) => (c : Int)) := (hcv.ex e23).fr fr4 (cvo _ (by simp))
  have sx : sidx 1 cv (.i .i64 (rn : Int)) = some (sptr 1 cv rn) := sidx_at hcv.len' (by simp; omega)
  have gl : ∀ G, Ex H4 G → aLoad G (sptr 1 cv rn) 1 false = some (.i .i64 (c0 : Int)) := fun G he => (hcv4.ex he).get gc
  obtain ⟨H5, hH5⟩ : ∃ P, P = (H4.push (.map [])).put H4.nx (.map (entI [(c0, 0)])) := ⟨_, rfl⟩
  have hu : aUpd (H4.push (.map [])) (.int .i64) (.m H4.nx) (.i .i64 (c0 : Int)) (.i .i64 0) = some H5 := by
    have := upd_I (H := H4.push (.map [])) (q := H4.nx) (l := []) (get_push_nx _ _) c0 0
    rw [hH5]; exact this
  have n5 : H5.nx = H4.nx + 1 := by rw [hH5]; rfl
  have e45 : Ex H4 H5 := by rw [hH5]; exact ((Ex.refl _).push _).put (Nat.le_refl _) _
  have gn5 : H5.get H4.nx = some (.map (entI [(c0, 0)])) := by rw [hH5, Heap.get_put, if_pos rfl]
  have glp := gl (H4.push (.map [])) ((Ex.refl _).push _)
  have gl5 := gl H5 e45
  simp [r41_7, k1, k5, sx, glp, hu]
  simp [r41_8, k1, k5, sx, gl5]
  obtain ⟨C, hC⟩ : ∃ P, P = (H5.push (.row [.i .i64 (c0 : Int)] true)).push (.row [.nsl, .i .i64 0] true) := ⟨_, rfl⟩
  have nC : C.nx = H5.nx + 2 := by rw [hC]; rfl
  have e5C : Ex H5 C := by rw [hC]; exact ((Ex.refl _).push _).push _
  have gov : C.get H5.nx = some (.row [.i .i64 (c0 : Int)] true) := by rw [hC, get_push_old (by simp)]; exact get_push_nx _ _
  have g10 : C.get (H5.nx + 1) = some (.row [.nsl, .i .i64 0] true) := by rw [hC]; exact get_push_nx _ _
  have gnC := e5C.get _ (by omega) _ gn5
  have goC := e5C.get _ (by omega) _ (e45.get _ (by omega) _ go4)
  have eA3 : Ex A H4 := ⟨by omega, fun i hi ob ho => fr4.old i (by omega) (by simp; omega) ob ((e01.trans (e12.trans e23)).get i hi ob ho)⟩
  have eAC : Ex A C := eA3.trans (e45.trans e5C)
  have hne : H4.nx ≠ H2.nx := by omega
  simp [r41_9]
  rw [← hC]
  simp [r41_10]
  have st0 : Ot41 C C A.nx H4.nx (H5.nx + 1) (.sl H5.nx 0 1 (some 1) 1) (.sl H5.nx 0 1 (some 1) 1) .nsl [c0] [] := by
    refine ⟨⟨Nat.le_refl _, fun _ _ _ _ h => h⟩, ⟨[(c0, 0)], gnC, fun d => ?_⟩, .inl ⟨H5.nx, true, rfl, rfl, by omega, gov⟩, .inl rfl, g10, ⟨[], Buf.nil _ _, rfl, by simp, by simp⟩, by simp [sid], fun i hi => ?_, ⟨by omega, by omega, by omega⟩, by omega⟩
    · simp only [lookI, posG]
    · simp [sid] at hi; omega
  refine lp41_2 (A := A) (cls := cls) (om := om) (qo := H2.nx) (q4 := A.nx) o hL eAC ⟨by omega, by omega, fun i hi => ?_⟩ hcl st0 (hcv4.ex (e45.trans e5C)) (cvo _ ?_) goC ⟨by omega, by omega, ?_, by omega⟩ om1 om2 (by simp) ?_ hclt (by simp [k0]) (by simp [k5]) (by simp [k6]) (by simp) (by simp) (by simp) (by simp) fun T9 H8 ov outv ord out hk9 t hpre nms hlen hle => ?_
  · simp [sid] at hi; omega
  · intro i hi
    simp [sid] at hi
    omega
  · simp [sid]; omega
  · intro c hc
    simp at hc
    rw [hc]; exact List.mem_of_getElem? hc0
  have p4 := hk9 4 (by simp)
  have p10 := hk9 10 (by simp)
  simp [k4] at p4 p10
  have n8 := t.fr.nx
  have go8 := t.go
  have g4C := e5C.get _ (by omega) _ (e45.get _ (by omega) _ (fr4.old A.nx (by omega) (by simp; omega) _ ((e12.trans e23).get _ (by omega) _ g41)))
  have g48 := t.fr.old A.nx (by omega) (by simp [sid]; omega) _ g4C
  obtain ⟨oc, oc1, oc2, oc3, oc4⟩ := t.ou
  have hoc : outv.cells? = some [outv] := by
    rcases oc1.2 with ⟨rfl, _⟩ | ⟨i, own, rfl, _⟩ | ⟨i, rfl, _⟩ <;> rfl
  have l10 : aLoad H8 (.p (H5.nx + 1) 0) 2 true = some (.agg [outv, .i .i64 0]) := by rw [load_agg (o := 0) (n := 2) go8 (by simp)]; rfl
  have st4 : aStore H8 (.p A.nx 0) (.agg [outv, .i .i64 0]) 2 = some (H8.put A.nx (.row [outv, .i .i64 0] true)) := by
    simp [aStore, g48, splice]
  simp [r41_28, p10, p4, l10, st4]
  rw [load_agg (o := 0) (n := 2) (cs := [outv, .i .i64 0]) (own := true) (by rw [Heap.get_put, if_pos rfl]) (by simp)]
  have frp : Fr [some A.nx] H8 (H8.put A.nx (.row [outv, .i .i64 0] true)) := ⟨by simp, fun i hi hm ob ho => by
    simp at hm
    rw [Heap.get_put, if_neg hm]; exact ho⟩
  have o1 : ∀ {v}, Outs [some A.nx, some H4.nx, some (H5.nx + 1), sid ov, sid outv] v → Outs [some A.nx] v := fun h => h.imp id fun h hm => h (by simp at hm; simp [hm])
  refine ⟨⟨by simp; omega, fun i hi ob ho => ?_⟩, ⟨out, 0⟩, ?_, ⟨⟨cls, ord, hst, nms, hlen, c0, pre_get hpre rfl, hc0⟩, rfl, ?_, by simp only; omega⟩⟩
  · rw [Heap.get_put, if_neg (by omega)]
    refine t.fr.old i (by omega) ?_ ob (eAC.get i hi ob ho)
    simp only [List.mem_cons, List.mem_nil_iff, or_false, not_or, Option.some.injEq]
    exact ⟨by omega, by simp [sid]; omega, by omega⟩
  · have oc1' : Buf (H8.put A.nx (.row [outv, .i .i64 0] true)) 4 outv out.length oc.flatten := oc1.keepS (by simp) fun i hi ob ho => by
      have := (t.soo i hi).1
      rw [Heap.get_put, if_neg (by omega)]; exact ho
    refine ⟨outv, rfl, oc1'.slen, ?_, fun i hi => by have := (t.soo i hi).1; omega, fun j h hj => ?_⟩
    · rcases oc1'.2 with ⟨rfl, _⟩ | ⟨i, own, rfl, _, hi, _⟩ | ⟨i, rfl, hi, _⟩
      · trivial
      · exact ⟨hi, rfl⟩
      · exact ⟨hi, rfl⟩
    · have hjl : j < out.length := (List.getElem?_eq_some_iff.1 hj).1
      obtain ⟨c, hcj⟩ : ∃ y, oc[j]? = some y := ⟨_, List.getElem?_eq_getElem (by omega)⟩
      obtain ⟨⟨ns', ks', rfl, y1, y2, y3, y4⟩, y5⟩ := oc4 j c h hcj hj
      refine ⟨ns', ks', ?_, y1.fr frp (o1 y3.1), y2.fr frp (o1 y4.1), fun i hi => by have := y5 ns' (by simp) i hi; omega, fun i hi => by have := y5 ks' (by simp) i hi; omega⟩
      rw [oc1'.load hjl]
      congr 2
      exact flat4 oc3 hcj
  · have := hpre.length_le
    simp at this ⊢; omega

theorem call31 {H : Heap} {v : AVal} {g : Gr} (hg : GrOf H v g) (hf : Fits g) (hr : rightB g = true) (o : LOk g.l) (hroot : 0 ≤ g.root ∧ g.root < (g.l.length : Int)) :
    Call 31 [v] H fun v' H' => Ex H H' ∧ ∃ w N, v' = .tup [w, .i .i64 0] ∧ GrN (H.nx + 1) H' w N ∧ NmOf g.l g.root N := by
  obtain ⟨l, rfl, hl⟩ := hg
  have on := o.n
  have hlc := hl.cells
  refine Call.by (a := a31) rfl (by simp [a31]) ?_
  simp [a31, c31, r31_0]
  obtain ⟨H1, hH1⟩ : ∃ P, P = (H.push (.row [l, .i .i64 g.root] true)).push (.row [.nsl, .i .i64 0] true) := ⟨_, rfl⟩
  have n1 : H1.nx = H.nx + 2 := by rw [hH1]; rfl
  have e1 : Ex H H1 := by rw [hH1]; exact ((Ex.refl _).push _).push _
  have g1 : H1.get H.nx = some (.row [l, .i .i64 g.root] true) := by rw [hH1, get_push_old (by simp)]; exact get_push_nx _ _
  have g2 : H1.get (H.nx + 1) = some (.row [.nsl, .i .i64 0] true) := by rw [hH1]; exact get_push_nx _ _
  have ll : aLoad H1 (.p H.nx 0) 2 true = some (.agg [l, .i .i64 g.root]) := by rw [load_agg (o := 0) (n := 2) g1 (by simp)]; rfl
  have l0 : aLoad H1 (.p H.nx 0) 1 false = some l := by rw [load_row g1]; rfl
  have l1 : aLoad H1 (.p H.nx 1) 1 false = some (.i .i64 g.root) := by rw [load_row g1]; rfl
  rw [← hH1]
  simp [r31_1, ll]
  refine Call.is (call28 (g := g) ⟨l, rfl, hl.ex e1⟩ hf (by omega)) ?_
  simp [kC, r31_2, hr, aEq, r31_4, l0, l1]
  refine Call.mono (call41 o (hl.ex e1) hroot) ?_
  rintro w H2 _ ⟨e2, N, hN, nm⟩
  have g22 := e2.get _ (by omega) _ g2
  have n2 := e2.nx
  obtain ⟨l', rfl, hl'⟩ := hN.gr
  have hlc' := hl'.cells
  have st : aStore H2 (.p (H.nx + 1) 0) (.agg [l', .i .i64 N.root]) 2 = some (H2.put (H.nx + 1) (.row [l', .i .i64 N.root] true)) := by
    simp [aStore, g22, splice]
  simp [kC, st]
  rw [load_agg (o := 0) (n := 2) (cs := [l', .i .i64 N.root]) (own := true) (by rw [Heap.get_put, if_pos rfl]) (by simp)]
  refine ⟨⟨by simp; omega, fun i hi ob ho => ?_⟩, _, rfl, N, ?_, nm⟩
  · rw [Heap.get_put, if_neg (by omega)]
    exact e2.get i (by omega) ob (e1.get i hi ob ho)
  · refine hN.fr (S := [some (H.nx + 1)]) ⟨by simp, fun i hi hm ob ho => ?_⟩ (by simp; omega) (by simp) (by omega)
    simp at hm
    rw [Heap.get_put, if_neg hm]; exact ho

end
end K
end Go.Proofs.YtlgbgbngdhhjaaaGreatDoor
