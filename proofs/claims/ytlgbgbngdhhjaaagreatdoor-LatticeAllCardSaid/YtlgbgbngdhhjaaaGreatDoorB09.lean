/- What the maker of parts comes to: number, side, named, head. No condition. -/
import Derived.Test.YtlgbgbngdhhjaaaGreatDoorB08
import Derived.Test.YtlgbgbngdhhjaaaGreatDoorB07
set_option linter.unusedSimpArgs false
set_option linter.unusedVariables false
set_option maxRecDepth 10000
namespace Go.Proofs.YtlgbgbngdhhjaaaGreatDoor
namespace K
noncomputable section
open Go AM

theorem findK_at : ∀ {xs : List (List Nat)} {ks : List Int} {nm : List Nat} {i : Nat} {y : Int}, xs.Nodup → xs[i]? = some nm → ks[i]? = some y → findK xs ks nm = y
  | [], _, _, i, _, _, h, _ => by simp at h
  | x :: xs, [], _, i, _, _, _, h => by simp at h
  | x :: xs, k :: ks, nm, 0, y, hd, h1, h2 => by
    simp at h1 h2
    subst h1 h2
    simp [findK]
  | x :: xs, k :: ks, nm, i + 1, y, hd, h1, h2 => by
    have hne : (x == nm) = false := by
      rw [beq_eq_false_iff_ne]
      rintro rfl
      have := (List.nodup_cons.1 hd).1
      exact this (List.mem_of_getElem? (by simpa using h1))
    simp only [findK, hne]
    exact findK_at (List.nodup_cons.1 hd).2 (by simpa using h1) (by simpa using h2)

theorem findK_none : ∀ {xs : List (List Nat)} {ks : List Int} {nm : List Nat}, nm ∉ xs → findK xs ks nm = -1
  | [], _, _, _ => by simp [findK]
  | x :: xs, [], _, _ => rfl
  | x :: xs, k :: ks, nm, h => by
    have hne : (x == nm) = false := by
      rw [beq_eq_false_iff_ne]
      rintro rfl
      exact h (by simp)
    simp only [findK, hne]
    exact findK_none fun hm => h (by simp [hm])

theorem call75 {H : Heap} {c : List AVal} {h : Hd} {t : List Nat} (hh : HdOf H c h) (hu : Up h.names) (hl : h.names.length ≤ h.kids.length) (hm : h.names.length < 1000000) :
    Call 75 [.agg c, .s t] H fun v H' => H' = H ∧ v = .i .i64 (findK h.names h.kids t) := by
  refine Call.forget ?_
  obtain ⟨ns, ks, rfl, hn, hk⟩ := hh
  refine Call.by (a := a75) rfl (by simp [a75]) ?_
  obtain ⟨H1, hH1⟩ : ∃ P, P = H.push (.row [.i .i64 h.kind, ns, ks, .b h.opn] true) := ⟨_, rfl⟩
  have e1 : Ex H H1 := by rw [hH1]; exact (Ex.refl H).push _
  have gh : H1.get H.nx = some (.row [.i .i64 h.kind, ns, ks, .b h.opn] true) := by rw [hH1]; simp
  simp [a75, c75, r75_0]
  rw [← hH1]
  simp [r75_1, load_row gh]
  refine Call.mono (call107 (hn.ex e1) hm hu) ?_
  rintro v H2 _ ⟨rfl, hf⟩
  rcases hf with ⟨i, rfl, hi⟩ | ⟨i, rfl, hi⟩
  · obtain ⟨y, hy⟩ : ∃ y, h.kids[i]? = some y := ⟨_, List.getElem?_eq_getElem (by have := (List.getElem?_eq_some_iff.1 hi).1; omega)⟩
    have hil : i < h.kids.length := (List.getElem?_eq_some_iff.1 hy).1
    simp [kC, r75_2, r75_4, load_row gh, sidx_at hk.len' hil, (hk.ex e1).get hy]
    exact ⟨e1, rfl, (findK_at hu.nodup hi hy).symm⟩
  · simp [kC, r75_2, r75_3]
    exact ⟨e1, rfl, (findK_none hi).symm⟩

/-! ### Parts -/
structure Pt where
  a : Int
  b : Int
  join : Bool
  deriving DecidableEq

def ptC (p : Pt) : List AVal := [.i .i64 p.a, .i .i64 p.b, .b p.join]

def ents : Nat → List Pt → List (AVal × AVal)
  | _, [] => []
  | n, p :: r => (.agg (ptC p), .i .i64 ((n : Nat) : Int)) :: ents (n + 1) r

def posP (p : Pt) : List Pt → Nat → Option Nat
  | [], _ => none
  | q :: r, n => if p = q then some n else posP p r (n + 1)

theorem posP_ge {p : Pt} : ∀ {ps : List Pt} {n i : Nat}, posP p ps n = some i → n ≤ i ∧ ps[i - n]? = some p
  | [], n, i, h => by simp [posP] at h
  | q :: r, n, i, h => by
    unfold posP at h
    split at h
    · rename_i e
      obtain rfl := Option.some.inj h
      exact ⟨Nat.le_refl _, by simp [e]⟩
    · obtain ⟨h1, h2⟩ := posP_ge h
      refine ⟨by omega, ?_⟩
      rw [show i - n = i - (n + 1) + 1 by omega]
      simpa using h2

theorem posP_none {p : Pt} : ∀ {ps : List Pt} {n : Nat}, posP p ps n = none → p ∉ ps
  | [], n, h => by simp
  | q :: r, n, h => by
    unfold posP at h
    split at h
    · cases h
    · rename_i e
      have := posP_none h
      simp [e, this]

theorem find_ents (p : Pt) : ∀ (ps : List Pt) (n m : Nat), aFind .part (.agg (ptC p)) (ents n ps) m = some ((posP p ps n).map fun i => (m + (i - n), .i .i64 ((i : Nat) : Int)))
  | [], n, m => rfl
  | q :: r, n, m => by
    have he : aKeyEq .part (.agg (ptC p)) (.agg (ptC q)) = some (decide (p = q)) := by
      simp only [aKeyEq, ptC, aEqPart, and_self, if_true]
      congr 1
      rw [Bool.eq_iff_iff]
      cases p; cases q
      simp [and_assoc]
    simp only [ents, aFind, he]
    by_cases hpq : p = q
    · simp [hpq, posP]
    · simp only [hpq, decide_false, posP, if_false]
      rw [find_ents p r (n + 1) (m + 1)]
      cases hp : posP p r (n + 1) with
      | none => rfl
      | some i =>
        have := (posP_ge hp).1
        simp; omega

theorem ents_snoc (p : Pt) : ∀ (ps : List Pt) (n : Nat), ents n (ps ++ [p]) = ents n ps ++ [(.agg (ptC p), .i .i64 ((n + ps.length : Nat) : Int))]
  | [], n => by simp [ents]
  | q :: r, n => by
    simp only [List.cons_append, ents, ents_snoc p r (n + 1)]
    simp; omega

/-- A queue: a slice of parts, taken off ahead. -/
def Que (H : Heap) (v : AVal) (l : List Pt) : Prop :=
  (v = .nsl ∧ l = []) ∨ ∃ q o cs, v = .sl q o l.length none 3 ∧ q < H.nx ∧ H.get q = some (.row cs true) ∧ o + l.length * 3 = cs.length ∧ cs.drop o = (l.map ptC).flatten

theorem Que.sid_lt {H : Heap} {v : AVal} {l : List Pt} (h : Que H v l) {i : Nat} (hi : sid v = some i) : i < H.nx := by
  rcases h with ⟨rfl, _⟩ | ⟨q, o, cs, rfl, hq, _⟩
  · simp [sid] at hi
  · simp [sid] at hi; omega

theorem Que.keep {H H' : Heap} {v : AVal} {l : List Pt} (h : Que H v l) (hn : H.nx ≤ H'.nx) (hk : ∀ i, sid v = some i → H'.get i = H.get i) : Que H' v l := by
  rcases h with ⟨rfl, h⟩ | ⟨q, o, cs, rfl, hq, hg, h1, h2⟩
  · exact .inl ⟨rfl, h⟩
  · exact .inr ⟨q, o, cs, rfl, by omega, by rw [hk q rfl]; exact hg, h1, h2⟩

theorem Que.app {H : Heap} {v : AVal} {l : List Pt} {p : Pt} (h : Que H v l) (hl : l.length < 1000000) :
    ∃ v' H', aApp (H.push (.row (ptC p) true)) 3 24 v (.sl H.nx 0 1 (some 1) 3) = some (v', H') ∧ Que H' v' (l ++ [p]) ∧ H'.nx = H.nx + 2 ∧ sid v' = some (H.nx + 1) ∧ v'.cells? = some [v'] ∧ (∀ i, i < H.nx → sid v ≠ some i → H'.get i = H.get i) := by
  have hx : aNews (H.push (.row (ptC p) true)) (.sl H.nx 0 1 (some 1) 3) 3 = some (ptC p, 1) := news_one (get_push_nx _ _) rfl
  rcases h with ⟨rfl, rfl⟩ | ⟨q, o, cs, rfl, hq, hg, h1, h2⟩
  · refine ⟨.sl (H.nx + 1) 0 1 none 3, (H.push (.row (ptC p) true)).push (.row (ptC p) true), ?_, .inr ⟨H.nx + 1, 0, ptC p, rfl, by simp, get_push_nx _ _, by simp [ptC], by simp⟩, rfl, rfl, rfl, fun i hi _ => ?_⟩
    · simp [aApp, hx]
    · rw [get_push_old (by simp; omega), get_push_old hi]
  · have hg' : (H.push (.row (ptC p) true)).get q = some (.row cs true) := by rw [get_push_old hq]; exact hg
    refine ⟨.sl (H.nx + 1) 0 (l.length + 1) none 3, ((H.push (.row (ptC p) true)).push (.row (cs.drop o ++ ptC p) true)).put q .dead, ?_, .inr ⟨H.nx + 1, 0, cs.drop o ++ ptC p, by simp, by simp, ?_, ?_, ?_⟩, rfl, rfl, rfl, fun i hi hs => ?_⟩
    · simp only [aApp, hx, hg']
      simp [h1]
      omega
    · rw [Heap.get_put, if_neg (by omega)]; exact get_push_nx _ _
    · simp [ptC]; omega
    · rw [List.drop_zero, h2]; simp
    · rw [Heap.get_put, if_neg (fun e => hs (by rw [e]; rfl)), get_push_old (by simp; omega), get_push_old hi]

/-- A head that is not made yet. -/
def hd0 : Hd := ⟨0, [], [], false⟩

/-- A slice lies outside these objects. -/
def Outs (S : List (Option Nat)) (v : AVal) : Prop := sid v = none ∨ sid v ∉ S

/-- .. and below a bound. -/
def Outd (d : Nat) (S : List (Option Nat)) (v : AVal) : Prop := Outs S v ∧ ∀ i, sid v = some i → i < d

/-- A head whose slices lie outside of the maker's own objects. -/
def HdO (H : Heap) (d : Nat) (S : List (Option Nat)) (c : List AVal) (h : Hd) : Prop := ∃ ns ks, c = [.i .i64 h.kind, ns, ks, .b h.opn] ∧ Strs H ns h.names ∧ Ints H ks h.kids ∧ Outd d S ns ∧ Outd d S ks

/-- All but these lies as it did. -/
structure Fr (S : List (Option Nat)) (H H' : Heap) : Prop where
  nx : H.nx ≤ H'.nx
  old : ∀ i, i < H.nx → some i ∉ S → ∀ o, H.get i = some o → H'.get i = some o

theorem Fr.eq {S : List (Option Nat)} {H H' : Heap} (hn : H.nx ≤ H'.nx) (h : ∀ i, i < H.nx → some i ∉ S → H'.get i = H.get i) : Fr S H H' := ⟨hn, fun i hi hs o ho => by rw [h i hi hs]; exact ho⟩

theorem Buf.keepS {H H' : Heap} {es : Nat} {v : AVal} {n : Nat} {cells : List AVal} (h : Buf H es v n cells) (hn : H.nx ≤ H'.nx) (hk : ∀ i, sid v = some i → ∀ o, H.get i = some o → H'.get i = some o) : Buf H' es v n cells := by
  obtain ⟨h1, h2⟩ := h
  rcases h2 with ⟨rfl, rfl⟩ | ⟨i, own, rfl, rfl, hi, hg⟩ | ⟨i, rfl, hi, h0, hg⟩
  · exact ⟨h1, .inl ⟨rfl, rfl⟩⟩
  · exact ⟨h1, .inr (.inl ⟨i, own, rfl, rfl, by omega, hk i rfl _ hg⟩)⟩
  · exact ⟨h1, .inr (.inr ⟨i, rfl, by omega, h0, hk i rfl _ hg⟩)⟩

theorem Que.keepS {H H' : Heap} {v : AVal} {l : List Pt} (h : Que H v l) (hn : H.nx ≤ H'.nx) (hk : ∀ i, sid v = some i → ∀ o, H.get i = some o → H'.get i = some o) : Que H' v l := by
  rcases h with ⟨rfl, h⟩ | ⟨q, o, cs, rfl, hq, hg, h1, h2⟩
  · exact .inl ⟨rfl, h⟩
  · exact .inr ⟨q, o, cs, rfl, by omega, hk q rfl _ hg, h1, h2⟩

theorem Fr.trans {S S' : List (Option Nat)} {A B C : Heap} (h : Fr S A B) (k : Fr S' B C) (hs : ∀ i, i < A.nx → some i ∈ S' → some i ∈ S) : Fr S A C :=
  ⟨Nat.le_trans h.nx k.nx, fun i hi hn o ho => k.old i (Nat.lt_of_lt_of_le hi h.nx) (fun hm => hn (hs i hi hm)) o (h.old i hi hn o ho)⟩

theorem Sl.fr {S : List (Option Nat)} {H H' : Heap} (h : Fr S H H') {es : Nat} {agg : Bool} {v : AVal} {l : List AVal} (hs : Sl H es agg v l) (hi : Outs S v) : Sl H' es agg v l := by
  refine ⟨hs.len, slin_le h.nx hs.ins, fun j x hx => ?_⟩
  have h1 := hs.at' j x hx
  have h2 := hs.ins
  have hlen := hs.len
  cases v <;> simp only [slin] at h2
  · simp at hlen
    have := (List.getElem?_eq_some_iff.1 hx).1
    omega
  · rename_i i o n k e
    have hne : some i ∉ S := by rcases hi with hi | hi; simp [K.sid] at hi; exact hi
    rw [sptr_sl] at h1 ⊢
    unfold aLoad at h1 ⊢
    simp only at h1 ⊢
    cases hg : H.get i with
    | none => rw [hg] at h1; simp at h1
    | some ob => rw [hg] at h1; rw [h.old _ h2.1 hne _ hg]; exact h1

def own4 (pm sm : Nat) (lv fv : AVal) : List (Option Nat) := [some pm, some sm, sid lv, sid fv]

/-- The maker. -/
structure MK (X H : Heap) (d pm sm : Nat) (a b lv fv : AVal) (ps : List Pt) (hs : List Hd) (lf : List Pt) : Prop where
  ex : Ex X H
  dl : X.nx ≤ d ∧ d ≤ H.nx
  pml : X.nx ≤ pm ∧ pm < H.nx
  sml : X.nx ≤ sm ∧ sm < H.nx ∧ sm ≠ pm
  ob : H.get pm = some (.row [a, b, .m sm, lv, fv] true)
  se : H.get sm = some (.map (ents 0 ps))
  ll : ∃ lc : List (List AVal), Buf H 4 lv ps.length lc.flatten ∧ lc.length = ps.length ∧ (∀ c ∈ lc, c.length = 4) ∧ hs.length = ps.length ∧ ∀ (j : Nat) c h, lc[j]? = some c → hs[j]? = some h → HdO H d (own4 pm sm lv fv) c h
  qq : Que H fv lf
  sl : ∀ i, sid lv = some i → X.nx ≤ i ∧ i ≠ pm ∧ i ≠ sm ∧ sid fv ≠ some i
  sf : ∀ i, sid fv = some i → X.nx ≤ i ∧ i ≠ pm ∧ i ≠ sm

def nmI (p : Pt) (ps : List Pt) : Nat := (posP p ps 0).getD ps.length
def nmL {α : Type} (p : Pt) (ps : List Pt) (x : α) (l : List α) : List α := if (posP p ps 0).isSome then l else l ++ [x]

def NumR (X H : Heap) (d pm sm : Nat) (a b lv fv : AVal) (ps : List Pt) (hs : List Hd) (lf : List Pt) (p : Pt) (v : AVal) (H' : Heap) : Prop :=
  v = .i .i64 ((nmI p ps : Nat) : Int) ∧ ∃ lv' fv', MK X H' d pm sm a b lv' fv' (nmL p ps p ps) (nmL p ps hd0 hs) (nmL p ps p lf) ∧ Fr (own4 pm sm lv fv) H H' ∧
    (∀ i, sid lv' = some i → sid lv = some i ∨ H.nx ≤ i) ∧ (∀ i, sid fv' = some i → sid fv = some i ∨ H.nx ≤ i)

/-- The maker in a memory in which only what is not its own may differ. -/
theorem MK.fr {X H H' : Heap} {d pm sm : Nat} {a b lv fv : AVal} {ps : List Pt} {hs : List Hd} {lf : List Pt} {S : List (Option Nat)} (m : MK X H d pm sm a b lv fv ps hs lf) (h : Fr S H H')
    (hS : ∀ i, some i ∈ S → d ≤ i ∧ i ≠ pm ∧ i ≠ sm ∧ sid lv ≠ some i ∧ sid fv ≠ some i) : MK X H' d pm sm a b lv fv ps hs lf := by
  obtain ⟨lc, l1, l2, l3, l4, l5⟩ := m.ll
  have hnx := h.nx
  have hd := m.dl
  have fl : ∀ {v : AVal} {l : List AVal} {es : Nat} {g : Bool}, Sl H es g v l → (∀ i, sid v = some i → i < d) → Sl H' es g v l := fun {v l es g} h1 h2 => h1.fr h (by
    cases hv : sid v with
    | none => exact .inl hv
    | some i => exact .inr fun hm => by rw [hv] at hm; have := (hS i hm).1; have := h2 i hv; omega)
  refine ⟨⟨by have := m.ex.nx; omega, fun i hi o ho => ?_⟩, ⟨hd.1, by omega⟩, ⟨m.pml.1, by have := m.pml.2; omega⟩, ⟨m.sml.1, by have := m.sml.2.1; omega, m.sml.2.2⟩, ?_, ?_, ⟨lc, ?_, l2, l3, l4, fun j c h' hc hh => ?_⟩, ?_, m.sl, m.sf⟩
  · have hi2 : i < H.nx := Nat.lt_of_lt_of_le hi m.ex.nx
    exact h.old i hi2 (fun hm => by have := (hS i hm).1; omega) o (m.ex.get i hi o ho)
  · exact h.old pm m.pml.2 (fun hm => (hS pm hm).2.1 rfl) _ m.ob
  · exact h.old sm m.sml.2.1 (fun hm => (hS sm hm).2.2.1 rfl) _ m.se
  · exact l1.keepS hnx fun i hi => h.old i (l1.sid_lt hi) fun hm => (hS i hm).2.2.2.1 hi
  · obtain ⟨ns, ks, rfl, n1, k1, o1, o2⟩ := l5 j c h' hc hh
    exact ⟨ns, ks, rfl, fl n1 o1.2, fl k1 o2.2, o1, o2⟩
  · exact m.qq.keepS hnx fun i hi => h.old i (m.qq.sid_lt hi) fun hm => (hS i hm).2.2.2.2 hi

theorem MK.more {X H : Heap} {d d' pm sm : Nat} {a b lv fv : AVal} {ps : List Pt} {hs : List Hd} {lf : List Pt} (m : MK X H d pm sm a b lv fv ps hs lf) (h : d ≤ d') (h' : d' ≤ H.nx) : MK X H d' pm sm a b lv fv ps hs lf := by
  obtain ⟨lc, l1, l2, l3, l4, l5⟩ := m.ll
  refine ⟨m.ex, ⟨by have := m.dl.1; omega, h'⟩, m.pml, m.sml, m.ob, m.se, ⟨lc, l1, l2, l3, l4, fun j c hh hc hj => ?_⟩, m.qq, m.sl, m.sf⟩
  obtain ⟨ns, ks, rfl, n1, k1, o1, o2⟩ := l5 j c hh hc hj
  exact ⟨ns, ks, rfl, n1, k1, ⟨o1.1, fun i hi => by have := o1.2 i hi; omega⟩, ⟨o2.1, fun i hi => by have := o2.2 i hi; omega⟩⟩

theorem call29 {X H : Heap} {d pm sm : Nat} {a b lv fv : AVal} {ps : List Pt} {hs : List Hd} {lf : List Pt} {p : Pt} (m : MK X H d pm sm a b lv fv ps hs lf) (hn : ps.length < 900000) (hlf : lf.length ≤ ps.length) (ha : a.cells? = some [a]) (hb : b.cells? = some [b]) :
    Call 29 [.p pm 0, .agg (ptC p)] H (NumR X H d pm sm a b lv fv ps hs lf p) := by
  refine Call.by (a := a29) rfl (by simp [a29]) ?_
  simp [a29, c29, r29_0]
  obtain ⟨H0, hH0⟩ : ∃ P, P = H.push (.row (ptC p) true) := ⟨_, rfl⟩
  have n0 : H0.nx = H.nx + 1 := by rw [hH0]; rfl
  have old0 : ∀ i, i < H.nx → H0.get i = H.get i := fun i hi => by rw [hH0, get_push_old hi]
  have gp : H0.get H.nx = some (.row (ptC p) true) := by rw [hH0]; simp
  obtain ⟨pm1, pm2⟩ := m.pml
  obtain ⟨sm1, sm2, sm3⟩ := m.sml
  have go : H0.get pm = some (.row [a, b, .m sm, lv, fv] true) := by rw [old0 _ pm2]; exact m.ob
  have gs : H0.get sm = some (.map (ents 0 ps)) := by rw [old0 _ sm2]; exact m.se
  rw [← hH0]
  have ldp : aLoad H0 (.p H.nx 0) 3 true = some (.agg (ptC p)) := by
    rw [load_agg (o := 0) (n := 3) gp (by simp [ptC])]; simp [ptC]
  have hfind := find_ents p ps 0 0
  have hkey : aKeyOk .part (.agg (ptC p)) = true := rfl
  have fr0 : Fr (own4 pm sm lv fv) H H0 := Fr.eq (by omega) fun i hi _ => old0 i hi
  cases hpos : posP p ps 0 with
  | some i =>
    rw [hpos] at hfind
    simp only [Option.map_some] at hfind
    have hlook : aLook H0 .part (.i .i64 0) true (.m sm) (.agg (ptC p)) = some (.tup [.i .i64 ((i : Nat) : Int), .b true]) := by
      simp only [aLook, hkey, if_true, gs, hfind]
      rfl
    simp [d29_1, load_row go, ldp, hlook, r29_2, r29_3]
    refine ⟨by simp [nmI, hpos], lv, fv, ?_, fr0, fun i hi => .inl hi, fun i hi => .inl hi⟩
    have e1 : nmL p ps p ps = ps := by simp [nmL, hpos]
    have e2 : nmL p ps hd0 hs = hs := by simp [nmL, hpos]
    have e3 : nmL p ps p lf = lf := by simp [nmL, hpos]
    rw [e1, e2, e3]
    exact m.fr (S := []) (Fr.eq (by omega) fun i hi _ => old0 i hi) (by simp)
  | none =>
    rw [hpos] at hfind
    simp only [Option.map_none] at hfind
    have hlook : aLook H0 .part (.i .i64 0) true (.m sm) (.agg (ptC p)) = some (.tup [.i .i64 0, .b false]) := by
      simp only [aLook, hkey, if_true, gs, hfind]
      rfl
    obtain ⟨lc, l1, l2, l3, l4, l5⟩ := m.ll
    have hents : ents 0 ps ++ [(.agg (ptC p), .i .i64 (ps.length : Int))] = ents 0 (ps ++ [p]) := by rw [ents_snoc]; simp
    have hupd : aUpd H0 .part (.m sm) (.agg (ptC p)) (.i .i64 (ps.length : Int)) = some (H0.put sm (.map (ents 0 (ps ++ [p])))) := by
      simp only [aUpd, gs, hkey, if_true, hfind, hents]
    obtain ⟨H1, hH1⟩ : ∃ P, P = H0.put sm (.map (ents 0 (ps ++ [p]))) := ⟨_, rfl⟩
    have n1 : H1.nx = H.nx + 1 := by rw [hH1, nx_put', n0]
    have old1 : ∀ i, i ≠ sm → H1.get i = H0.get i := fun i hi => by rw [hH1, Heap.get_put, if_neg hi]
    have gs1 : H1.get sm = some (.map (ents 0 (ps ++ [p]))) := by rw [hH1, Heap.get_put, if_pos rfl]
    have go1 : H1.get pm = some (.row [a, b, .m sm, lv, fv] true) := by rw [old1 _ (fun e => sm3 e.symm)]; exact go
    have bl1 : Buf H1 4 lv ps.length lc.flatten := l1.keep (by omega) fun i hi => by
      rw [old1 i (m.sl i hi).2.2.1, old0 i (l1.sid_lt hi)]
    obtain ⟨lv', H2, e1, e2, e3, e4, e5⟩ := bl1.app1 (bytes := 64) (news := [.i .i64 0, .nsl, .nsl, .b false]) rfl (by omega) (by omega)
    have go2 : H2.get pm = some (.row [a, b, .m sm, lv, fv] true) := by
      rw [e5 pm (by omega) fun hs => (m.sl pm hs).2.1 rfl]; exact go1
    have hcl : lv'.cells? = some [lv'] := by rw [e4]; rfl
    have st3 : aStore H2 (.p pm 3) lv' 1 = some (H2.put pm (.row [a, b, .m sm, lv', fv] true)) := by
      simp only [aStore, hcl, go2]
      rfl
    obtain ⟨H3, hH3⟩ : ∃ P, P = H2.put pm (.row [a, b, .m sm, lv', fv] true) := ⟨_, rfl⟩
    have n3 : H3.nx = H.nx + 3 := by rw [hH3, nx_put', e3, n1]
    have go3 : H3.get pm = some (.row [a, b, .m sm, lv', fv] true) := by rw [hH3, Heap.get_put, if_pos rfl]
    have old3 : ∀ i, i ≠ pm → H3.get i = H2.get i := fun i hi => by rw [hH3, Heap.get_put, if_neg hi]
    have fvlt : ∀ i, sid fv = some i → i < H.nx := fun i hi => m.qq.sid_lt hi
    have q3 : Que H3 fv lf := m.qq.keep (by omega) fun i hi => by
      obtain ⟨x1, x2, x3⟩ := m.sf i hi
      have := fvlt i hi
      rw [old3 i x2, e5 i (by omega) fun hs => (m.sl i hs).2.2.2 hi, old1 i x3, old0 i this]
    obtain ⟨fv', H4, f1, f2, f3, f4, f5, f6⟩ := q3.app (p := p) (by omega)
    have go4 : H4.get pm = some (.row [a, b, .m sm, lv', fv] true) := by
      rw [f6 pm (by omega) fun hs => (m.sf pm hs).2.1 rfl]; exact go3
    have st5 : aStore H4 (.p pm 4) fv' 1 = some (H4.put pm (.row [a, b, .m sm, lv', fv'] true)) := by
      simp only [aStore, f5, go4]
      rfl
    obtain ⟨H5, hH5⟩ : ∃ P, P = H4.put pm (.row [a, b, .m sm, lv', fv'] true) := ⟨_, rfl⟩
    have n5 : H5.nx = H.nx + 5 := by rw [hH5, nx_put', f3, n3]
    have old5 : ∀ i, i ≠ pm → H5.get i = H4.get i := fun i hi => by rw [hH5, Heap.get_put, if_neg hi]
    have gp1 : H1.get H.nx = some (.row (ptC p) true) := by rw [old1 _ (by omega)]; exact gp
    have lvlt : ∀ i, sid lv = some i → i < H.nx := fun i hi => l1.sid_lt hi
    have gp3 : H3.get H.nx = some (.row (ptC p) true) := by
      rw [old3 _ (by omega), e5 _ (by omega) fun hs => by have := lvlt _ hs; omega]; exact gp1
    have ldp1 : aLoad H1 (.p H.nx 0) 3 true = some (.agg (ptC p)) := by
      rw [load_agg (o := 0) (n := 3) gp1 (by simp [ptC])]; simp [ptC]
    have ldp3 : aLoad H3 (.p H.nx 0) 3 true = some (.agg (ptC p)) := by
      rw [load_agg (o := 0) (n := 3) gp3 (by simp [ptC])]; simp [ptC]
    have hpl : (ptC p).length = 3 := rfl
    -- everything else
    have old : ∀ i, i < H.nx → some i ∉ own4 pm sm lv fv → H5.get i = H.get i := fun i hi hn => by
      simp only [own4, List.mem_cons, List.mem_nil_iff, or_false, not_or, Option.some.injEq] at hn
      obtain ⟨x1, x2, x3, x4⟩ := hn
      rw [old5 i x1, f6 i (by omega) (fun e => x4 e.symm), old3 i x1, e5 i (by omega) (fun e => x3 e.symm), old1 i x2, old0 i hi]
    have lown : ∀ i, sid lv = some i → some i ∈ own4 pm sm lv fv := fun i hi => by simp [own4, hi]
    have fown : ∀ i, sid fv = some i → some i ∈ own4 pm sm lv fv := fun i hi => by simp [own4, hi]
    have fr5 : Fr (own4 pm sm lv fv) H H5 := Fr.eq (by omega) old
    have hxle := m.ex.nx
    simp [d29_1, load_row go, ldp, hlook, r29_2, r29_4, l1.slen]
    simp [d29_5, load_row go, ldp, hupd]
    rw [← hH1]
    simp [r29_6, load_row go1, aFill, e1, st3]
    rw [← hH3]
    simp [d29_7, load_row go3, ldp3, hpl, f1, st5]
    rw [← hH5]
    refine ⟨StillL.still (by simp [StillL, stR]), ?_⟩
    simp [r29_8]
    refine ⟨by simp [nmI, hpos], lv', fv', ?_, fr5, fun i hi => ?_, fun i hi => ?_⟩
    · have z1 : nmL p ps p ps = ps ++ [p] := by simp [nmL, hpos]
      have z2 : nmL p ps hd0 hs = hs ++ [hd0] := by simp [nmL, hpos]
      have z3 : nmL p ps p lf = lf ++ [p] := by simp [nmL, hpos]
      rw [z1, z2, z3]
      have lvs : sid lv' = some (H.nx + 2) := by rw [e4]; simp [sid, n1]
      have fvs : sid fv' = some (H.nx + 4) := by rw [f4, n3]
      refine ⟨⟨by omega, fun i hi o ho => ?_⟩, ⟨m.dl.1, by have := m.dl.2; omega⟩, ⟨pm1, by omega⟩, ⟨sm1, by omega, sm3⟩, by rw [hH5, Heap.get_put, if_pos rfl], ?_, ⟨lc ++ [[.i .i64 0, .nsl, .nsl, .b false]], ?_, by simp [l2], fun c hc => ?_, by simp [l4], fun j c h hc hh => ?_⟩, ?_, fun i hi => ?_, fun i hi => ?_⟩
      · rw [old i (by omega) ?_]
        · exact m.ex.get i hi o ho
        · simp only [own4, List.mem_cons, List.mem_nil_iff, or_false, not_or, Option.some.injEq]
          refine ⟨by omega, by omega, fun e => ?_, fun e => ?_⟩
          · have := (m.sl i e.symm).1; omega
          · have := (m.sf i e.symm).1; omega
      · rw [old5 sm sm3, f6 sm (by omega) fun hs => (m.sf sm hs).2.2 rfl, old3 sm sm3, e5 sm (by omega) fun hs => (m.sl sm hs).2.2.1 rfl]
        exact gs1
      · have := e2.keep (H' := H5) (by omega) fun i hi => by
          rw [lvs] at hi
          obtain rfl := Option.some.inj hi
          rw [old5 _ (by omega), f6 _ (by omega) fun hs => by have := fvlt _ hs; omega, old3 _ (by omega)]
        simpa using this
      · simp at hc
        rcases hc with hc | rfl
        · exact l3 c hc
        · rfl
      · have hout : ∀ v, (∀ i, sid v = some i → i < H.nx) → Outs (own4 pm sm lv fv) v → Outs (own4 pm sm lv' fv') v := by
          intro v hv ho
          rcases ho with ho | ho
          · exact .inl ho
          · cases hsv : sid v with
            | none => exact .inl hsv
            | some i =>
              have hi := hv i hsv
              refine .inr ?_
              rw [hsv] at ho ⊢
              simp only [own4, lvs, fvs, List.mem_cons, List.mem_nil_iff, or_false, not_or, Option.some.injEq] at ho ⊢
              refine ⟨ho.1, ho.2.1, by omega, by omega⟩
        by_cases hj : j < ps.length
        · rw [List.getElem?_append_left (by omega)] at hc
          rw [List.getElem?_append_left (by omega)] at hh
          obtain ⟨ns, ks, rfl, y1, y2, y3, y4⟩ := l5 j c h hc hh
          have hd := m.dl.2
          exact ⟨ns, ks, rfl, y1.fr fr5 y3.1, y2.fr fr5 y4.1, ⟨hout ns (fun i hi => by have := y3.2 i hi; omega) y3.1, y3.2⟩, ⟨hout ks (fun i hi => by have := y4.2 i hi; omega) y4.1, y4.2⟩⟩
        · have hjl : j = ps.length := by
            have := (List.getElem?_eq_some_iff.1 hh).1
            simp at this; omega
          subst hjl
          rw [List.getElem?_append_right (by omega)] at hc hh
          simp [l2, l4] at hc hh
          subst hc hh
          exact ⟨.nsl, .nsl, rfl, Sl.nil _ _ _, Sl.nil _ _ _, ⟨.inl rfl, by simp [sid]⟩, ⟨.inl rfl, by simp [sid]⟩⟩
      · exact f2.keep (by omega) fun i hi => by
          rw [fvs] at hi
          obtain rfl := Option.some.inj hi
          rw [old5 _ (by omega)]
      · rw [lvs] at hi
        obtain rfl := Option.some.inj hi
        refine ⟨by omega, by omega, by omega, by rw [fvs]; simp⟩
      · rw [fvs] at hi
        obtain rfl := Option.some.inj hi
        exact ⟨by omega, by omega, by omega⟩
    · rw [e4] at hi; simp [sid, n1] at hi; exact .inr (by omega)
    · rw [f4] at hi; simp [n3] at hi; exact .inr (by omega)


def addP (p : Pt) (ps : List Pt) : List Pt := nmL p ps p ps
def addA : List Pt → List Pt → List Pt
  | ps, [] => ps
  | ps, q :: qs => addA (addP q ps) qs
def numA : List Pt → List Pt → List Nat
  | _, [] => []
  | ps, q :: qs => nmI q ps :: numA (addP q ps) qs

theorem addA_snoc : ∀ (qs ps : List Pt) (q : Pt), addA ps (qs ++ [q]) = addP q (addA ps qs)
  | [], ps, q => rfl
  | x :: qs, ps, q => addA_snoc qs (addP x ps) q
theorem numA_snoc : ∀ (qs ps : List Pt) (q : Pt), numA ps (qs ++ [q]) = numA ps qs ++ [nmI q (addA ps qs)]
  | [], ps, q => rfl
  | x :: qs, ps, q => by
    simp only [List.cons_append, numA, addA, numA_snoc qs (addP x ps) q]
theorem numA_length : ∀ (qs ps : List Pt), (numA ps qs).length = qs.length
  | [], _ => rfl
  | x :: qs, ps => by simp [numA, numA_length qs]

theorem addP_eq (p : Pt) (ps : List Pt) : addP p ps = if (posP p ps 0).isSome then ps else ps ++ [p] := rfl
theorem addP_pre (p : Pt) (ps : List Pt) : ps <+: addP p ps := by
  rw [addP_eq]
  split
  · exact List.prefix_refl _
  · exact List.prefix_append _ _
theorem addA_pre : ∀ (qs ps : List Pt), ps <+: addA ps qs
  | [], ps => List.prefix_refl _
  | q :: qs, ps => (addP_pre q ps).trans (addA_pre qs _)
theorem addP_le (p : Pt) (ps : List Pt) : (addP p ps).length ≤ ps.length + 1 := by
  rw [addP_eq]; split <;> simp
theorem addA_le : ∀ (qs ps : List Pt), (addA ps qs).length ≤ ps.length + qs.length
  | [], ps => by simp [addA]
  | q :: qs, ps => by
    have h1 := addA_le qs (addP q ps)
    have h2 := addP_le q ps
    simp only [addA, List.length_cons]; omega

def growH (hs : List Hd) (ps ps' : List Pt) : List Hd := hs ++ List.replicate (ps'.length - ps.length) hd0
def growF (lf ps ps' : List Pt) : List Pt := lf ++ ps'.drop ps.length

theorem growH_self (hs : List Hd) (ps : List Pt) : growH hs ps ps = hs := by simp [growH]
theorem growF_self (lf ps : List Pt) : growF lf ps ps = lf := by simp [growF]

theorem growH_add {hs : List Hd} {ps ps' : List Pt} (h : ps <+: ps') (q : Pt) : nmL q ps' hd0 (growH hs ps ps') = growH hs ps (addP q ps') := by
  have hl := h.length_le
  unfold nmL growH addP
  unfold nmL
  split
  · rfl
  · rw [List.length_append, List.append_assoc]
    congr 1
    rw [← List.replicate_succ']
    congr 1
    simp; omega

theorem growF_add {lf ps ps' : List Pt} (h : ps <+: ps') (q : Pt) : nmL q ps' q (growF lf ps ps') = growF lf ps (addP q ps') := by
  have hl := h.length_le
  unfold nmL growF addP
  unfold nmL
  split
  · rfl
  · rw [List.append_assoc, List.drop_append_of_le_length hl]

/-- Under way: some kids are numbered. -/
structure Wk (X H H' : Heap) (d pm sm : Nat) (a b lv fv lv' fv' : AVal) (ps : List Pt) (hs : List Hd) (lf : List Pt) (qs : List Pt) (po : Nat) (kv : AVal) : Prop where
  mkr : MK X H' d pm sm a b lv' fv' (addA ps qs) (growH hs ps (addA ps qs)) (growF lf ps (addA ps qs))
  fr : Fr (some po :: own4 pm sm lv fv) H H'
  sl : ∀ i, sid lv' = some i → sid lv = some i ∨ H.nx ≤ i
  sf : ∀ i, sid fv' = some i → sid fv = some i ∨ H.nx ≤ i
  kb : Buf H' 1 kv qs.length ((numA ps qs).map fun (n : Nat) => AVal.i .i64 (n : Int))
  ks : ∀ i, sid kv = some i → H.nx ≤ i ∧ sid lv' ≠ some i ∧ sid fv' ≠ some i
  pl : d ≤ po ∧ po < H.nx ∧ po ≠ pm ∧ po ≠ sm ∧ sid lv ≠ some po ∧ sid fv ≠ some po
  hl : MK X H d pm sm a b lv fv ps hs lf

theorem Wk.po_own {X H H' : Heap} {d pm sm : Nat} {a b lv fv lv' fv' : AVal} {ps : List Pt} {hs : List Hd} {lf : List Pt} {qs : List Pt} {po : Nat} {kv : AVal} (w : Wk X H H' d pm sm a b lv fv lv' fv' ps hs lf qs po kv) : some po ∉ own4 pm sm lv' fv' := by
  obtain ⟨p1, p2, p3, p4, p5, p6⟩ := w.pl
  simp only [own4, List.mem_cons, List.mem_nil_iff, or_false, not_or, Option.some.injEq]
  refine ⟨p3, p4, fun e => ?_, fun e => ?_⟩
  · rcases w.sl po e.symm with h | h
    · exact p5 h
    · omega
  · rcases w.sf po e.symm with h | h
    · exact p6 h
    · omega

theorem Wk.lt_own {X H H' : Heap} {d pm sm : Nat} {a b lv fv lv' fv' : AVal} {ps : List Pt} {hs : List Hd} {lf : List Pt} {qs : List Pt} {po : Nat} {kv : AVal} (w : Wk X H H' d pm sm a b lv fv lv' fv' ps hs lf qs po kv) {i : Nat} (hi : i < H.nx) (hm : some i ∈ own4 pm sm lv' fv') : some i ∈ own4 pm sm lv fv := by
  simp only [own4, List.mem_cons, List.mem_nil_iff, or_false, Option.some.injEq] at hm ⊢
  rcases hm with h | h | h | h
  · exact .inl h
  · exact .inr (.inl h)
  · rcases w.sl i h.symm with e | e
    · exact .inr (.inr (.inl e.symm))
    · omega
  · rcases w.sf i h.symm with e | e
    · exact .inr (.inr (.inr e.symm))
    · omega

/-- One kid more. -/
theorem Wk.step {X H H' H'' : Heap} {d pm sm : Nat} {a b lv fv lv' fv' : AVal} {ps : List Pt} {hs : List Hd} {lf : List Pt} {qs : List Pt} {po : Nat} {kv : AVal} {q : Pt} {v k nv o : AVal} (w : Wk X H H' d pm sm a b lv fv lv' fv' ps hs lf qs po kv)
    (hq : NumR X H' d pm sm a b lv' fv' (addA ps qs) (growH hs ps (addA ps qs)) (growF lf ps (addA ps qs)) q v H'') (hrow : H'.get po = some (.row [k, nv, kv, o] true)) (hn : qs.length < 100000) :
    v = .i .i64 ((nmI q (addA ps qs) : Nat) : Int) ∧ H''.get po = some (.row [k, nv, kv, o] true) ∧ H'.nx ≤ H''.nx ∧ ∃ kv' H3, aApp (H''.push (.row [v] true)) 1 8 kv (.sl H''.nx 0 1 (some 1) 1) = some (kv', H3) ∧
      ∃ H4, aStore H3 (.p po 2) kv' 1 = some H4 ∧ H4.get po = some (.row [k, nv, kv', o] true) ∧ Fr (some po :: sid kv :: own4 pm sm lv' fv') H' H4 ∧ (∃ lv'' fv'', Wk X H H4 d pm sm a b lv fv lv'' fv'' ps hs lf (qs ++ [q]) po kv' ∧ (∀ i, sid lv'' = some i → sid lv' = some i ∨ H'.nx ≤ i) ∧ (∀ i, sid fv'' = some i → sid fv' = some i ∨ H'.nx ≤ i) ∧ ∀ i, sid kv' = some i → H'.nx ≤ i) := by
  obtain ⟨rfl, lv'', fv'', m, fr, sl, sf⟩ := hq
  obtain ⟨p1, p2, p3, p4, p5, p6⟩ := w.pl
  have hnx := w.fr.nx
  have hnx2 := fr.nx
  have hpo := w.po_own
  have row2 : H''.get po = some (.row [k, nv, kv, o] true) := fr.old po (by omega) hpo _ hrow
  have kbl : ∀ i, sid kv = some i → i < H'.nx := fun i hi => w.kb.sid_lt hi
  have kown : ∀ i, sid kv = some i → some i ∉ own4 pm sm lv' fv' := fun i hi => by
    obtain ⟨k1, k2, k3⟩ := w.ks i hi
    have h1 := w.hl.pml
    have h2 := w.hl.sml
    simp only [own4, List.mem_cons, List.mem_nil_iff, or_false, not_or, Option.some.injEq]
    exact ⟨by omega, by omega, fun e => k2 e.symm, fun e => k3 e.symm⟩
  have kb2 : Buf H'' 1 kv qs.length ((numA ps qs).map fun (n : Nat) => AVal.i .i64 (n : Int)) := w.kb.keepS hnx2 fun i hi => fr.old i (kbl i hi) (kown i hi)
  obtain ⟨kv', H3, e1, e2, e3, e4, e5⟩ := kb2.app1 (bytes := 8) (news := [.i .i64 ((nmI q (addA ps qs) : Nat) : Int)]) rfl (by omega) (by omega)
  have kpo : sid kv ≠ some po := fun e => by have := (w.ks po e).1; omega
  have row3 : H3.get po = some (.row [k, nv, kv, o] true) := by rw [e5 po (by omega) kpo]; exact row2
  have hcl : kv'.cells? = some [kv'] := by rw [e4]; rfl
  have st : aStore H3 (.p po 2) kv' 1 = some (H3.put po (.row [k, nv, kv', o] true)) := by
    simp only [aStore, hcl, row3]
    rfl
  have kvs : sid kv' = some (H''.nx + 1) := by rw [e4]; rfl
  -- the maker behind
  have fr34 : Fr [some po, sid kv] H'' (H3.put po (.row [k, nv, kv', o] true)) := Fr.eq (by rw [nx_put', e3]; omega) fun i hi hm => by
    simp only [List.mem_cons, List.mem_nil_iff, or_false, not_or, Option.some.injEq] at hm
    rw [Heap.get_put, if_neg hm.1]
    exact e5 i hi fun e => hm.2 e.symm
  have lpo : sid lv'' ≠ some po ∧ sid fv'' ≠ some po := by
    constructor
    · intro e
      rcases sl po e with h | h
      · exact hpo (by simp [own4, h])
      · omega
    · intro e
      rcases sf po e with h | h
      · exact hpo (by simp [own4, h])
      · omega
  have hdl := w.hl.dl
  have m4 := m.fr fr34 (fun i hi => by
    simp only [List.mem_cons, List.mem_nil_iff, or_false, Option.some.injEq] at hi
    rcases hi with rfl | hi
    · exact ⟨p1, p3, p4, lpo.1, lpo.2⟩
    · obtain ⟨k1, k2, k3⟩ := w.ks i hi.symm
      have h1 := w.hl.pml
      have h2 := w.hl.sml
      refine ⟨by omega, by omega, by omega, fun e => ?_, fun e => ?_⟩
      · rcases sl i e with h | h
        · exact k2 h
        · have := kbl i hi.symm; omega
      · rcases sf i e with h | h
        · exact k3 h
        · have := kbl i hi.symm; omega)
  refine ⟨rfl, row2, hnx2, kv', H3, e1, _, st, by rw [Heap.get_put, if_pos rfl], ⟨by rw [nx_put', e3]; omega, fun i hi hm ob hob => ?_⟩, lv'', fv'', ⟨?_, ⟨by rw [nx_put', e3]; omega, fun i hi hm ob hob => ?_⟩, fun i hi => ?_, fun i hi => ?_, ?_, fun i hi => ?_, w.pl, w.hl⟩, sl, sf, fun i hi => ?_⟩
  · simp only [List.mem_cons, not_or, Option.some.injEq] at hm
    exact fr34.old i (by omega) (by simp; exact ⟨hm.1, hm.2.1⟩) ob (fr.old i hi (by simpa [own4] using hm.2.2) ob hob)
  · rw [addA_snoc, ← growH_add (addA_pre qs ps), ← growF_add (addA_pre qs ps)]
    exact m4
  · refine fr34.old i (by omega) ?_ ob (fr.old i (by omega) ?_ ob (w.fr.old i hi hm ob hob))
    rotate_left
    · exact fun h => hm (List.mem_cons_of_mem _ (w.lt_own hi h))
    · simp only [List.mem_cons, List.mem_nil_iff, or_false, not_or, Option.some.injEq] at hm ⊢
      refine ⟨hm.1, fun e => ?_⟩
      have := (w.ks i e.symm).1; omega
  · rcases sl i hi with h | h
    · exact w.sl i h
    · exact .inr (by omega)
  · rcases sf i hi with h | h
    · exact w.sf i h
    · exact .inr (by omega)
  · rw [numA_snoc, List.map_append, List.length_append]
    exact e2.keep (by rw [nx_put']; exact Nat.le_refl _) fun i hi => by
      rw [kvs] at hi
      obtain rfl := Option.some.inj hi
      rw [Heap.get_put, if_neg (by omega)]
  · rw [kvs] at hi
    obtain rfl := Option.some.inj hi
    refine ⟨by omega, fun e => ?_, fun e => ?_⟩
    · obtain ⟨lc, l1, _⟩ := m.ll
      have := l1.sid_lt e; omega
    · have := m.qq.sid_lt e; omega
  · rw [kvs] at hi
    obtain rfl := Option.some.inj hi
    omega


structure Shape where
  kind : Int
  names : List (List Nat)
  opn : Bool
  kids : List Pt

/-- The head of a shape. -/
def shH (ps : List Pt) (s : Shape) : Hd := ⟨s.kind, s.names, (numA ps s.kids).map fun (n : Nat) => (n : Int), s.opn⟩

/-- A slice of the result's: new, none of the maker's. -/
def NewS (H H' : Heap) (S : List (Option Nat)) (v : AVal) : Prop := ∀ i, sid v = some i → H.nx ≤ i ∧ i < H'.nx ∧ some i ∉ S

structure HRs (X H : Heap) (d pm sm : Nat) (a b lv fv : AVal) (ps : List Pt) (hs : List Hd) (lf : List Pt) (s : Shape) (ns ks lv' fv' : AVal) (H' : Heap) : Prop where
  mk' : MK X H' d pm sm a b lv' fv' (addA ps s.kids) (growH hs ps (addA ps s.kids)) (growF lf ps (addA ps s.kids))
  hn : Strs H' ns s.names
  hk : Ints H' ks (shH ps s).kids
  nn : NewS H H' (own4 pm sm lv' fv') ns
  nk : NewS H H' (own4 pm sm lv' fv') ks
  fr : Fr (own4 pm sm lv fv) H H'
  sl : ∀ i, sid lv' = some i → sid lv = some i ∨ H.nx ≤ i
  sf : ∀ i, sid fv' = some i → sid fv = some i ∨ H.nx ≤ i

/-- What a head's making comes to. -/
def HR (X H : Heap) (d pm sm : Nat) (a b lv fv : AVal) (ps : List Pt) (hs : List Hd) (lf : List Pt) (s : Shape) (v : AVal) (H' : Heap) : Prop :=
  ∃ ns ks lv' fv', v = .agg [.i .i64 s.kind, ns, ks, .b s.opn] ∧ HRs X H d pm sm a b lv fv ps hs lf s ns ks lv' fv' H'

theorem HRs.outs {H H' : Heap} {S : List (Option Nat)} {v : AVal} (h : NewS H H' S v) {r : Nat} (hr : r < H.nx) : Outs [some r] v := by
  cases hs : sid v with
  | none => exact .inl hs
  | some i =>
    refine .inr ?_
    have := (h i hs).1
    rw [hs]; simp; omega

/-- .. from a memory before, with a local object written last. -/
theorem HR.lift {X H0 H H' : Heap} {d pm sm : Nat} {a b lv fv : AVal} {ps : List Pt} {hs : List Hd} {lf : List Pt} {s : Shape} {v : AVal} {r : Nat} {ob : AObj} (h : HR X H d pm sm a b lv fv ps hs lf s v H') (f : Fr [] H0 H) (m : MK X H0 d pm sm a b lv fv ps hs lf) (hr : H0.nx ≤ r ∧ r < H.nx) :
    HR X H0 d pm sm a b lv fv ps hs lf s v (H'.put r ob) := by
  obtain ⟨ns, ks, lv', fv', rfl, k⟩ := h
  obtain ⟨lc, l1, _⟩ := m.ll
  have lvlt : ∀ i, sid lv = some i → i < H0.nx := fun i hi => l1.sid_lt hi
  have fvlt : ∀ i, sid fv = some i → i < H0.nx := fun i hi => m.qq.sid_lt hi
  have nx1 := f.nx
  have nx2 := k.fr.nx
  have hdl := m.dl
  have pm2 := m.pml.2
  have sm2 := m.sml.2.1
  have frr : Fr [some r] H' (H'.put r ob) := ⟨by simp, fun i hi hm o ho => by
    simp at hm
    rw [Heap.get_put, if_neg hm]; exact ho⟩
  have hrl : sid lv' ≠ some r := fun e => by
    rcases k.sl r e with h | h
    · have := lvlt r h; omega
    · omega
  have hrf : sid fv' ≠ some r := fun e => by
    rcases k.sf r e with h | h
    · have := fvlt r h; omega
    · omega
  refine ⟨ns, ks, lv', fv', rfl, k.mk'.fr frr fun i hi => ?_, k.hn.fr frr (HRs.outs k.nn hr.2), k.hk.fr frr (HRs.outs k.nk hr.2), fun i hi => ?_, fun i hi => ?_, ⟨by simp; omega, fun i hi hm o ho => ?_⟩, fun i hi => ?_, fun i hi => ?_⟩
  · simp at hi
    subst hi
    exact ⟨by omega, by omega, by omega, hrl, hrf⟩
  · obtain ⟨x1, x2, x3⟩ := k.nn i hi
    exact ⟨by omega, x2, x3⟩
  · obtain ⟨x1, x2, x3⟩ := k.nk i hi
    exact ⟨by omega, x2, x3⟩
  · rw [Heap.get_put, if_neg (by omega)]
    exact k.fr.old i (by omega) hm o (f.old i hi (by simp) o ho)
  · rcases k.sl i hi with h | h
    · exact .inl h
    · exact .inr (by omega)
  · rcases k.sf i hi with h | h
    · exact .inl h
    · exact .inr (by omega)

def sideK (p : Pt) (h : Hd) : List Pt := h.kids.mapIdx fun i k => if p.b < 0 then ⟨k, -1, p.join != (h.kind == 7 && i == 0)⟩ else ⟨-1, k, p.join != (h.kind == 7 && i == 0)⟩
def sideS (p : Pt) (h : Hd) : Shape := ⟨h.kind, h.names, h.opn, sideK p h⟩

theorem sideK_at {p : Pt} {h : Hd} {j : Nat} {k : Int} (hk : h.kids[j]? = some k) : (sideK p h)[j]? = some (if p.b < 0 then ⟨k, -1, p.join != (h.kind == 7 && j == 0)⟩ else ⟨-1, k, p.join != (h.kind == 7 && j == 0)⟩) := by
  simp [sideK, hk]
theorem sideK_len (p : Pt) (h : Hd) : (sideK p h).length = h.kids.length := by simp [sideK]

theorem reg45_9 {H : Heap} {T : Tm} {Q : Post} {q3 q5 : Nat} {p : Pt} {h : Hd} {ns ks : AVal} {i : Nat} {o1 o2 : Bool} (h3 : T.get 3 = some (.p q3 0)) (h5 : T.get 5 = some (.p q5 0)) (h7 : T.get 7 = some (.i .i64 (i : Int))) (g3 : H.get q3 = some (.row (ptC p) o1)) (g5 : H.get q5 = some (.row [.i .i64 h.kind, ns, ks, .b h.opn] o2))
    (hQ : ∀ T', Keep [0, 3, 4, 5, 6, 8, 38, 39, 40] T T' → T'.get 9 = some (.b (p.join != (h.kind == 7 && i == 0))) → Q .normal T' H) : runO r45_9 T H Q := by
  have l2 : aLoad H (.p q3 2) 1 false = some (.b p.join) := by rw [load_row g3]; rfl
  have l0 : aLoad H (.p q5 0) 1 false = some (.i .i64 h.kind) := by rw [load_row g5]; rfl
  have hi : ((i : Int) == 0) = (i == 0) := by rw [Bool.eq_iff_iff]; simp
  cases b1 : h.kind == 7 with
  | true =>
    cases b2 : (i == 0) with
    | true =>
      rw [b2] at hi
      simp [r45_9, h3, h5, h7, l2, l0, b1, hi, aEq]
      apply hQ
      · simp [Keep]
      · simp [b1, b2]
    | false =>
      rw [b2] at hi
      simp [r45_9, h3, h5, h7, l2, l0, b1, hi, aEq]
      apply hQ
      · simp [Keep]
      · simp [b1, b2]
  | false =>
    simp [r45_9, h3, h5, h7, l2, l0, b1, aEq]
    apply hQ
    · simp [Keep]
    · simp [b1]

theorem d45_k {X H H' : Heap} {T : Tm} {Q : Post} {d pm sm : Nat} {a b lv fv lv' fv' : AVal} {ps : List Pt} {hs : List Hd} {lf : List Pt} {qs : List Pt} {po : Nat} {kv nv kd o : AVal} {k : Int} {jn left : Bool} (w : Wk X H H' d pm sm a b lv fv lv' fv' ps hs lf qs po kv) (hrow : H'.get po = some (.row [kd, nv, kv, o] true)) (hn : qs.length < 100000) (hpn : ps.length < 700000) (hlf : lf.length ≤ ps.length) (ha : a.cells? = some [a]) (hb : b.cells? = some [b])
    (h0 : T.get 0 = some (.p pm 0)) (h6 : T.get 6 = some (.p po 0)) (h8 : T.get 8 = some (.i .i64 k)) (h9 : T.get 9 = some (.b jn))
    (hQ : ∀ T' H4 lv'' fv'' kv', Keep [0, 3, 4, 5, 6, 38, 39, 40] T T' → H4.get po = some (.row [kd, nv, kv', o] true) → Wk X H H4 d pm sm a b lv fv lv'' fv'' ps hs lf (qs ++ [if left then ⟨k, -1, jn⟩ else ⟨-1, k, jn⟩]) po kv' → Q .normal T' H4) :
    runQ (if left then d45_11 else d45_12) [] [] T H' Q := by
  have hal := addA_le qs ps
  have hpre := (addA_pre qs ps).length_le
  have l2 : aLoad H' (.p po 2) 1 false = some kv := by rw [load_row hrow]; rfl
  have lfl : (growF lf ps (addA ps qs)).length ≤ (addA ps qs).length := by simp [growF]; omega
  cases left with
  | true =>
    have hpt : AVal.agg [.i .i64 k, .i .i64 (-1), .b jn] = .agg (ptC ⟨k, -1, jn⟩) := rfl
    simp [d45_11, h0, h6, h8, h9, l2, aFill, splice]
    rw [hpt]
    refine Call.mono (call29 (p := ⟨k, -1, jn⟩) w.mkr (by omega) lfl ha hb) ?_
    rintro v H2 _ hnum
    obtain ⟨e1, e2, _, kv', H3, e3, H4, e4, e5, _, lv'', fv'', e6, _⟩ := w.step hnum hrow hn
    have l22 : aLoad H2 (.p po 2) 1 false = some kv := by rw [load_row e2]; rfl
    simp only [qC]
    refine ⟨by simp, StillL.still (by simp [StillL, stR, h0, h6, l2, l22]), ?_⟩
    rw [e1] at e3
    simp [e1, h6, e3, e4]
    refine hQ _ H4 lv'' fv'' kv' ?_ e5 e6
    simp [Keep, h0, h6]
  | false =>
    have hpt : AVal.agg [.i .i64 (-1), .i .i64 k, .b jn] = .agg (ptC ⟨-1, k, jn⟩) := rfl
    simp [d45_12, h0, h6, h8, h9, l2, aFill, splice]
    rw [hpt]
    refine Call.mono (call29 (p := ⟨-1, k, jn⟩) w.mkr (by omega) lfl ha hb) ?_
    rintro v H2 _ hnum
    obtain ⟨e1, e2, _, kv', H3, e3, H4, e4, e5, _, lv'', fv'', e6, _⟩ := w.step hnum hrow hn
    have l22 : aLoad H2 (.p po 2) 1 false = some kv := by rw [load_row e2]; rfl
    simp only [qC]
    refine ⟨by simp, StillL.still (by simp [StillL, stR, h0, h6, l2, l22]), ?_⟩
    rw [e1] at e3
    simp [e1, h6, e3, e4]
    refine hQ _ H4 lv'' fv'' kv' ?_ e5 e6
    simp [Keep, h0, h6]

/-- What a call of the maker's needs. -/
structure Mq (X : Heap) (a b : AVal) (A B : List Hd) : Prop where
  hA : Hds X a A
  hB : Hds X b B
  oA : ∀ (i : Nat) h, A[i]? = some h → HOk A.length h ∧ h.names.length < 60000 ∧ h.kids.length < 60000
  oB : ∀ (i : Nat) h, B[i]? = some h → HOk B.length h ∧ h.names.length < 60000 ∧ h.kids.length < 60000

theorem lp45_0 {X H : Heap} {T : Tm} {Q : Post} {d pm sm : Nat} {a b lv fv : AVal} {ps : List Pt} {hs : List Hd} {lf : List Pt} {po q3 q5 : Nat} {nv ns ks kd o : AVal} {p : Pt} {h : Hd} (m : MK X H d pm sm a b lv fv ps hs lf) (hrow : H.get po = some (.row [kd, nv, .nsl, o] true)) (hpl : d ≤ po ∧ po < H.nx ∧ po ≠ pm ∧ po ≠ sm ∧ sid lv ≠ some po ∧ sid fv ≠ some po)
    (hk : Ints X ks h.kids) (hn : h.kids.length < 60000) (hpn : ps.length < 700000) (hlf : lf.length ≤ ps.length) (ha : a.cells? = some [a]) (hb : b.cells? = some [b])
    (g3 : H.get q3 = some (.row (ptC p) true)) (g5 : H.get q5 = some (.row [.i .i64 h.kind, ns, ks, .b h.opn] true)) (l3 : q3 < H.nx ∧ some q3 ∉ (some po :: own4 pm sm lv fv)) (l5 : q5 < H.nx ∧ some q5 ∉ (some po :: own4 pm sm lv fv))
    (h0 : T.get 0 = some (.p pm 0)) (h3 : T.get 3 = some (.p q3 0)) (h5 : T.get 5 = some (.p q5 0)) (h6 : T.get 6 = some (.p po 0)) (h38 : T.get 38 = some ks) (h39 : T.get 39 = some (.i .i64 (h.kids.length : Int))) (h40 : T.get 40 = some (.i .i64 0))
    (hQ : ∀ T' H' lv' fv' kv, Keep [4, 6] T T' → H'.get po = some (.row [kd, nv, kv, o] true) → Wk X H H' d pm sm a b lv fv lv' fv' ps hs lf (sideK p h) po kv → Q (.exit 0) T' H') : Loop l45_0 T H Q := by
  refine Loop.by (fun r T' H' => Keep [0, 3, 4, 5, 6, 38, 39] T T' ∧ ∃ j : Nat, j + r = h.kids.length ∧ T'.get 40 = some (.i .i64 (j : Int)) ∧ ∃ lv' fv' kv, H'.get po = some (.row [kd, nv, kv, o] true) ∧ Wk X H H' d pm sm a b lv fv lv' fv' ps hs lf ((sideK p h).take j) po kv) h.kids.length ?_ ?_
  · refine ⟨fun t _ => rfl, 0, by simp, h40, lv, fv, .nsl, hrow, ?_⟩
    refine ⟨?_, ⟨Nat.le_refl _, fun _ _ _ _ h => h⟩, fun i hi => .inl hi, fun i hi => .inl hi, by simpa [numA] using Buf.nil _ _, by simp [sid], hpl, m⟩
    simp only [List.take_zero, addA, growH_self, growF_self]
    exact m
  · rintro r T1 H1 ⟨hkp, j, hjr, g40, lv', fv', kv, row, w⟩
    have k0 := (hkp 0 (by simp)).trans h0
    have k3 := (hkp 3 (by simp)).trans h3
    have k4 := hkp 4 (by simp)
    have k5 := (hkp 5 (by simp)).trans h5
    have k6 := (hkp 6 (by simp)).trans h6
    have k38 := (hkp 38 (by simp)).trans h38
    have k39 := (hkp 39 (by simp)).trans h39
    have g31 : H1.get q3 = some (.row (ptC p) true) := w.fr.old q3 l3.1 l3.2 _ g3
    have g51 : H1.get q5 = some (.row [.i .i64 h.kind, ns, ks, .b h.opn] true) := w.fr.old q5 l5.1 l5.2 _ g5
    by_cases hj : j < h.kids.length
    · obtain ⟨k, hkj⟩ : ∃ y, h.kids[j]? = some y := ⟨_, List.getElem?_eq_getElem hj⟩
      have hlt : (j : Int) < (h.kids.length : Int) := by omega
      have hks := hk.ex w.mkr.ex
      simp [l45_0, r45_7, r45_8, k38, k39, g40, hlt, sidx_at hk.len' hj, hks.get hkj]
      refine reg45_9 (i := j) (p := p) (h := h) (by simp [k3]) (by simp [k5]) (by simp) g31 g51 fun T2 hk2 h9 => ?_
      have m0 := hk2 0 (by simp)
      have m3 := hk2 3 (by simp)
      have m4 := hk2 4 (by simp)
      have m5 := hk2 5 (by simp)
      have m6 := hk2 6 (by simp)
      have m8 := hk2 8 (by simp)
      have m38 := hk2 38 (by simp)
      have m39 := hk2 39 (by simp)
      have m40 := hk2 40 (by simp)
      simp [k0, k3, k5, k6, k38, k39, g40] at m0 m3 m4 m5 m6 m8 m38 m39 m40
      have lb : aLoad H1 (.p q3 1) 1 false = some (.i .i64 p.b) := by rw [load_row g31]; rfl
      have htk : (sideK p h).take (j + 1) = (sideK p h).take j ++ [if p.b < 0 then ⟨k, -1, p.join != (h.kind == 7 && j == 0)⟩ else ⟨-1, k, p.join != (h.kind == 7 && j == 0)⟩] := by
        rw [List.take_add_one, sideK_at hkj]; rfl
      have htl : ((sideK p h).take j).length < 100000 := by simp [sideK_len]; omega
      have fin : ∀ (T3 : Tm) (H4 : Heap) (lv'' fv'' kv' : AVal), Keep [0, 3, 4, 5, 6, 38, 39, 40] T2 T3 → H4.get po = some (.row [kd, nv, kv', o] true) → Wk X H H4 d pm sm a b lv fv lv'' fv'' ps hs lf ((sideK p h).take (j + 1)) po kv' →
          run (.mask [0, 3, 4, 5, 6, 38, 39, 40] (.region r45_13)) T3 H4 (lpK (fun r T' H' => Keep [0, 3, 4, 5, 6, 38, 39] T T' ∧ ∃ j : Nat, j + r = h.kids.length ∧ T'.get 40 = some (.i .i64 (j : Int)) ∧ ∃ lv' fv' kv, H'.get po = some (.row [kd, nv, kv, o] true) ∧ Wk X H H' d pm sm a b lv fv lv' fv' ps hs lf ((sideK p h).take j) po kv) r Q) := by
        intro T3 H4 lv'' fv'' kv' hk3 row' w'
        have n0 := (hk3 0 (by simp)).trans m0
        have n3 := (hk3 3 (by simp)).trans m3
        have n4 := (hk3 4 (by simp)).trans m4
        have n5 := (hk3 5 (by simp)).trans m5
        have n6 := (hk3 6 (by simp)).trans m6
        have n38 := (hk3 38 (by simp)).trans m38
        have n39 := (hk3 39 (by simp)).trans m39
        have n40 := (hk3 40 (by simp)).trans m40
        rw [run_mask, run_region]
        simp only [r45_13, runO_pure, p_bin, p_mov', ev_t, ev_c, n40, Option.bind_some, b_inc (show j < 4611686018427387904 by omega), kV_some, putO_some, Tr.get_put, if_true, runO_nil, lpK_normal]
        refine ⟨r - 1, by omega, fun t ht => ?_, j + 1, by omega, by simp, lv'', fv'', kv', row', w'⟩
        simp at ht
        rcases ht with rfl | rfl | rfl | rfl | rfl | rfl | rfl <;> simp [n0, n3, n4, n5, n6, n38, n39, k4, h0, h3, h5, h6, h38, h39]
      by_cases hpb : p.b < 0
      · rw [if_pos hpb] at htk
        simp [r45_10, m3, lb, hpb]
        refine d45_k (left := true) (k := k) (jn := p.join != (h.kind == 7 && j == 0)) w row htl hpn hlf ha hb (by simp [m0]) (by simp [m6]) (by simp [m8]) (by simpa using h9) fun T3 H4 lv'' fv'' kv' hk3 row' w' => ?_
        rw [if_pos rfl, ← htk] at w'
        simp only [blkK_normal, seqK_normal]
        refine fin T3 H4 lv'' fv'' kv' (fun t ht => ?_) row' w'
        have := hk3 t ht
        simp at ht
        rcases ht with rfl | rfl | rfl | rfl | rfl | rfl | rfl | rfl <;> simpa using this
      · rw [if_neg hpb] at htk
        simp [r45_10, m3, lb, hpb]
        refine d45_k (left := false) (k := k) (jn := p.join != (h.kind == 7 && j == 0)) w row htl hpn hlf ha hb (by simp [m0]) (by simp [m6]) (by simp [m8]) (by simpa using h9) fun T3 H4 lv'' fv'' kv' hk3 row' w' => ?_
        rw [if_neg (by simp), ← htk] at w'
        simp only [blkK_normal, seqK_normal]
        refine fin T3 H4 lv'' fv'' kv' (fun t ht => ?_) row' w'
        have := hk3 t ht
        simp at ht
        rcases ht with rfl | rfl | rfl | rfl | rfl | rfl | rfl | rfl <;> simpa using this
    · have hlt : ¬ (j : Int) < (h.kids.length : Int) := by omega
      simp [l45_0, r45_7, k38, k39, g40, hlt]
      rw [List.take_of_length_le (by rw [sideK_len]; omega)] at w
      refine hQ _ _ lv' fv' kv (fun t ht => ?_) row w
      simp at ht
      rcases ht with rfl | rfl <;> simp [k4, k6, h6]

theorem Hds.headX {X H : Heap} {v : AVal} {l : List Hd} (h : Hds X v l) (he : Ex X H) {j : Nat} {hd : Hd} (hj : l[j]? = some hd) : ∃ ns ks, aLoad H (sptr 4 v j) 4 true = some (.agg [.i .i64 hd.kind, ns, ks, .b hd.opn]) ∧ Strs X ns hd.names ∧ Ints X ks hd.kids := by
  obtain ⟨ns, ks, h1, h2, h3⟩ := h.head hj
  refine ⟨ns, ks, ?_, h2, h3⟩
  have h4 := h.ins
  have hlen := h.len
  cases v <;> simp only [slin] at h4
  · simp at hlen
    have := (List.getElem?_eq_some_iff.1 hj).1
    omega
  · exact load_ex he h4.1 h1

theorem HR.of {X H H5 H6 : Heap} {d pm sm : Nat} {a b lv fv lv' fv' : AVal} {ps : List Pt} {hs : List Hd} {lf : List Pt} {po r : Nat} {v kv : AVal} {s : Shape} {ob : AObj} (m : MK X H d pm sm a b lv fv ps hs lf) (fr5 : Fr [] H H5) (w : Wk X H5 H6 d pm sm a b lv fv lv' fv' ps hs lf s.kids po kv)
    (hv : Strs H6 v s.names) (hvs : ∀ i, sid v = some i → H.nx ≤ i ∧ some i ∉ own4 pm sm lv' fv') (hr : H.nx ≤ r ∧ r < H5.nx ∧ sid v ≠ some r) (hpo : H.nx ≤ po) :
    HR X H d pm sm a b lv fv ps hs lf s (.agg [.i .i64 s.kind, v, kv, .b s.opn]) (H6.put r ob) := by
  obtain ⟨lc, l1, _⟩ := m.ll
  have lvlt : ∀ i, sid lv = some i → i < H.nx := fun i hi => l1.sid_lt hi
  have fvlt : ∀ i, sid fv = some i → i < H.nx := fun i hi => m.qq.sid_lt hi
  have n5 := fr5.nx
  have n6 := w.fr.nx
  have hdl := m.dl
  have pm2 := m.pml.2
  have sm2 := m.sml.2.1
  have frr : Fr [some r] H6 (H6.put r ob) := ⟨by simp, fun i hi hm o ho => by
    simp at hm
    rw [Heap.get_put, if_neg hm]; exact ho⟩
  have hrl : sid lv' ≠ some r := fun e => by
    rcases w.sl r e with h | h
    · have := lvlt r h; omega
    · omega
  have hrf : sid fv' ≠ some r := fun e => by
    rcases w.sf r e with h | h
    · have := fvlt r h; omega
    · omega
  refine ⟨v, kv, lv', fv', rfl, w.mkr.fr frr fun i hi => ?_, ?_, ?_, fun i hi => ?_, fun i hi => ?_, ⟨by simp; omega, fun i hi hm o ho => ?_⟩, fun i hi => ?_, fun i hi => ?_⟩
  · simp at hi
    subst hi
    exact ⟨by omega, by omega, by omega, hrl, hrf⟩
  · refine hv.fr frr ?_
    cases hsv : sid v with
    | none => exact .inl hsv
    | some i => exact .inr (by rw [hsv]; have := hr.2.2; rw [hsv] at this; simpa using this)
  · have hb := (w.kb.keepS (H' := H6.put r ob) (by simp) fun i hi o ho => by
      rw [Heap.get_put, if_neg]
      · exact ho
      · rintro rfl
        have := (w.ks i hi).1; omega).sl1
    have he : (shH ps s).kids.map (AVal.i .i64) = (numA ps s.kids).map fun (n : Nat) => AVal.i .i64 (n : Int) := by
      simp [shH]
    unfold Ints
    rw [he]; exact hb
  · obtain ⟨x1, x2⟩ := hvs i hi
    refine ⟨x1, ?_, x2⟩
    have h2 := hv.ins
    cases v <;> simp only [slin] at h2 <;> simp [K.sid] at hi
    subst hi
    exact h2.1
  · obtain ⟨k1, k2, k3⟩ := w.ks i hi
    have := w.kb.sid_lt hi
    refine ⟨by omega, by simpa using this, ?_⟩
    simp only [own4, List.mem_cons, List.mem_nil_iff, or_false, not_or, Option.some.injEq]
    exact ⟨by omega, by omega, fun e => k2 e.symm, fun e => k3 e.symm⟩
  · rw [Heap.get_put, if_neg (by omega)]
    refine w.fr.old i (by omega) ?_ o (fr5.old i hi (by simp) o ho)
    simp only [List.mem_cons, not_or, Option.some.injEq]
    exact ⟨by omega, by simpa [own4] using hm⟩
  · rcases w.sl i hi with h | h
    · exact .inl h
    · exact .inr (by omega)
  · rcases w.sf i hi with h | h
    · exact .inl h
    · exact .inr (by omega)

theorem call45 {X H : Heap} {d pm sm : Nat} {a b lv fv : AVal} {ps : List Pt} {hs : List Hd} {lf : List Pt} {A B : List Hd} {p : Pt} {h : Hd} (m : MK X H d pm sm a b lv fv ps hs lf) (hA : Hds X a A) (hB : Hds X b B)
    (hp : (p.b < 0 ∧ ∃ i : Nat, p.a = (i : Int) ∧ A[i]? = some h) ∨ (¬ p.b < 0 ∧ ∃ i : Nat, p.b = (i : Int) ∧ B[i]? = some h)) (hn : h.kids.length < 60000) (hnn : h.names.length < 60000) (hpn : ps.length < 700000) (hlf : lf.length ≤ ps.length) :
    Call 45 [.p pm 0, .agg (ptC p)] H (HR X H d pm sm a b lv fv ps hs lf (sideS p h)) := by
  have hca := hA.cells
  have hcb := hB.cells
  obtain ⟨pm1, pm2⟩ := m.pml
  obtain ⟨sm1, sm2, sm3⟩ := m.sml
  obtain ⟨lc, l1, _⟩ := m.ll
  have lvlt : ∀ i, sid lv = some i → i < H.nx := fun i hi => l1.sid_lt hi
  have fvlt : ∀ i, sid fv = some i → i < H.nx := fun i hi => m.qq.sid_lt hi
  have hxl := m.ex.nx
  have hdl := m.dl
  refine Call.by (a := a45) rfl (by simp [a45]) ?_
  simp [a45, c45, r45_0, r45_1]
  obtain ⟨H1, hH1⟩ : ∃ P, P = ((H.push (.row (ptC p) true)).push (.row [.i .i64 0, .nsl, .nsl, .b false] true)).push (.row [.i .i64 0, .nsl, .nsl, .b false] true) := ⟨_, rfl⟩
  have n1 : H1.nx = H.nx + 3 := by rw [hH1]; rfl
  have old1 : ∀ i, i < H.nx → H1.get i = H.get i := fun i hi => by rw [hH1, get_push_old (by simp; omega), get_push_old (by simp; omega), get_push_old hi]
  have g3 : H1.get H.nx = some (.row (ptC p) true) := by rw [hH1, get_push_old (by simp; omega), get_push_old (by simp)]; simp
  have g4 : H1.get (H.nx + 1) = some (.row [.i .i64 0, .nsl, .nsl, .b false] true) := by rw [hH1, get_push_old (by simp)]; exact get_push_nx _ _
  have g5 : H1.get (H.nx + 2) = some (.row [.i .i64 0, .nsl, .nsl, .b false] true) := by rw [hH1]; exact get_push_nx _ _
  have ex1 : Ex X H1 := m.ex.trans ⟨by omega, fun i hi o ho => by rw [old1 i hi]; exact ho⟩
  have go1 : H1.get pm = some (.row [a, b, .m sm, lv, fv] true) := by rw [old1 _ pm2]; exact m.ob
  rw [← hH1]
  have lpa : aLoad H1 (.p H.nx 0) 1 false = some (.i .i64 p.a) := by rw [load_row g3]; rfl
  have lpb : aLoad H1 (.p H.nx 1) 1 false = some (.i .i64 p.b) := by rw [load_row g3]; rfl
  have main : ∀ (T : Tm) (ns ks : AVal), T.get 0 = some (.p pm 0) → T.get 3 = some (.p H.nx 0) → T.get 4 = some (.p (H.nx + 1) 0) → T.get 5 = some (.p (H.nx + 2) 0) → Strs X ns h.names → Ints X ks h.kids →
      runQ d45_5 [] [] T (H1.put (H.nx + 2) (.row [.i .i64 h.kind, ns, ks, .b h.opn] true)) (seqK (run (.mask [0, 3, 4, 5, 6] (.seq (.seq (.region r45_6) (.mask [0, 3, 4, 5, 6, 38, 39, 40] (.block 0 (.loop l45_0)))) (.mask [4, 6] (.seq (.region r45_14) .ret)))))
        (retK [.cell 4 4 true] (HR X H d pm sm a b lv fv ps hs lf (sideS p h)))) := by
    intro T ns ks t0 t3 t4 t5 hns hks
    obtain ⟨H2, hH2⟩ : ∃ P, P = (H1.put (H.nx + 2) (.row [.i .i64 h.kind, ns, ks, .b h.opn] true)).push (.row [.i .i64 0, .nsl, .nsl, .b false] true) := ⟨_, rfl⟩
    have n2 : H2.nx = H.nx + 4 := by rw [hH2]; simp; omega
    have old2 : ∀ i, i < H.nx + 2 → H2.get i = H1.get i := fun i hi => by rw [hH2, get_push_old (by simp; omega), Heap.get_put, if_neg (by omega)]
    have g52 : H2.get (H.nx + 2) = some (.row [.i .i64 h.kind, ns, ks, .b h.opn] true) := by rw [hH2, get_push_old (by simp; omega), Heap.get_put, if_pos rfl]
    have g62 : H2.get (H.nx + 3) = some (.row [.i .i64 0, .nsl, .nsl, .b false] true) := by
      rw [hH2, show H.nx + 3 = (H1.put (H.nx + 2) (.row [.i .i64 h.kind, ns, ks, .b h.opn] true)).nx by simp; omega]; exact get_push_nx _ _
    have gp5 : (H1.put (H.nx + 2) (.row [.i .i64 h.kind, ns, ks, .b h.opn] true)).get (H.nx + 2) = some (.row [.i .i64 h.kind, ns, ks, .b h.opn] true) := by rw [Heap.get_put, if_pos rfl]
    have ex2 : Ex X H2 := m.ex.trans ⟨by omega, fun i hi o ho => by rw [old2 i (by omega), old1 i hi]; exact ho⟩
    have n1' : (H1.put (H.nx + 2) (.row [.i .i64 h.kind, ns, ks, .b h.opn] true)).nx = H.nx + 3 := n1
    simp [d45_5, t0, t3, t4, t5, load_row gp5, n1]
    rw [← hH2]
    refine Call.mono (call69 (hns.ex ex2) (by omega)) ?_
    rintro v H3 _ ⟨e3, bv, sv⟩
    have l52 : aLoad H2 (.p (H.nx + 2) 0) 1 false = some (.i .i64 h.kind) := by rw [load_row g52]; rfl
    have g53 := e3.get _ (by omega) _ g52
    have g63 := e3.get _ (by omega) _ g62
    have g43 := e3.get (H.nx + 1) (by omega) _ (by rw [old2 _ (by omega)]; exact g4)
    have g33 := e3.get H.nx (by omega) _ (by rw [old2 _ (by omega)]; exact g3)
    have nx3 := e3.nx
    have hcv : v.cells? = some [v] := bv.sl1.cells
    simp only [qC]
    refine ⟨by simp, StillL.still (by simp [StillL, stR, t5, load_row g52, load_row g53, n1', g62, g63]), ?_⟩
    have st6 : aStore H3 (.p (H.nx + 3) 0) (.agg [.i .i64 h.kind, v, .nsl, .b h.opn]) 4 = some (H3.put (H.nx + 3) (.row [.i .i64 h.kind, v, .nsl, .b h.opn] true)) := by
      simp [aStore, g63, splice]
    simp [t5, n1', n1, aFill, hcv, splice, st6]
    obtain ⟨H5, hH5⟩ : ∃ P, P = H3.put (H.nx + 3) (.row [.i .i64 h.kind, v, .nsl, .b h.opn] true) := ⟨_, rfl⟩
    have n5 : H5.nx = H3.nx := by rw [hH5]; rfl
    have old5 : ∀ i, i ≠ H.nx + 3 → H5.get i = H3.get i := fun i hi => by rw [hH5, Heap.get_put, if_neg hi]
    have g65 : H5.get (H.nx + 3) = some (.row [.i .i64 h.kind, v, .nsl, .b h.opn] true) := by rw [hH5, Heap.get_put, if_pos rfl]
    have g55 : H5.get (H.nx + 2) = some (.row [.i .i64 h.kind, ns, ks, .b h.opn] true) := by rw [old5 _ (by omega)]; exact g53
    have g45 := (old5 (H.nx + 1) (by omega)).trans g43
    have g35 := (old5 H.nx (by omega)).trans g33
    rw [← hH5]
    have fr5 : Fr [] H H5 := ⟨by omega, fun i hi _ o ho => by
      rw [old5 i (by omega)]
      exact e3.get i (by omega) o (by rw [old2 i (by omega), old1 i hi]; exact ho)⟩
    have m5 := m.fr fr5 (by simp)
    have out : ∀ i, H.nx ≤ i → i ≠ H.nx + 3 → some i ∉ (some (H.nx + 3) :: own4 pm sm lv fv) := fun i hi hne hm => by
      simp only [own4, List.mem_cons, List.mem_nil_iff, or_false, Option.some.injEq] at hm
      rcases hm with h | h | h | h | h
      · exact hne h
      · omega
      · omega
      · have := lvlt _ h.symm; omega
      · have := fvlt _ h.symm; omega
    have hks5 := hks.ex m5.ex
    simp [r45_6, t5, load_row g55, hks5.len']
    refine lp45_0 (p := p) (h := h) (po := H.nx + 3) (q3 := H.nx) (q5 := H.nx + 2) m5 g65 ?_ hks hn hpn hlf hca hcb g35 g55 ?_ ?_ (by simp [t0]) (by simp [t3]) (by simp [t5]) (by simp) (by simp) (by simp) (by simp) fun T' H6 lv' fv' kv hk6 row6 w => ?_
    · exact ⟨by omega, by omega, by omega, by omega, fun e => by have := lvlt _ e; omega, fun e => by have := fvlt _ e; omega⟩
    · exact ⟨by omega, out _ (by omega) (by omega)⟩
    · exact ⟨by omega, out _ (by omega) (by omega)⟩
    have k4 := hk6 4 (by simp)
    have k6 := hk6 6 (by simp)
    simp [t4] at k4 k6
    have g46 := w.fr.old (H.nx + 1) (by omega) (out _ (by omega) (by omega)) _ g45
    have hck : kv.cells? = some [kv] := w.kb.sl1.cells
    have st4 : aStore H6 (.p (H.nx + 1) 0) (.agg [.i .i64 h.kind, v, kv, .b h.opn]) 4 = some (H6.put (H.nx + 1) (.row [.i .i64 h.kind, v, kv, .b h.opn] true)) := by
      simp [aStore, g46, splice]
    have l6 : aLoad H6 (.p (H.nx + 3) 0) 4 true = some (.agg [.i .i64 h.kind, v, kv, .b h.opn]) := by
      rw [load_agg (o := 0) (n := 4) row6 (by simp)]; rfl
    simp [r45_14, k4, k6, l6, st4]
    rw [load_agg (o := 0) (n := 4) (cs := [.i .i64 h.kind, v, kv, .b h.opn]) (own := true) (by rw [Heap.get_put, if_pos rfl]) (by simp)]
    have vlt : ∀ i, sid v = some i → H.nx + 4 ≤ i ∧ i < H5.nx := fun i hi => ⟨by have := sv i hi; omega, by have := bv.sid_lt hi; omega⟩
    have hv5 : Strs H5 v h.names := (bv.keepS (H' := H5) (by omega) fun i hi o ho => by rw [old5 i (by have := vlt i hi; omega)]; exact ho).sl1
    have hv6 : Strs H6 v h.names := hv5.fr w.fr (by
      cases hsv : sid v with
      | none => exact .inl hsv
      | some i =>
        have := vlt i hsv
        exact .inr (by rw [hsv]; exact out i (by omega) (by omega)))
    refine HR.of (s := sideS p h) (po := H.nx + 3) (r := H.nx + 1) m fr5 w hv6 (fun i hi => ⟨by have := vlt i hi; omega, fun hm => ?_⟩) ⟨by omega, by omega, fun e => by have := vlt _ e; omega⟩ (by omega)
    have := vlt i hi
    have hm2 := w.lt_own (by omega) hm
    exact out i (by omega) (by omega) (List.mem_cons_of_mem _ hm2)
  rcases hp with ⟨hpb, i, hpi, hi⟩ | ⟨hpb, i, hpi, hi⟩
  · obtain ⟨ns, ks, e1, e2, e3⟩ := hA.headX ex1 hi
    have hil := (List.getElem?_eq_some_iff.1 hi).1
    have hst : aStore H1 (.p (H.nx + 2) 0) (.agg [.i .i64 h.kind, ns, ks, .b h.opn]) 4 = some (H1.put (H.nx + 2) (.row [.i .i64 h.kind, ns, ks, .b h.opn] true)) := by
      simp [aStore, g5, splice]
    have la : aLoad H1 (.p pm 0) 1 false = some a := by rw [load_row go1]; rfl
    simp [r45_2, lpb, hpb, d45_3, la, lpa, hpi, sidx_at hA.len hil, e1, hst]
    refine main _ ns ks ?_ ?_ ?_ ?_ e2 e3 <;> simp
  · obtain ⟨ns, ks, e1, e2, e3⟩ := hB.headX ex1 hi
    have hil := (List.getElem?_eq_some_iff.1 hi).1
    have hst : aStore H1 (.p (H.nx + 2) 0) (.agg [.i .i64 h.kind, ns, ks, .b h.opn]) 4 = some (H1.put (H.nx + 2) (.row [.i .i64 h.kind, ns, ks, .b h.opn] true)) := by
      simp [aStore, g5, splice]
    have lb : aLoad H1 (.p pm 1) 1 false = some b := by rw [load_row go1]; rfl
    have hpb' : ¬ (i : Int) < 0 := by omega
    rw [hpi] at lpb
    simp [r45_2, lpb, hpb', d45_4, lb, hpi, sidx_at hB.len hil, e1, hst]
    refine main _ ns ks ?_ ?_ ?_ ?_ e2 e3 <;> simp


theorem Sl.inj {H : Heap} {es : Nat} {agg : Bool} {v : AVal} {l l' : List AVal} (h : Sl H es agg v l) (h' : Sl H es agg v l') : l = l' := by
  have hl : l.length = l'.length := by
    have := h.len.symm.trans h'.len
    simpa using this
  refine List.ext_getElem hl fun i h1 h2 => ?_
  have e1 := h.at' i _ (List.getElem?_eq_getElem h1)
  have e2 := h'.at' i _ (List.getElem?_eq_getElem h2)
  exact Option.some.inj (e1.symm.trans e2)
theorem map_inj {α β : Type} {f : α → β} (hf : ∀ a b, f a = f b → a = b) : ∀ {l l' : List α}, l.map f = l'.map f → l = l'
  | [], [], _ => rfl
  | [], _ :: _, h => by simp at h
  | _ :: _, [], h => by simp at h
  | x :: l, y :: l', h => by
    simp at h
    rw [hf _ _ h.1, map_inj hf h.2]
theorem Strs.inj {H : Heap} {v : AVal} {l l' : List (List Nat)} (h : Strs H v l) (h' : Strs H v l') : l = l' := by
  have := Sl.inj h h'
  exact map_inj (fun a b e => by simpa using e) this
theorem Ints.inj {H : Heap} {v : AVal} {l l' : List Int} (h : Ints H v l) (h' : Ints H v l') : l = l' := by
  have := Sl.inj h h'
  exact map_inj (fun a b e => by simpa using e) this

def namK (p : Pt) (h k : Hd) (nms : List (List Nat)) : List Pt := nms.map fun nm => ⟨findK h.names h.kids nm, findK k.names k.kids nm, p.join⟩
def namS (p : Pt) (h k : Hd) (nms : List (List Nat)) (opn : Bool) : Shape := ⟨h.kind, nms, opn, namK p h k nms⟩

theorem Wk.keep {X H H' H'' : Heap} {d pm sm : Nat} {a b lv fv lv' fv' : AVal} {ps : List Pt} {hs : List Hd} {lf : List Pt} {qs : List Pt} {po : Nat} {kv : AVal} {S : List (Option Nat)} (w : Wk X H H' d pm sm a b lv fv lv' fv' ps hs lf qs po kv) (f : Fr S H' H'')
    (hS : ∀ i, some i ∈ S → (i = po ∨ H.nx ≤ i) ∧ sid lv' ≠ some i ∧ sid fv' ≠ some i ∧ sid kv ≠ some i) : Wk X H H'' d pm sm a b lv fv lv' fv' ps hs lf qs po kv := by
  have h1 := w.hl.pml
  have h2 := w.hl.sml
  have h3 := w.hl.dl
  obtain ⟨p1, p2, p3, p4, p5, p6⟩ := w.pl
  refine ⟨w.mkr.fr f fun i hi => ?_, ⟨Nat.le_trans w.fr.nx f.nx, fun i hi hm o ho => f.old i (by have := w.fr.nx; omega) (fun e => ?_) o (w.fr.old i hi hm o ho)⟩, w.sl, w.sf, w.kb.keepS f.nx fun i hi o ho => f.old i (w.kb.sid_lt hi) (fun e => (hS i e).2.2.2 hi) o ho, w.ks, w.pl, w.hl⟩
  · obtain ⟨x1, x2, x3, x4⟩ := hS i hi
    rcases x1 with rfl | x1
    · exact ⟨p1, p3, p4, x2, x3⟩
    · exact ⟨by omega, by omega, by omega, x2, x3⟩
  · rcases (hS i e).1 with rfl | h
    · exact hm (by simp)
    · omega

/-- The names written so far. -/
structure Nb (H H' : Heap) (lv' fv' kv nv : AVal) (nms : List (List Nat)) : Prop where
  nb : Buf H' 1 nv nms.length (nms.map .s)
  ns : ∀ i, sid nv = some i → H.nx ≤ i ∧ sid kv ≠ some i ∧ sid lv' ≠ some i ∧ sid fv' ≠ some i

theorem lp46_0 {X H : Heap} {T : Tm} {Q : Post} {d pm sm : Nat} {a b lv fv : AVal} {ps : List Pt} {hs : List Hd} {lf : List Pt} {po q5 q9 q10 : Nat} {nl n1 k1 n2 k2 kd o : AVal} {p : Pt} {h k : Hd} {nms : List (List Nat)} (m : MK X H d pm sm a b lv fv ps hs lf) (hrow : H.get po = some (.row [kd, .nsl, .nsl, o] true)) (hpl : d ≤ po ∧ po < H.nx ∧ po ≠ pm ∧ po ≠ sm ∧ sid lv ≠ some po ∧ sid fv ≠ some po)
    (hnl : Strs H nl nms) (hno : Outs (some po :: own4 pm sm lv fv) nl) (hn : nms.length < 100000) (hpn : ps.length < 700000) (hlf : lf.length ≤ ps.length) (ha : a.cells? = some [a]) (hb : b.cells? = some [b])
    (xn1 : Strs X n1 h.names) (xk1 : Ints X k1 h.kids) (xn2 : Strs X n2 k.names) (xk2 : Ints X k2 k.kids) (u1 : Up h.names) (u2 : Up k.names) (w1 : h.names.length ≤ h.kids.length) (w2 : k.names.length ≤ k.kids.length) (y1 : h.names.length < 1000000) (y2 : k.names.length < 1000000)
    (g5 : H.get q5 = some (.row (ptC p) true)) (g9 : H.get q9 = some (.row [.i .i64 h.kind, n1, k1, .b h.opn] true)) (g10 : H.get q10 = some (.row [.i .i64 k.kind, n2, k2, .b k.opn] true)) (l5 : q5 < H.nx ∧ some q5 ∉ (some po :: own4 pm sm lv fv)) (l9 : q9 < H.nx ∧ some q9 ∉ (some po :: own4 pm sm lv fv)) (l10 : q10 < H.nx ∧ some q10 ∉ (some po :: own4 pm sm lv fv))
    (h0 : T.get 0 = some (.p pm 0)) (h5 : T.get 5 = some (.p q5 0)) (h9 : T.get 9 = some (.p q9 0)) (h10 : T.get 10 = some (.p q10 0)) (h11 : T.get 11 = some (.p po 0)) (h34 : T.get 34 = some nl) (h35 : T.get 35 = some (.i .i64 (nms.length : Int))) (h36 : T.get 36 = some (.i .i64 0))
    (hQ : ∀ T' H' lv' fv' nv kv, Keep [8, 11] T T' → H'.get po = some (.row [kd, nv, kv, o] true) → Wk X H H' d pm sm a b lv fv lv' fv' ps hs lf (namK p h k nms) po kv → Nb H H' lv' fv' kv nv nms → Q (.exit 0) T' H') : Loop l46_0 T H Q := by
  refine Loop.by (fun r T' H' => Keep [0, 5, 8, 9, 10, 11, 34, 35] T T' ∧ ∃ j : Nat, j + r = nms.length ∧ T'.get 36 = some (.i .i64 (j : Int)) ∧ ∃ lv' fv' nv kv, H'.get po = some (.row [kd, nv, kv, o] true) ∧ Wk X H H' d pm sm a b lv fv lv' fv' ps hs lf (namK p h k (nms.take j)) po kv ∧ Nb H H' lv' fv' kv nv (nms.take j)) nms.length ?_ ?_
  · refine ⟨fun t _ => rfl, 0, by simp, h36, lv, fv, .nsl, .nsl, hrow, ?_, by simpa using Buf.nil _ _, by simp [sid]⟩
    refine ⟨?_, ⟨Nat.le_refl _, fun _ _ _ _ h => h⟩, fun i hi => .inl hi, fun i hi => .inl hi, by simpa [namK, numA] using Buf.nil _ _, by simp [sid], hpl, m⟩
    simp only [List.take_zero, namK, List.map_nil, addA, growH_self, growF_self]
    exact m
  · rintro r T1 H1 ⟨hkp, j, hjr, g36, lv', fv', nv, kv, row, w, nb⟩
    have k0 := (hkp 0 (by simp)).trans h0
    have k5 := (hkp 5 (by simp)).trans h5
    have k8 := hkp 8 (by simp)
    have k9 := (hkp 9 (by simp)).trans h9
    have k10 := (hkp 10 (by simp)).trans h10
    have k11 := (hkp 11 (by simp)).trans h11
    have k34 := (hkp 34 (by simp)).trans h34
    have k35 := (hkp 35 (by simp)).trans h35
    have hnx := w.fr.nx
    by_cases hj : j < nms.length
    · obtain ⟨nm, hnj⟩ : ∃ y, nms[j]? = some y := ⟨_, List.getElem?_eq_getElem hj⟩
      have hlt : (j : Int) < (nms.length : Int) := by omega
      have hnl1 := hnl.fr w.fr hno
      have ltk : (nms.take j).length = j := by rw [List.length_take]; omega
      -- the name is put behind
      have nb1 := nb.nb
      rw [ltk] at nb1
      obtain ⟨nv', H2, e1, e2, e3, e4, e5⟩ := nb1.app1 (bytes := 16) (news := [.s nm]) rfl (by omega) (by omega)
      have hcn : nv'.cells? = some [nv'] := e2.sl1.cells
      have nvlt : ∀ i, sid nv = some i → i < H1.nx := fun i hi => nb1.sid_lt hi
      have nvp : sid nv ≠ some po := fun e => by have := (nb.ns po e).1; have := hpl.2.1; omega
      have row2 : H2.get po = some (.row [kd, nv, kv, o] true) := by rw [e5 po (by have := hpl.2.1; omega) nvp]; exact row
      have st : aStore H2 (.p po 1) nv' 1 = some (H2.put po (.row [kd, nv', kv, o] true)) := by
        simp only [aStore, hcn, row2]; rfl
      obtain ⟨H3, hH3⟩ : ∃ P, P = H2.put po (.row [kd, nv', kv, o] true) := ⟨_, rfl⟩
      have n3 : H3.nx = H1.nx + 2 := by rw [hH3, nx_put', e3]
      have row3 : H3.get po = some (.row [kd, nv', kv, o] true) := by rw [hH3, Heap.get_put, if_pos rfl]
      have nvs' : sid nv' = some (H1.nx + 1) := by rw [e4]; rfl
      have fr13 : Fr [some po, sid nv] H1 H3 := Fr.eq (by omega) fun i hi hm => by
        simp only [List.mem_cons, List.mem_nil_iff, or_false, not_or, Option.some.injEq] at hm
        rw [hH3, Heap.get_put, if_neg hm.1, e5 i hi fun e => hm.2 e.symm]
      have w3 := w.keep fr13 fun i hi => by
        simp only [List.mem_cons, List.mem_nil_iff, or_false, Option.some.injEq] at hi
        rcases hi with rfl | hi
        · have hp := w.po_own
          simp only [own4, List.mem_cons, List.mem_nil_iff, or_false, not_or, Option.some.injEq] at hp
          exact ⟨.inl rfl, fun e => hp.2.2.1 e.symm, fun e => hp.2.2.2 e.symm, fun e => by have := (w.ks i e).1; have := hpl.2.1; omega⟩
        · obtain ⟨x1, x2, x3, x4⟩ := nb.ns i hi.symm
          exact ⟨.inr x1, x3, x4, x2⟩
      have b3 : Buf H3 1 nv' (nms.take (j + 1)).length ((nms.take (j + 1)).map .s) := by
        have := e2.keep (H' := H3) (by rw [hH3]; simp) fun i hi => by
          rw [nvs'] at hi
          obtain rfl := Option.some.inj hi
          rw [hH3, Heap.get_put, if_neg (by have := hpl.2.1; omega)]
        rw [List.take_add_one, hnj]
        simpa [ltk] using this
      have g53 : H3.get q5 = some (.row (ptC p) true) := w3.fr.old q5 l5.1 l5.2 _ g5
      have g93 := w3.fr.old q9 l9.1 l9.2 _ g9
      have g103 := w3.fr.old q10 l10.1 l10.2 _ g10
      simp [l46_0, r46_4, r46_5, r46_6, k34, k35, g36, hlt, sidx_at hnl.len' hj, hnl1.get hnj, k11, load_row row, e1, st]
      rw [← hH3]
      have lkv : aLoad H3 (.p po 2) 1 false = some kv := by rw [load_row row3]; rfl
      have lj : aLoad H3 (.p q5 2) 1 false = some (.b p.join) := by rw [load_row g53]; rfl
      have lh : aLoad H3 (.p q9 0) 4 true = some (.agg [.i .i64 h.kind, n1, k1, .b h.opn]) := by rw [load_agg (o := 0) (n := 4) g93 (by simp)]; rfl
      have lk : aLoad H3 (.p q10 0) 4 true = some (.agg [.i .i64 k.kind, n2, k2, .b k.opn]) := by rw [load_agg (o := 0) (n := 4) g103 (by simp)]; rfl
      have exH := w3.mkr.ex
      simp [d46_7, k0, k5, k9, k10, k11, lkv, lj, lh, lk]
      refine Call.mono (call75 (h := h) ⟨n1, k1, rfl, xn1.ex exH, xk1.ex exH⟩ u1 w1 y1) ?_
      rintro v1 Hx _ ⟨eqx, rfl⟩
      obtain rfl := eqx.symm
      simp only [qC]
      refine ⟨by simp, StillL.still (by simp [StillL, stR, k5, k9, k10, k11, lkv, lj, lh, lk]), ?_⟩
      simp
      refine Call.mono (call75 (h := k) ⟨n2, k2, rfl, xn2.ex exH, xk2.ex exH⟩ u2 w2 y2) ?_
      rintro v2 Hx _ ⟨eqx, rfl⟩
      obtain rfl := eqx.symm
      simp only [qC]
      refine ⟨?_, StillL.still (by simp [StillL, stR, k5, k9, k10, k11, lkv, lj, lh, lk]), ?_⟩
      · simp
        intro e1 e2 e3 e4
        subst e2 e3
        rw [Strs.inj xn1 xn2, Ints.inj xk1 xk2]
      simp [aFill, splice]
      have hpt : AVal.agg [.i .i64 (findK h.names h.kids nm), .i .i64 (findK k.names k.kids nm), .b p.join] = .agg (ptC ⟨findK h.names h.kids nm, findK k.names k.kids nm, p.join⟩) := rfl
      rw [hpt]
      obtain ⟨pt, hptd⟩ : ∃ q, q = (⟨findK h.names h.kids nm, findK k.names k.kids nm, p.join⟩ : Pt) := ⟨_, rfl⟩
      rw [← hptd]
      have htk : namK p h k (nms.take (j + 1)) = namK p h k (nms.take j) ++ [pt] := by
        rw [List.take_add_one, hnj, hptd]; simp [namK]
      have hal := addA_le (namK p h k (nms.take j)) ps
      have hpre := (addA_pre (namK p h k (nms.take j)) ps).length_le
      have hln : (namK p h k (nms.take j)).length = j := by simp [namK]; omega
      have lfl : (growF lf ps (addA ps (namK p h k (nms.take j)))).length ≤ (addA ps (namK p h k (nms.take j))).length := by simp [growF]; omega
      refine Call.mono (call29 (p := pt) w3.mkr (by omega) lfl ha hb) ?_
      rintro v H4 _ hnum
      obtain ⟨f1, f2, f3, kv', H5, f4, H6, f5, f6, f7, lv'', fv'', f8, f9, f10, f11⟩ := w3.step hnum row3 (by omega)
      have l4 : aLoad H4 (.p po 2) 1 false = some kv := by rw [load_row f2]; rfl
      simp only [qC]
      refine ⟨by simp, StillL.still (by simp [StillL, stR, k0, k11, lkv, l4]), ?_⟩
      rw [f1] at f4
      simp [f1, k11, f4, f5, r46_8, g36, b_inc (show j < 4611686018427387904 by omega)]
      refine ⟨r - 1, by omega, fun t ht => ?_, j + 1, by omega, by simp, lv'', fv'', nv', kv', f6, by rw [htk]; exact f8, ?_, fun i hi => ?_⟩
      · simp at ht
        rcases ht with rfl | rfl | rfl | rfl | rfl | rfl | rfl | rfl <;> simp [k0, k5, k8, k9, k10, k11, k34, k35, h0, h5, h9, h10, h11, h34, h35]
      · refine b3.keepS f7.nx fun i hi => ?_
        rw [nvs'] at hi
        obtain rfl := Option.some.inj hi
        refine f7.old _ (by omega) ?_
        simp only [own4, List.mem_cons, List.mem_nil_iff, or_false, not_or, Option.some.injEq]
        have := hpl.2.1
        have h1 := m.pml
        have h2 := m.sml
        refine ⟨by omega, fun e => ?_, by omega, by omega, fun e => ?_, fun e => ?_⟩
        · have := w.kb.sid_lt e.symm; omega
        · obtain ⟨lc, l1, _⟩ := w.mkr.ll
          have := l1.sid_lt e.symm; omega
        · have := w.mkr.qq.sid_lt e.symm; omega
      · rw [nvs'] at hi
        obtain rfl := Option.some.inj hi
        refine ⟨by omega, fun e => ?_, fun e => ?_, fun e => ?_⟩
        · have := f11 _ e; omega
        · rcases f9 _ e with e | e
          · obtain ⟨lc, l1, _⟩ := w.mkr.ll
            have := l1.sid_lt e; omega
          · omega
        · rcases f10 _ e with e | e
          · have := w.mkr.qq.sid_lt e; omega
          · omega
    · have hlt : ¬ (j : Int) < (nms.length : Int) := by omega
      simp [l46_0, r46_4, k34, k35, g36, hlt]
      rw [List.take_of_length_le (by omega)] at w nb
      refine hQ _ _ lv' fv' nv kv (fun t ht => ?_) row w nb
      simp at ht
      rcases ht with rfl | rfl <;> simp [k8, k11, h11]

theorem Hds.headA {X : Heap} {v : AVal} {l : List Hd} (h : Hds X v l) {j : Nat} {hd : Hd} (hj : l[j]? = some hd) : ∃ ns ks, (∀ G, Ex X G → aLoad G (sptr 4 v j) 4 true = some (.agg [.i .i64 hd.kind, ns, ks, .b hd.opn])) ∧ Strs X ns hd.names ∧ Ints X ks hd.kids := by
  obtain ⟨ns, ks, h1, h2, h3⟩ := h.head hj
  refine ⟨ns, ks, fun G he => ?_, h2, h3⟩
  have h4 := h.ins
  have hlen := h.len
  cases v <;> simp only [slin] at h4
  · simp at hlen
    have := (List.getElem?_eq_some_iff.1 hj).1
    omega
  · exact load_ex he h4.1 h1

theorem call46 {X H : Heap} {d pm sm : Nat} {a b lv fv nl : AVal} {ps : List Pt} {hs : List Hd} {lf : List Pt} {A B : List Hd} {p : Pt} {h k : Hd} {nms : List (List Nat)} {opn : Bool} {i1 i2 : Nat} (m : MK X H d pm sm a b lv fv ps hs lf) (hA : Hds X a A) (hB : Hds X b B)
    (hp1 : p.a = (i1 : Int)) (hi1 : A[i1]? = some h) (hp2 : p.b = (i2 : Int)) (hi2 : B[i2]? = some k) (u1 : Up h.names) (u2 : Up k.names) (w1 : h.names.length ≤ h.kids.length) (w2 : k.names.length ≤ k.kids.length) (y1 : h.names.length < 1000000) (y2 : k.names.length < 1000000)
    (hnl : Strs H nl nms) (hno : Outs (own4 pm sm lv fv) nl) (hn : nms.length < 100000) (hpn : ps.length < 700000) (hlf : lf.length ≤ ps.length) :
    Call 46 [.p pm 0, .agg (ptC p), nl, .b opn] H (HR X H d pm sm a b lv fv ps hs lf (namS p h k nms opn)) := by
  have hca := hA.cells
  have hcb := hB.cells
  obtain ⟨pm1, pm2⟩ := m.pml
  obtain ⟨sm1, sm2, sm3⟩ := m.sml
  obtain ⟨lc, l1, _⟩ := m.ll
  have lvlt : ∀ i, sid lv = some i → i < H.nx := fun i hi => l1.sid_lt hi
  have fvlt : ∀ i, sid fv = some i → i < H.nx := fun i hi => m.qq.sid_lt hi
  have nllt : ∀ i, sid nl = some i → i < H.nx := fun i hi => by
    have h2 := hnl.ins
    cases nl <;> simp only [slin] at h2 <;> simp [K.sid] at hi
    omega
  have hxl := m.ex.nx
  have hdl := m.dl
  refine Call.by (a := a46) rfl (by simp [a46]) ?_
  simp [a46, c46, r46_0]
  obtain ⟨H1, hH1⟩ : ∃ P, P = (H.push (.row (ptC p) true)).push (.row [.i .i64 0, .nsl, .nsl, .b false] true) := ⟨_, rfl⟩
  have n1 : H1.nx = H.nx + 2 := by rw [hH1]; rfl
  have old1 : ∀ i, i < H.nx → H1.get i = H.get i := fun i hi => by rw [hH1, get_push_old (by simp; omega), get_push_old hi]
  have g5 : H1.get H.nx = some (.row (ptC p) true) := by rw [hH1, get_push_old (by simp)]; simp
  have g8 : H1.get (H.nx + 1) = some (.row [.i .i64 0, .nsl, .nsl, .b false] true) := by rw [hH1]; exact get_push_nx _ _
  have ex1 : Ex X H1 := m.ex.trans ⟨by omega, fun i hi o ho => by rw [old1 i hi]; exact ho⟩
  have go1 : H1.get pm = some (.row [a, b, .m sm, lv, fv] true) := by rw [old1 _ pm2]; exact m.ob
  rw [← hH1]
  have lpa : aLoad H1 (.p H.nx 0) 1 false = some (.i .i64 p.a) := by rw [load_row g5]; rfl
  have lpb : aLoad H1 (.p H.nx 1) 1 false = some (.i .i64 p.b) := by rw [load_row g5]; rfl
  obtain ⟨v1, c1, e1', xn1, xk1⟩ := hA.headA hi1
  have e1 := e1' H1 ex1
  obtain ⟨v2, c2, e2', xn2, xk2⟩ := hB.headA hi2
  have e2 := e2' H1 ex1
  have hil1 := (List.getElem?_eq_some_iff.1 hi1).1
  have hil2 := (List.getElem?_eq_some_iff.1 hi2).1
  have la : aLoad H1 (.p pm 0) 1 false = some a := by rw [load_row go1]; rfl
  have lb : aLoad H1 (.p pm 1) 1 false = some b := by rw [load_row go1]; rfl
  obtain ⟨H2, hH2⟩ : ∃ P, P = (H1.push (.row [.i .i64 0, .nsl, .nsl, .b false] true)).push (.row [.i .i64 0, .nsl, .nsl, .b false] true) := ⟨_, rfl⟩
  have n2 : H2.nx = H.nx + 4 := by rw [hH2]; simp; omega
  have old2 : ∀ i, i < H.nx + 2 → H2.get i = H1.get i := fun i hi => by rw [hH2, get_push_old (by simp; omega), get_push_old (by omega)]
  have g92 : H2.get (H.nx + 2) = some (.row [.i .i64 0, .nsl, .nsl, .b false] true) := by rw [hH2, get_push_old (by simp; omega), ← n1]; exact get_push_nx _ _
  have g102 : H2.get (H.nx + 3) = some (.row [.i .i64 0, .nsl, .nsl, .b false] true) := by
    rw [hH2, show H.nx + 3 = (H1.push (.row [.i .i64 0, .nsl, .nsl, .b false] true)).nx by simp; omega]; exact get_push_nx _ _
  obtain ⟨H3, hH3⟩ : ∃ P, P = H2.put (H.nx + 2) (.row [.i .i64 h.kind, v1, c1, .b h.opn] true) := ⟨_, rfl⟩
  have st9 : aStore H2 (.p (H.nx + 2) 0) (.agg [.i .i64 h.kind, v1, c1, .b h.opn]) 4 = some H3 := by
    rw [hH3]; simp [aStore, g92, splice]
  have old3 : ∀ i, i ≠ H.nx + 2 → H3.get i = H2.get i := fun i hi => by rw [hH3, Heap.get_put, if_neg hi]
  have g103 := (old3 (H.nx + 3) (by omega)).trans g102
  obtain ⟨H4, hH4⟩ : ∃ P, P = H3.put (H.nx + 3) (.row [.i .i64 k.kind, v2, c2, .b k.opn] true) := ⟨_, rfl⟩
  have st10 : aStore H3 (.p (H.nx + 3) 0) (.agg [.i .i64 k.kind, v2, c2, .b k.opn]) 4 = some H4 := by
    rw [hH4]; simp [aStore, g103, splice]
  have old4 : ∀ i, i ≠ H.nx + 3 → H4.get i = H3.get i := fun i hi => by rw [hH4, Heap.get_put, if_neg hi]
  have n4 : H4.nx = H.nx + 4 := by rw [hH4, nx_put', hH3, nx_put', n2]
  have ex2 : Ex H1 H2 := ⟨by omega, fun i hi o ho => by rw [old2 i (by omega)]; exact ho⟩
  have ex3 : Ex H1 H3 := ⟨by rw [hH3, nx_put']; omega, fun i hi o ho => by rw [old3 i (by omega), old2 i (by omega)]; exact ho⟩
  have ld : ∀ {G : Heap} {i o n : Nat} {g : Bool} {x : AVal}, Ex H1 G → i < H1.nx → aLoad H1 (.p i o) n g = some x → aLoad G (.p i o) n g = some x := fun he hi h => load_ex he hi h
  have qa2 := ld ex2 (by omega) la
  have qb2 := ld ex2 (by omega) lb
  have qpa2 := ld ex2 (by omega) lpa
  have qpb2 := ld ex2 (by omega) lpb
  have qb3 := ld ex3 (by omega) lb
  have qpb3 := ld ex3 (by omega) lpb
  have e22 := e2' H2 (ex1.trans ex2)
  have e23 := e2' H3 (ex1.trans ex3)
  simp [d46_1, la, lb, lpa, lpb, hp1, hp2, sidx_at hA.len hil1, sidx_at hB.len hil2, e1, e2]
  rw [← hH2]
  simp [n1, st9]
  refine ⟨StillL.still (by simp [StillL, stR, qb2, qb3, qpb2, qpb3, hp2, e22, e23]), ?_⟩
  simp [st10]
  have g94 : H4.get (H.nx + 2) = some (.row [.i .i64 h.kind, v1, c1, .b h.opn] true) := by rw [old4 _ (by omega), hH3, Heap.get_put, if_pos rfl]
  have g104 : H4.get (H.nx + 3) = some (.row [.i .i64 k.kind, v2, c2, .b k.opn] true) := by rw [hH4, Heap.get_put, if_pos rfl]
  obtain ⟨H5, hH5⟩ : ∃ P, P = (H4.push (.row [.i .i64 0, .nsl, .nsl, .b false] true)).put (H.nx + 4) (.row [.i .i64 h.kind, .nsl, .nsl, .b opn] true) := ⟨_, rfl⟩
  have st11 : aStore (H4.push (.row [.i .i64 0, .nsl, .nsl, .b false] true)) (.p (H.nx + 4) 0) (.agg [.i .i64 h.kind, .nsl, .nsl, .b opn]) 4 = some H5 := by
    have : (H4.push (.row [.i .i64 0, .nsl, .nsl, .b false] true)).get (H.nx + 4) = some (.row [.i .i64 0, .nsl, .nsl, .b false] true) := by rw [← n4]; exact get_push_nx _ _
    rw [hH5]; simp [aStore, this, splice]
  have n5 : H5.nx = H.nx + 5 := by rw [hH5]; simp; omega
  have old5 : ∀ i, i < H.nx + 4 → H5.get i = H4.get i := fun i hi => by rw [hH5, Heap.get_put, if_neg (by omega), get_push_old (by omega)]
  have g115 : H5.get (H.nx + 4) = some (.row [.i .i64 h.kind, .nsl, .nsl, .b opn] true) := by rw [hH5, Heap.get_put, if_pos rfl]
  have old : ∀ i, i < H.nx + 2 → H5.get i = H1.get i := fun i hi => by rw [old5 i (by omega), old4 i (by omega), old3 i (by omega), old2 i hi]
  have fr5 : Fr [] H H5 := Fr.eq (by omega) fun i hi _ => by rw [old i (by omega), old1 i hi]
  have m5 := m.fr fr5 (by simp)
  have hnl5 := hnl.fr fr5 (.inr (by simp))
  have out : ∀ i, H.nx ≤ i → i ≠ H.nx + 4 → some i ∉ (some (H.nx + 4) :: own4 pm sm lv fv) := fun i hi hne hm => by
    simp only [own4, List.mem_cons, List.mem_nil_iff, or_false, Option.some.injEq] at hm
    rcases hm with h | h | h | h | h
    · exact hne h
    · omega
    · omega
    · have := lvlt _ h.symm; omega
    · have := fvlt _ h.symm; omega
  have hno5 : Outs (some (H.nx + 4) :: own4 pm sm lv fv) nl := by
    rcases hno with e | e
    · exact .inl e
    · cases hs : sid nl with
      | none => exact .inl hs
      | some i =>
        refine .inr ?_
        rw [hs] at e ⊢
        simp only [List.mem_cons, not_or, Option.some.injEq]
        exact ⟨by have := nllt i hs; omega, e⟩
  simp [r46_2, load_row g94, n4, aFill, splice, st11]
  simp [r46_3, hnl5.len']
  refine lp46_0 (p := p) (h := h) (k := k) (nms := nms) (po := H.nx + 4) (q5 := H.nx) (q9 := H.nx + 2) (q10 := H.nx + 3) m5 g115 ⟨by omega, by omega, by omega, by omega, fun e => by have := lvlt _ e; omega, fun e => by have := fvlt _ e; omega⟩ hnl5 hno5 hn hpn hlf hca hcb xn1 xk1 xn2 xk2 u1 u2 w1 w2 y1 y2
    (by rw [old _ (by omega)]; exact g5) (by rw [old5 _ (by omega)]; exact g94) (by rw [old5 _ (by omega)]; exact g104) ⟨by omega, out _ (by omega) (by omega)⟩ ⟨by omega, out _ (by omega) (by omega)⟩ ⟨by omega, out _ (by omega) (by omega)⟩
    (by simp) (by simp) (by simp) (by simp) (by simp) (by simp) (by simp) (by simp) fun T' H6 lv' fv' nv kv hk6 row6 w nb => ?_
  have k8 := hk6 8 (by simp)
  have k11 := hk6 11 (by simp)
  simp at k8 k11
  have g85 : H5.get (H.nx + 1) = some (.row [.i .i64 0, .nsl, .nsl, .b false] true) := by rw [old _ (by omega)]; exact g8
  have g86 := w.fr.old (H.nx + 1) (by omega) (out _ (by omega) (by omega)) _ g85
  have hck : kv.cells? = some [kv] := w.kb.sl1.cells
  have hcn : nv.cells? = some [nv] := nb.nb.sl1.cells
  have st4 : aStore H6 (.p (H.nx + 1) 0) (.agg [.i .i64 h.kind, nv, kv, .b opn]) 4 = some (H6.put (H.nx + 1) (.row [.i .i64 h.kind, nv, kv, .b opn] true)) := by
    simp [aStore, g86, splice]
  have l6 : aLoad H6 (.p (H.nx + 4) 0) 4 true = some (.agg [.i .i64 h.kind, nv, kv, .b opn]) := by
    rw [load_agg (o := 0) (n := 4) row6 (by simp)]; rfl
  simp [r46_9, k8, k11, l6, st4]
  rw [load_agg (o := 0) (n := 4) (cs := [.i .i64 h.kind, nv, kv, .b opn]) (own := true) (by rw [Heap.get_put, if_pos rfl]) (by simp)]
  refine HR.of (s := namS p h k nms opn) (po := H.nx + 4) (r := H.nx + 1) m fr5 w nb.nb.sl1 (fun i hi => ⟨by have := (nb.ns i hi).1; omega, fun hm => ?_⟩) ⟨by omega, by omega, fun e => by have := (nb.ns _ e).1; omega⟩ (by omega)
  obtain ⟨z1, z2, z3, z4⟩ := nb.ns i hi
  simp only [own4, List.mem_cons, List.mem_nil_iff, or_false, Option.some.injEq] at hm
  rcases hm with h | h | h | h
  · omega
  · omega
  · exact z3 h.symm
  · exact z4 h.symm


def loK (j : Bool) : Int := if j then 6 else 5
def hiK (j : Bool) : Int := if j then 5 else 6

/-- The head of two. -/
def shape2 (x y : Hd) (p : Pt) : Shape :=
  if x.kind = loK p.join ∨ y.kind = hiK p.join then sideS ⟨-1, p.b, p.join⟩ y
  else if y.kind = loK p.join ∨ x.kind = hiK p.join then sideS ⟨p.a, -1, p.join⟩ x
  else if x.kind ≠ y.kind then ⟨hiK p.join, [], false, []⟩
  else if x.kind = 7 then ⟨7, [], false, [⟨x.kids.getD 0 0, y.kids.getD 0 0, !p.join⟩, ⟨x.kids.getD 1 0, y.kids.getD 1 0, p.join⟩]⟩
  else if x.kind = 8 then namS p x y (if p.join then bothN x.names y.names else unionN x.names y.names) false
  else if x.kind = 9 then namS p x y (varN x y p.join).1 (varN x y p.join).2
  else ⟨x.kind, [], false, []⟩

def hdA (A : List Hd) (i : Int) : Option Hd := if i < 0 then none else A[i.toNat]?
def shape (A B : List Hd) (p : Pt) : Shape := match hdA A p.a, hdA B p.b with
  | some x, some y => shape2 x y p
  | some x, none => sideS p x
  | none, some y => sideS p y
  | none, none => ⟨0, [], false, []⟩

structure POk (A B : List Hd) (p : Pt) : Prop where
  a : p.a = -1 ∨ ∃ i : Nat, p.a = i ∧ i < A.length
  b : p.b = -1 ∨ ∃ i : Nat, p.b = i ∧ i < B.length
  n : ¬ (p.a = -1 ∧ p.b = -1)

theorem HR.store {X H0 H H' : Heap} {d pm sm : Nat} {a b lv fv : AVal} {ps : List Pt} {hs : List Hd} {lf : List Pt} {s : Shape} {v : AVal} {r : Nat} {c : List AVal} (h : HR X H d pm sm a b lv fv ps hs lf s v H') (f : Fr [] H0 H) (m : MK X H0 d pm sm a b lv fv ps hs lf) (hr : H0.nx ≤ r ∧ r < H.nx) (g : H.get r = some (.row c true)) (hc : c.length = 4) :
    ∃ H3, aStore H' (.p r 0) v 4 = some H3 ∧ aLoad H3 (.p r 0) 4 true = some v ∧ HR X H0 d pm sm a b lv fv ps hs lf s v H3 := by
  have h' := h
  obtain ⟨ns, ks, lv', fv', rfl, k⟩ := h'
  obtain ⟨lc, l1, _⟩ := m.ll
  have lvlt : ∀ i, sid lv = some i → i < H0.nx := fun i hi => l1.sid_lt hi
  have fvlt : ∀ i, sid fv = some i → i < H0.nx := fun i hi => m.qq.sid_lt hi
  have pm2 := m.pml.2
  have sm2 := m.sml.2.1
  have g' := k.fr.old r hr.2 (by
    simp only [own4, List.mem_cons, List.mem_nil_iff, or_false, not_or, Option.some.injEq]
    exact ⟨by omega, by omega, fun e => by have := lvlt r e.symm; omega, fun e => by have := fvlt r e.symm; omega⟩) _ g
  have c1 := k.hn.cells
  have c2 := k.hk.cells
  refine ⟨H'.put r (.row [.i .i64 s.kind, ns, ks, .b s.opn] true), ?_, ?_, h.lift f m hr⟩
  · have hd : c.drop 4 = [] := List.drop_eq_nil_of_le (by omega)
    simp [aStore, g', splice, hc, hd]
  · rw [load_agg (o := 0) (n := 4) (cs := [.i .i64 s.kind, ns, ks, .b s.opn]) (own := true) (by rw [Heap.get_put, if_pos rfl]) (by simp)]; rfl

theorem HR.const {X H H' : Heap} {d pm sm : Nat} {a b lv fv : AVal} {ps : List Pt} {hs : List Hd} {lf : List Pt} (m : MK X H d pm sm a b lv fv ps hs lf) (f : Fr [] H H') (k : Int) :
    HR X H d pm sm a b lv fv ps hs lf ⟨k, [], false, []⟩ (.agg [.i .i64 k, .nsl, .nsl, .b false]) H' := by
  refine ⟨.nsl, .nsl, lv, fv, rfl, ?_, Sl.nil _ _ _, Sl.nil _ _ _, by simp [NewS, sid], by simp [NewS, sid], ⟨f.nx, fun i hi _ => f.old i hi (by simp)⟩, fun i hi => .inl hi, fun i hi => .inl hi⟩
  simp only [addA, growH_self, growF_self]
  exact m.fr f (by simp)

theorem eq_beq (a b : Int) : (a == b) = decide (a = b) := by rw [Bool.eq_iff_iff]; simp

theorem reg30_1 {H : Heap} {T : Tm} {Q : Post} {q3 : Nat} {p : Pt} {o : Bool} (h3 : T.get 3 = some (.p q3 0)) (g3 : H.get q3 = some (.row (ptC p) o))
    (hQ : ∀ T', Keep [0, 3, 4] T T' → T'.get 19 = some (.b (decide (p.a < 0) || decide (p.b < 0))) → Q .normal T' H) : runO r30_1 T H Q := by
  have la : aLoad H (.p q3 0) 1 false = some (.i .i64 p.a) := by rw [load_row g3]; rfl
  have lb : aLoad H (.p q3 1) 1 false = some (.i .i64 p.b) := by rw [load_row g3]; rfl
  by_cases h : p.a < 0
  · simp [r30_1, h3, la, lb, h]
    apply hQ
    · simp [Keep]
    · simp [h]
  · simp [r30_1, h3, la, lb, h]
    apply hQ
    · simp [Keep]
    · simp [h]

theorem reg30_7 {H : Heap} {T : Tm} {Q : Post} {q5 q6 : Nat} {kx ky lo hi : Int} {cx cy : List AVal} {o1 o2 : Bool} (h5 : T.get 5 = some (.p q5 0)) (h6 : T.get 6 = some (.p q6 0)) (h7 : T.get 7 = some (.i .i64 lo)) (h8 : T.get 8 = some (.i .i64 hi)) (g5 : H.get q5 = some (.row (.i .i64 kx :: cx) o1)) (g6 : H.get q6 = some (.row (.i .i64 ky :: cy) o2))
    (hQ : ∀ T', Keep [0, 3, 4, 5, 6, 7, 8] T T' → T'.get 44 = some (.b (decide (kx = lo ∨ ky = hi))) → Q .normal T' H) : runO r30_7 T H Q := by
  have la : aLoad H (.p q5 0) 1 false = some (.i .i64 kx) := by rw [load_row g5]; rfl
  have lb : aLoad H (.p q6 0) 1 false = some (.i .i64 ky) := by rw [load_row g6]; rfl
  by_cases h : kx = lo
  · have hb : (kx == lo) = true := by simp [h]
    simp [r30_7, h5, h6, h7, h8, la, lb, aEq, hb]
    apply hQ
    · simp [Keep]
    · simp [h]
  · have hb : (kx == lo) = false := by simp [h]
    simp [r30_7, h5, h6, h7, h8, la, lb, aEq, hb]
    apply hQ
    · simp [Keep]
    · simp [h, eq_beq]

theorem reg30_9 {H : Heap} {T : Tm} {Q : Post} {q5 q6 : Nat} {kx ky lo hi : Int} {cx cy : List AVal} {o1 o2 : Bool} (h5 : T.get 5 = some (.p q5 0)) (h6 : T.get 6 = some (.p q6 0)) (h7 : T.get 7 = some (.i .i64 lo)) (h8 : T.get 8 = some (.i .i64 hi)) (g5 : H.get q5 = some (.row (.i .i64 kx :: cx) o1)) (g6 : H.get q6 = some (.row (.i .i64 ky :: cy) o2))
    (hQ : ∀ T', Keep [0, 3, 4, 5, 6, 8] T T' → T'.get 62 = some (.b (decide (ky = lo ∨ kx = hi))) → Q .normal T' H) : runO r30_9 T H Q := by
  have la : aLoad H (.p q5 0) 1 false = some (.i .i64 kx) := by rw [load_row g5]; rfl
  have lb : aLoad H (.p q6 0) 1 false = some (.i .i64 ky) := by rw [load_row g6]; rfl
  by_cases h : ky = lo
  · have hb : (ky == lo) = true := by simp [h]
    simp [r30_9, h5, h6, h7, h8, la, lb, aEq, hb]
    apply hQ
    · simp [Keep]
    · simp [h]
  · have hb : (ky == lo) = false := by simp [h]
    simp [r30_9, h5, h6, h7, h8, la, lb, aEq, hb]
    apply hQ
    · simp [Keep]
    · simp [h, eq_beq]

theorem compN_le : ∀ l : List (List Nat), (compN l).length ≤ l.length
  | [] => Nat.le_refl _
  | [x] => Nat.le_refl _
  | x :: y :: r => by
    have := compN_le (y :: r)
    unfold compN
    split <;> simp at this ⊢ <;> omega

theorem own_lt {G : Heap} {n pm sm : Nat} {lv fv lv1 fv1 : AVal} (sl : ∀ i, sid lv1 = some i → sid lv = some i ∨ G.nx ≤ i) (sf : ∀ i, sid fv1 = some i → sid fv = some i ∨ G.nx ≤ i) (hn : n ≤ G.nx) {i : Nat} (hi : i < n) (hm : some i ∈ own4 pm sm lv1 fv1) : some i ∈ own4 pm sm lv fv := by
  simp only [own4, List.mem_cons, List.mem_nil_iff, or_false, Option.some.injEq] at hm ⊢
  rcases hm with h | h | h | h
  · exact .inl h
  · exact .inr (.inl h)
  · rcases sl i h.symm with e | e
    · exact .inr (.inr (.inl e.symm))
    · omega
  · rcases sf i h.symm with e | e
    · exact .inr (.inr (.inr e.symm))
    · omega

theorem HR.two {X G G1 G2 : Heap} {d pm sm : Nat} {a b lv fv lv1 fv1 lv2 fv2 : AVal} {ps : List Pt} {hs : List Hd} {lf : List Pt} {q0 q1 : Pt} {k : Int} (mG : MK X G d pm sm a b lv fv ps hs lf)
    (f1 : Fr (own4 pm sm lv fv) G G1) (sl1 : ∀ i, sid lv1 = some i → sid lv = some i ∨ G.nx ≤ i) (sf1 : ∀ i, sid fv1 = some i → sid fv = some i ∨ G.nx ≤ i)
    (m2 : MK X G2 d pm sm a b lv2 fv2 (nmL q1 (nmL q0 ps q0 ps) q1 (nmL q0 ps q0 ps)) (nmL q1 (nmL q0 ps q0 ps) hd0 (nmL q0 ps hd0 hs)) (nmL q1 (nmL q0 ps q0 ps) q1 (nmL q0 ps q0 lf))) (f2 : Fr (own4 pm sm lv1 fv1) G1 G2) (sl2 : ∀ i, sid lv2 = some i → sid lv1 = some i ∨ G1.nx ≤ i) (sf2 : ∀ i, sid fv2 = some i → sid fv1 = some i ∨ G1.nx ≤ i) :
    HR X G d pm sm a b lv fv ps hs lf ⟨k, [], false, [q0, q1]⟩ (.agg [.i .i64 k, .nsl, .sl G2.nx 0 2 (some 2) 1, .b false]) (G2.push (.row [.i .i64 ((nmI q0 ps : Nat) : Int), .i .i64 ((nmI q1 (nmL q0 ps q0 ps) : Nat) : Int)] true)) := by
  have e1 := growH_add (hs := hs) (List.prefix_refl ps) q0
  have e2 := growH_add (hs := hs) (addP_pre q0 ps) q1
  have e3 := growF_add (lf := lf) (List.prefix_refl ps) q0
  have e4 := growF_add (lf := lf) (addP_pre q0 ps) q1
  rw [growH_self] at e1
  rw [growF_self] at e3
  have n1 := f1.nx
  have n2 := f2.nx
  have hdl := mG.dl
  have frp : Fr [] G2 (G2.push (.row [.i .i64 ((nmI q0 ps : Nat) : Int), .i .i64 ((nmI q1 (nmL q0 ps q0 ps) : Nat) : Int)] true)) := Fr.eq (by simp) fun i hi _ => get_push_old hi
  refine ⟨.nsl, .sl G2.nx 0 2 (some 2) 1, lv2, fv2, rfl, ?_, Sl.nil _ _ _, ?_, by simp [NewS, sid], fun i hi => ?_, ⟨by simp; omega, fun i hi hm o ho => ?_⟩, fun i hi => ?_, fun i hi => ?_⟩
  · have m3 := m2.fr frp (by simp)
    rw [e1, e3] at m3
    have e2' : nmL q1 (nmL q0 ps q0 ps) hd0 (growH hs ps (addP q0 ps)) = growH hs ps (addP q1 (addP q0 ps)) := e2
    have e4' : nmL q1 (nmL q0 ps q0 ps) q1 (growF lf ps (addP q0 ps)) = growF lf ps (addP q1 (addP q0 ps)) := e4
    rw [e2', e4'] at m3
    exact m3
  · exact Sl.all (get_push_nx _ _) (by simp) rfl
  · simp [sid] at hi
    subst hi
    refine ⟨by omega, by simp, ?_⟩
    obtain ⟨lc, l1, _⟩ := m2.ll
    have := m2.pml.2
    have := m2.sml.2.1
    simp only [own4, List.mem_cons, List.mem_nil_iff, or_false, not_or, Option.some.injEq]
    exact ⟨by omega, by omega, fun e => by have := l1.sid_lt e.symm; omega, fun e => by have := m2.qq.sid_lt e.symm; omega⟩
  · rw [get_push_old (by omega)]
    exact f2.old i (by omega) (fun h => hm (own_lt sl1 sf1 (Nat.le_refl _) hi h)) o (f1.old i hi hm o ho)
  · rcases sl2 i hi with h | h
    · exact sl1 i h
    · exact .inr (by omega)
  · rcases sf2 i hi with h | h
    · exact sf1 i h
    · exact .inr (by omega)

/-- The tail: both heads are at hand. -/
theorem tail30 {X H G : Heap} {T : Tm} {d pm sm : Nat} {a b lv fv n1 c1 n2 c2 : AVal} {ps : List Pt} {hs : List Hd} {lf : List Pt} {A B : List Hd} {p : Pt} {x y : Hd} {i1 i2 : Nat} (m : MK X H d pm sm a b lv fv ps hs lf) (hA : Hds X a A) (hB : Hds X b B) (f : Fr [] H G) (nG : G.nx = H.nx + 4)
    (hp1 : p.a = (i1 : Int)) (hi1 : A[i1]? = some x) (hp2 : p.b = (i2 : Int)) (hi2 : B[i2]? = some y) (o1 : HOk A.length x) (o2 : HOk B.length y) (z1 : x.names.length < 40000 ∧ x.kids.length < 40000) (z2 : y.names.length < 40000 ∧ y.kids.length < 40000) (hpn : ps.length < 600000) (hlf : lf.length ≤ ps.length)
    (xn1 : Strs X n1 x.names) (xk1 : Ints X c1 x.kids) (xn2 : Strs X n2 y.names) (xk2 : Ints X c2 y.kids)
    (g3 : G.get H.nx = some (.row (ptC p) true)) (g4 : G.get (H.nx + 1) = some (.row [.i .i64 0, .nsl, .nsl, .b false] true)) (g5 : G.get (H.nx + 2) = some (.row [.i .i64 x.kind, n1, c1, .b x.opn] true)) (g6 : G.get (H.nx + 3) = some (.row [.i .i64 y.kind, n2, c2, .b y.opn] true))
    (t0 : T.get 0 = some (.p pm 0)) (t3 : T.get 3 = some (.p H.nx 0)) (t4 : T.get 4 = some (.p (H.nx + 1) 0)) (t5 : T.get 5 = some (.p (H.nx + 2) 0)) (t6 : T.get 6 = some (.p (H.nx + 3) 0)) (t7 : T.get 7 = some (.i .i64 (loK p.join))) (t8 : T.get 8 = some (.i .i64 (hiK p.join))) :
    runO r30_7 T G (seqK (run (.mask [0, 3, 4, 5, 6, 7, 8, 44] (.cond (.t 44) (.seq (.region r30_8) .ret) (.seq (.region r30_9) (.mask [0, 3, 4, 5, 6, 8, 62] (.cond (.t 62) (.seq (.region r30_10) .ret) (.seq (.region r30_11) (.mask [0, 3, 4, 5, 6, 8, 80] (.cond (.t 80) (.seq (.region r30_12) .ret) (.seq (.region r30_13) (.mask [0, 3, 4, 5, 6, 88] (.cond (.t 88) (.seq (.draw d30_14) (.mask [0, 3, 4, 5, 6, 9] (.seq (.draw d30_15) .ret))) (.seq (.region r30_16) (.mask [0, 3, 4, 5, 6, 122] (.cond (.t 122) (.seq (.draw d30_17) .ret) (.seq (.region r30_18) (.mask [0, 3, 4, 5, 6, 138] (.cond (.t 138) (.seq (.draw d30_19) .ret) (.seq (.region r30_20) (.mask [0, 3, 4, 5, 6, 150] (.cond (.t 150) (.seq (.region r30_21) (.mask [0, 3, 4, 10, 11] (.seq (.region r30_22) .ret))) .skip)))))))))))))))))))))
      (blkK 0 (seqK (run (.mask [4, 5] (.seq (.region r30_23) .ret))) (retK [.cell 4 4 true] (HR X H d pm sm a b lv fv ps hs lf (shape2 x y p)))))) := by
  have mG := m.fr f (by simp)
  have hca := hA.cells
  have hcb := hB.cells
  have hxl := m.ex.nx
  have ex := mG.ex
  have lj : aLoad G (.p H.nx 2) 1 false = some (.b p.join) := by rw [load_row g3]; rfl
  have lpa : aLoad G (.p H.nx 0) 1 false = some (.i .i64 p.a) := by rw [load_row g3]; rfl
  have lpb : aLoad G (.p H.nx 1) 1 false = some (.i .i64 p.b) := by rw [load_row g3]; rfl
  have l3 : aLoad G (.p H.nx 0) 3 true = some (.agg (ptC p)) := by rw [load_agg (o := 0) (n := 3) g3 (by simp [ptC])]; rfl
  have k5 : aLoad G (.p (H.nx + 2) 0) 1 false = some (.i .i64 x.kind) := by rw [load_row g5]; rfl
  have k6 : aLoad G (.p (H.nx + 3) 0) 1 false = some (.i .i64 y.kind) := by rw [load_row g6]; rfl
  have fin : ∀ (s : Shape) (v : AVal) (H2 : Heap), HR X G d pm sm a b lv fv ps hs lf s v H2 → ∃ H3, aStore H2 (.p (H.nx + 1) 0) v 4 = some H3 ∧ aLoad H3 (.p (H.nx + 1) 0) 4 true = some v ∧ HR X H d pm sm a b lv fv ps hs lf s v H3 := fun s v H2 h => h.store f m ⟨by omega, by omega⟩ g4 rfl
  have fin2 : ∀ (H1 : Heap) (s : Shape) (v : AVal) (H2 : Heap), Ex G H1 → HR X H1 d pm sm a b lv fv ps hs lf s v H2 → ∃ H3, aStore H2 (.p (H.nx + 1) 0) v 4 = some H3 ∧ aLoad H3 (.p (H.nx + 1) 0) 4 true = some v ∧ HR X H d pm sm a b lv fv ps hs lf s v H3 := fun H1 s v H2 he h => by
    have hf : Fr [] H H1 := ⟨by have := he.nx; omega, fun i hi hs o ho => he.get i (by omega) o (f.old i hi hs o ho)⟩
    exact h.store hf m ⟨by omega, by have := he.nx; omega⟩ (he.get _ (by omega) _ g4) rfl
  obtain ⟨lc, l1, _⟩ := m.ll
  have lvlt : ∀ i, sid lv = some i → i < H.nx := fun i hi => l1.sid_lt hi
  have fvlt : ∀ i, sid fv = some i → i < H.nx := fun i hi => m.qq.sid_lt hi
  have loc : ∀ i, H.nx ≤ i → some i ∉ own4 pm sm lv fv := fun i hi hm => by
    have := m.pml.2
    have := m.sml.2.1
    simp only [own4, List.mem_cons, List.mem_nil_iff, or_false, Option.some.injEq] at hm
    rcases hm with h | h | h | h
    · omega
    · omega
    · have := lvlt i h.symm; omega
    · have := fvlt i h.symm; omega
  refine reg30_7 t5 t6 t7 t8 g5 g6 fun T1 hk1 h44 => ?_
  have a0 := (hk1 0 (by simp)).trans t0
  have a3 := (hk1 3 (by simp)).trans t3
  have a4 := (hk1 4 (by simp)).trans t4
  have a5 := (hk1 5 (by simp)).trans t5
  have a6 := (hk1 6 (by simp)).trans t6
  have a7 := (hk1 7 (by simp)).trans t7
  have a8 := (hk1 8 (by simp)).trans t8
  by_cases cc1 : x.kind = loK p.join ∨ y.kind = hiK p.join
  · have hsh : shape2 x y p = sideS ⟨-1, p.b, p.join⟩ y := by simp only [shape2, if_pos cc1]
    rw [hsh]
    rw [decide_eq_true cc1] at h44
    have hpt : AVal.agg [.i .i64 (-1), .i .i64 p.b, .b p.join] = .agg (ptC ⟨-1, p.b, p.join⟩) := rfl
    simp [h44, r30_8, a0, a3, a4, lj, lpb, aFill, splice]
    rw [hpt]
    refine Call.mono (call45 (p := ⟨-1, p.b, p.join⟩) (h := y) mG hA hB (.inr ⟨by simp only; omega, i2, hp2, hi2⟩) (by omega) (by omega) (by omega) hlf) ?_
    rintro v H2 _ hr
    obtain ⟨H3, st, ld, hfin⟩ := fin _ _ _ hr
    simp [kC, a4, st, ld]
    exact hfin
  rw [decide_eq_false cc1] at h44
  simp [h44]
  refine reg30_9 a5 a6 a7 a8 g5 g6 fun T2 hk2 h62 => ?_
  have b0 := (hk2 0 (by simp)).trans a0
  have b3 := (hk2 3 (by simp)).trans a3
  have b4 := (hk2 4 (by simp)).trans a4
  have b5 := (hk2 5 (by simp)).trans a5
  have b6 := (hk2 6 (by simp)).trans a6
  have b8 := (hk2 8 (by simp)).trans a8
  by_cases cc2 : y.kind = loK p.join ∨ x.kind = hiK p.join
  · have hsh : shape2 x y p = sideS ⟨p.a, -1, p.join⟩ x := by simp only [shape2, if_neg cc1, if_pos cc2]
    rw [hsh]
    rw [decide_eq_true cc2] at h62
    have hpt : AVal.agg [.i .i64 p.a, .i .i64 (-1), .b p.join] = .agg (ptC ⟨p.a, -1, p.join⟩) := rfl
    simp [h62, r30_10, b0, b3, b4, lj, lpa, aFill, splice]
    rw [hpt]
    refine Call.mono (call45 (p := ⟨p.a, -1, p.join⟩) (h := x) mG hA hB (.inl ⟨by simp only; omega, i1, hp1, hi1⟩) (by omega) (by omega) (by omega) hlf) ?_
    rintro v H2 _ hr
    obtain ⟨H3, st, ld, hfin⟩ := fin _ _ _ hr
    simp [kC, b4, st, ld]
    exact hfin
  rw [decide_eq_false cc2] at h62
  simp [h62, r30_11, b5, b6, k5, k6, aEq]
  by_cases cc3 : x.kind = y.kind
  rotate_left
  · have hsh : shape2 x y p = ⟨hiK p.join, [], false, []⟩ := by simp only [shape2, if_neg cc1, if_neg cc2, ne_eq, cc3, not_false_eq_true, if_true]
    rw [hsh]
    have hne : (x.kind != y.kind) = true := by simp [cc3]
    obtain ⟨H3, st, ld, hfin⟩ := fin _ _ _ (HR.const mG ⟨Nat.le_refl _, fun _ _ _ _ h => h⟩ (hiK p.join))
    simp [hne, r30_12, b8, b4, aFill, splice, st, ld]
    exact hfin
  have hee : (x.kind != y.kind) = false := by simp [cc3]
  simp [hee, r30_13, b5, k5, aEq]
  by_cases cc7 : x.kind = 7
  · have hsh : shape2 x y p = ⟨7, [], false, [⟨x.kids.getD 0 0, y.kids.getD 0 0, !p.join⟩, ⟨x.kids.getD 1 0, y.kids.getD 1 0, p.join⟩]⟩ := by unfold shape2; rw [if_neg cc1, if_neg cc2, if_neg (fun h => h cc3), if_pos cc7]
    rw [hsh]
    have h7 : (x.kind == 7) = true := by simp [cc7]
    have hx2 : x.kids.length = 2 := by
      rcases o1.form.2 with ⟨_, _, h⟩ | ⟨h, _⟩ | ⟨_, h, _⟩
      · exact h
      · omega
      · omega
    have hy2 : y.kids.length = 2 := by
      rcases o2.form.2 with ⟨_, _, h⟩ | ⟨h, _⟩ | ⟨_, h, _⟩
      · exact h
      · omega
      · omega
    have two : ∀ l : List Int, l.length = 2 → ∃ u w, l = [u, w] := fun l hl => by
      match l, hl with
      | [u, w], _ => exact ⟨u, w, rfl⟩
    obtain ⟨u0, u1, hxk⟩ := two _ hx2
    obtain ⟨w0, w1, hyk⟩ := two _ hy2
    rw [hxk] at xk1
    rw [hyk] at xk2
    have sd : ∀ {v : AVal} {u w : Int}, Ints X v [u, w] → sidx 1 v (.i .i64 0) = some (sptr 1 v 0) ∧ aLoad G (sptr 1 v 0) 1 false = some (.i .i64 u) ∧ sidx 1 v (.i .i64 1) = some (sptr 1 v 1) ∧ ∀ G', Ex X G' → aLoad G' (sptr 1 v 1) 1 false = some (.i .i64 w) := fun {v u w} h => by
      have e0 := sidx_at (es := 1) (j := 0) (k := .i64) h.len' (by simp)
      have e1 := sidx_at (es := 1) (j := 1) (k := .i64) h.len' (by simp)
      exact ⟨by simpa using e0, (h.ex ex).get rfl, by simpa using e1, fun G' he => (h.ex he).get rfl⟩
    obtain ⟨x1, x2, x3, x4⟩ := sd xk1
    obtain ⟨y1, y2, y3, y4⟩ := sd xk2
    simp only [hxk, hyk, List.getD_cons_zero, List.getD_cons_succ]
    have kk5 : ∀ G', (G'.get (H.nx + 2) = some (.row [.i .i64 x.kind, n1, c1, .b x.opn] true)) → aLoad G' (.p (H.nx + 2) 2) 1 false = some c1 := fun G' h => by rw [load_row h]; rfl
    have kk6 : ∀ G', (G'.get (H.nx + 3) = some (.row [.i .i64 y.kind, n2, c2, .b y.opn] true)) → aLoad G' (.p (H.nx + 3) 2) 1 false = some c2 := fun G' h => by rw [load_row h]; rfl
    have kkj : ∀ G', (G'.get H.nx = some (.row (ptC p) true)) → aLoad G' (.p H.nx 2) 1 false = some (.b p.join) := fun G' h => by rw [load_row h]; rfl
    have hpt : AVal.agg [.i .i64 u0, .i .i64 w0, .b (!p.join)] = .agg (ptC ⟨u0, w0, !p.join⟩) := rfl
    have hpt1 : AVal.agg [.i .i64 u1, .i .i64 w1, .b p.join] = .agg (ptC ⟨u1, w1, p.join⟩) := rfl
    simp only [h7, d30_14, cndK_true, ev_t, Tr.get_put, if_true]
    simp [b0, b3, b5, b6, kk5 G g5, kk6 G g6, lj, x1, x2, y1, y2, aFill, splice]
    rw [hpt]
    obtain ⟨q0, hq0⟩ : ∃ q, q = (⟨u0, w0, !p.join⟩ : Pt) := ⟨_, rfl⟩
    obtain ⟨q1, hq1⟩ : ∃ q, q = (⟨u1, w1, p.join⟩ : Pt) := ⟨_, rfl⟩
    rw [← hq0, ← hq1]
    rw [← hq1] at hpt1
    refine Call.mono (call29 (p := q0) mG (by omega) hlf hca hcb) ?_
    rintro v0 G1 _ ⟨rfl, lv1, fv1, m1, fr1, sl1, sf1⟩
    have nG1 := fr1.nx
    have g31 := fr1.old _ (by omega) (loc _ (by omega)) _ g3
    have g51 := fr1.old _ (by omega) (loc _ (by omega)) _ g5
    have g61 := fr1.old _ (by omega) (loc _ (by omega)) _ g6
    simp only [qC]
    refine ⟨by simp, StillL.still (by simp [StillL]), ?_⟩
    simp [d30_15, b0, b3, b4, b5, b6, kk5 G1 g51, kk6 G1 g61, kkj G1 g31, x3, y3, x4 G1 m1.ex, y4 G1 m1.ex, aFill, splice]
    rw [hpt1]
    have hle1 := addP_le q0 ps
    refine Call.mono (call29 (p := q1) m1 (by have : (nmL q0 ps q0 ps).length ≤ ps.length + 1 := hle1; omega) ?_ hca hcb) ?_
    · unfold nmL; split
      · exact hlf
      · simp; exact hlf
    rintro v1 G2 _ ⟨rfl, lv2, fv2, m2, fr2, sl2, sf2⟩
    obtain ⟨H3, st, ld, hfin⟩ := fin _ _ _ (HR.two (k := 7) mG fr1 sl1 sf1 m2 fr2 sl2 sf2)
    simp only [qC]
    refine ⟨by simp, StillL.still (by simp [StillL, stR]), ?_⟩
    have hdr : List.drop 2 (List.map (fun i => ([AVal.i .i64 0] : List AVal)[i % 1]?.getD AVal.ni) (List.range 2)) = [] := rfl
    simp [n_bsl, aFill, splice, b4, hdr, st, ld]
    exact hfin
  have h7 : (x.kind == 7) = false := by simp [cc7]
  have ln1 : ∀ G', (G'.get (H.nx + 2) = some (.row [.i .i64 x.kind, n1, c1, .b x.opn] true)) → aLoad G' (.p (H.nx + 2) 1) 1 false = some n1 := fun G' h => by rw [load_row h]; rfl
  have ln2 : ∀ G', (G'.get (H.nx + 3) = some (.row [.i .i64 y.kind, n2, c2, .b y.opn] true)) → aLoad G' (.p (H.nx + 3) 1) 1 false = some n2 := fun G' h => by rw [load_row h]; rfl
  have l3' : ∀ G', (G'.get H.nx = some (.row (ptC p) true)) → aLoad G' (.p H.nx 0) 3 true = some (.agg (ptC p)) := fun G' h => by rw [load_agg (o := 0) (n := 3) h (by simp [ptC])]; rfl
  have named : ∀ (G1 : Heap) (nl : AVal) (nms : List (List Nat)) (opn : Bool), Ex G G1 → Strs G1 nl nms → Outs (own4 pm sm lv fv) nl → nms.length < 100000 → Call 46 [.p pm 0, .agg (ptC p), nl, .b opn] G1 (HR X G1 d pm sm a b lv fv ps hs lf (namS p x y nms opn)) := fun G1 nl nms opn he h1 h2 h3 =>
    call46 (mG.fr (S := []) ⟨he.nx, fun i hi _ o ho => he.get i hi o ho⟩ (by simp)) hA hB hp1 hi1 hp2 hi2 o1.up o2.up o1.le o2.le (by omega) (by omega) h1 h2 h3 (by omega) hlf
  have newO : ∀ (v : AVal), (∀ i, sid v = some i → G.nx ≤ i) → Outs (own4 pm sm lv fv) v := fun v h => by
    cases hv : sid v with
    | none => exact .inl hv
    | some i => exact .inr (by rw [hv]; exact loc i (by have := h i hv; omega))
  have oldO : ∀ (v : AVal) (l : List (List Nat)), Strs X v l → ∀ i, sid v = some i → some i ∉ own4 pm sm lv fv := fun v l h i hi hm => by
    have h2 := h.ins
    have hix : i < X.nx := by
      cases v <;> simp only [slin] at h2 <;> simp [K.sid] at hi
      omega
    have := m.pml.1
    have := m.sml.1
    simp only [own4, List.mem_cons, List.mem_nil_iff, or_false, Option.some.injEq] at hm
    rcases hm with h | h | h | h
    · omega
    · omega
    · have := (m.sl i h.symm).1; omega
    · have := (m.sf i h.symm).1; omega
  have hbl : (bothN x.names y.names).length < 100000 := by
    unfold bothN
    have := List.length_filter_le (fun a => y.names.any fun b => a == b) x.names; omega
  have hul : (unionN x.names y.names).length < 100000 := by
    have h1 := compN_le (sortN (x.names ++ y.names))
    have h2 : (sortN (x.names ++ y.names)).length = (x.names ++ y.names).length := by unfold sortN; exact List.length_mergeSort _
    rw [List.length_append] at h2
    unfold unionN; omega
  simp only [h7]
  by_cases c8 : x.kind = 8
  · have h8 : (x.kind == 8) = true := by simp [c8]
    cases hj : p.join with
    | true =>
      have hsh : shape2 x y p = namS p x y (bothN x.names y.names) false := by unfold shape2; rw [if_neg cc1, if_neg cc2, if_neg (fun h => h cc3), if_neg cc7, if_pos c8, if_pos hj]
      rw [hsh]
      rw [hj] at lj
      simp [r30_16, b3, b5, k5, aEq, h8, lj]
      simp [d30_17, b0, b3, b4, b5, b6, l3' G g3, ln1 G g5, ln2 G g6]
      refine Call.mono (call47 (xn1.ex ex) (xn2.ex ex) (by omega) (by omega)) ?_
      rintro v G1 _ ⟨he, hv, hvs⟩
      have q3 := l3' G1 (he.get _ (by omega) _ g3)
      simp only [qC]
      refine ⟨by simp, StillL.still (by simp [StillL, stR, b3, l3' G g3, q3]), ?_⟩
      simp
      refine Call.mono (named G1 v _ false he hv (newO v hvs) hbl) ?_
      rintro w H2 _ hr
      obtain ⟨H3, st, ld, hfin⟩ := fin2 _ _ _ _ he hr
      simp only [qC]
      refine ⟨by simp, StillL.still (by simp [StillL]), ?_⟩
      simp [b4, st, ld]
      exact hfin
    | false =>
      have hsh : shape2 x y p = namS p x y (unionN x.names y.names) false := by unfold shape2; rw [if_neg cc1, if_neg cc2, if_neg (fun h => h cc3), if_neg cc7, if_pos c8, if_neg (by simp [hj])]
      rw [hsh]
      rw [hj] at lj
      simp [r30_16, b3, b5, k5, aEq, h8, lj]
      simp [r30_18, b5, k5, aEq, h8]
      simp [d30_19, b0, b3, b4, b5, b6, l3' G g3, ln1 G g5, ln2 G g6]
      refine Call.mono (call48 (xn1.ex ex) (xn2.ex ex) (by omega) (by omega)) ?_
      rintro v G1 _ ⟨he, hv, hvs⟩
      have q3 := l3' G1 (he.get _ (by omega) _ g3)
      simp only [qC]
      refine ⟨by simp, StillL.still (by simp [StillL, stR, b3, l3' G g3, q3]), ?_⟩
      simp
      refine Call.mono (named G1 v _ false he hv (newO v hvs) hul) ?_
      rintro w H2 _ hr
      obtain ⟨H3, st, ld, hfin⟩ := fin2 _ _ _ _ he hr
      simp only [qC]
      refine ⟨by simp, StillL.still (by simp [StillL]), ?_⟩
      simp [b4, st, ld]
      exact hfin
  have h8 : (x.kind == 8) = false := by simp [c8]
  simp [r30_16, b3, b5, k5, aEq, h8]
  simp [r30_18, b5, k5, aEq, h8]
  by_cases c9 : x.kind = 9
  · have h9 : (x.kind == 9) = true := by simp [c9]
    have hsh : shape2 x y p = namS p x y (varN x y p.join).1 (varN x y p.join).2 := by unfold shape2; rw [if_neg cc1, if_neg cc2, if_neg (fun h => h cc3), if_neg cc7, if_neg c8, if_pos c9]
    rw [hsh]
    have la5 : aLoad G (.p (H.nx + 2) 0) 4 true = some (.agg [.i .i64 x.kind, n1, c1, .b x.opn]) := by rw [load_agg (o := 0) (n := 4) g5 (by simp)]; rfl
    have la6 : aLoad G (.p (H.nx + 3) 0) 4 true = some (.agg [.i .i64 y.kind, n2, c2, .b y.opn]) := by rw [load_agg (o := 0) (n := 4) g6 (by simp)]; rfl
    simp [r30_20, b5, k5, aEq, h9]
    simp [r30_21, b0, b3, b4, b5, b6, la5, la6, lj]
    refine Call.mono (call49 (xn1.ex ex) (xk1.ex ex) (xn2.ex ex) (xk2.ex ex) (by omega) (by omega)) ?_
    rintro v G1 _ ⟨he, w, rfl, hw, hws⟩
    have q3 := l3' G1 (he.get _ (by omega) _ g3)
    simp [kC, r30_22, b0, b3, b4, q3]
    refine Call.mono (named G1 w _ (varN x y p.join).2 he hw ?_ ?_) ?_
    · cases hv : sid w with
      | none => exact .inl hv
      | some i =>
        refine .inr ?_
        rw [hv]
        rcases hws i hv with h | h | h
        · exact loc i (by omega)
        · exact oldO _ _ xn1 i h
        · exact oldO _ _ xn2 i h
    · unfold varN
      split <;> (try split) <;> (try split) <;> (try split) <;> (try split) <;> (try split) <;> (try split) <;> simp only <;> omega
    rintro w H2 _ hr
    obtain ⟨H3, st, ld, hfin⟩ := fin2 _ _ _ _ he hr
    simp [kC, b4, st, ld]
    exact hfin
  have h9 : (x.kind == 9) = false := by simp [c9]
  have hsh : shape2 x y p = ⟨x.kind, [], false, []⟩ := by unfold shape2; rw [if_neg cc1, if_neg cc2, if_neg (fun h => h cc3), if_neg cc7, if_neg c8, if_neg c9]
  rw [hsh]
  obtain ⟨H3, st, ld, hfin⟩ := fin _ _ _ (HR.const mG ⟨Nat.le_refl _, fun _ _ _ _ h => h⟩ x.kind)
  simp [r30_20, b5, k5, aEq, h9, r30_23, b4, aFill, splice, st, ld]
  exact hfin

theorem call30 {X H : Heap} {d pm sm : Nat} {a b lv fv : AVal} {ps : List Pt} {hs : List Hd} {lf : List Pt} {A B : List Hd} {p : Pt} (m : MK X H d pm sm a b lv fv ps hs lf) (hA : Hds X a A) (hB : Hds X b B)
    (oA : ∀ (i : Nat) h, A[i]? = some h → HOk A.length h ∧ h.names.length < 40000 ∧ h.kids.length < 40000) (oB : ∀ (i : Nat) h, B[i]? = some h → HOk B.length h ∧ h.names.length < 40000 ∧ h.kids.length < 40000)
    (hp : POk A B p) (hpn : ps.length < 600000) (hlf : lf.length ≤ ps.length) :
    Call 30 [.p pm 0, .agg (ptC p)] H (HR X H d pm sm a b lv fv ps hs lf (shape A B p)) := by
  have hca := hA.cells
  have hcb := hB.cells
  obtain ⟨pm1, pm2⟩ := m.pml
  obtain ⟨sm1, sm2, sm3⟩ := m.sml
  obtain ⟨lc, l1, _⟩ := m.ll
  have lvlt : ∀ i, sid lv = some i → i < H.nx := fun i hi => l1.sid_lt hi
  have fvlt : ∀ i, sid fv = some i → i < H.nx := fun i hi => m.qq.sid_lt hi
  have hxl := m.ex.nx
  have hdl := m.dl
  refine Call.by (a := a30) rfl (by simp [a30]) ?_
  simp [a30, c30, r30_0]
  obtain ⟨H1, hH1⟩ : ∃ P, P = (H.push (.row (ptC p) true)).push (.row [.i .i64 0, .nsl, .nsl, .b false] true) := ⟨_, rfl⟩
  have n1 : H1.nx = H.nx + 2 := by rw [hH1]; rfl
  have old1 : ∀ i, i < H.nx → H1.get i = H.get i := fun i hi => by rw [hH1, get_push_old (by simp; omega), get_push_old hi]
  have g3 : H1.get H.nx = some (.row (ptC p) true) := by rw [hH1, get_push_old (by simp)]; simp
  have g4 : H1.get (H.nx + 1) = some (.row [.i .i64 0, .nsl, .nsl, .b false] true) := by rw [hH1]; exact get_push_nx _ _
  have fr1 : Fr [] H H1 := Fr.eq (by omega) fun i hi _ => old1 i hi
  have m1 := m.fr fr1 (by simp)
  have ex1 := m1.ex
  rw [← hH1]
  refine reg30_1 (p := p) (q3 := H.nx) (by simp) g3 fun T0 hk0 h19 => ?_
  have s0 := hk0 0 (by simp)
  have s3 := hk0 3 (by simp)
  have s4 := hk0 4 (by simp)
  simp at s0 s3 s4
  have l3 : aLoad H1 (.p H.nx 0) 3 true = some (.agg (ptC p)) := by rw [load_agg (o := 0) (n := 3) g3 (by simp [ptC])]; rfl
  rcases hp with ⟨pa, pb, pn⟩
  by_cases hside : p.a < 0 ∨ p.b < 0
  · have hor : (decide (p.a < 0) || decide (p.b < 0)) = true := by simpa using hside
    rw [hor] at h19
    obtain ⟨h, hsh, hcase, hlim⟩ : ∃ h, shape A B p = sideS p h ∧ ((p.b < 0 ∧ ∃ i : Nat, p.a = (i : Int) ∧ A[i]? = some h) ∨ (¬ p.b < 0 ∧ ∃ i : Nat, p.b = (i : Int) ∧ B[i]? = some h)) ∧ h.names.length < 40000 ∧ h.kids.length < 40000 := by
      rcases pb with pb | ⟨j, pb, hj⟩
      · rcases pa with pa | ⟨i, pa, hi⟩
        · exact absurd ⟨pa, pb⟩ pn
        · obtain ⟨h, hh⟩ : ∃ y, A[i]? = some y := ⟨_, List.getElem?_eq_getElem hi⟩
          refine ⟨h, ?_, .inl ⟨by omega, i, pa, hh⟩, (oA i h hh).2⟩
          have e1 : hdA A p.a = some h := by unfold hdA; rw [if_neg (by omega), pa]; exact hh
          have e2 : hdA B p.b = none := by unfold hdA; rw [if_pos (by omega)]
          simp only [shape, e1, e2]
      · rcases pa with pa | ⟨i, pa, hi⟩
        · obtain ⟨h, hh⟩ : ∃ y, B[j]? = some y := ⟨_, List.getElem?_eq_getElem hj⟩
          refine ⟨h, ?_, .inr ⟨by omega, j, pb, hh⟩, (oB j h hh).2⟩
          have e1 : hdA A p.a = none := by unfold hdA; rw [if_pos (by omega)]
          have e2 : hdA B p.b = some h := by unfold hdA; rw [if_neg (by omega), pb]; exact hh
          simp only [shape, e1, e2]
        · omega
    rw [hsh]
    simp [h19, r30_2, s0, s3, s4, l3]
    refine Call.mono (call45 m1 hA hB hcase (by omega) (by omega) (by omega) hlf) ?_
    rintro v H2 _ hr
    obtain ⟨H3, st, ld, fin⟩ := hr.store fr1 m ⟨by omega, by omega⟩ g4 rfl
    simp [kC, s4, st, ld]
    exact fin
  · have hor : (decide (p.a < 0) || decide (p.b < 0)) = false := by
      rw [not_or] at hside
      simpa using hside
    rw [hor] at h19
    rw [not_or] at hside
    obtain ⟨i1, hp1, hil1⟩ : ∃ i : Nat, p.a = i ∧ i < A.length := by
      rcases pa with pa | pa
      · omega
      · exact pa
    obtain ⟨i2, hp2, hil2⟩ : ∃ i : Nat, p.b = i ∧ i < B.length := by
      rcases pb with pb | pb
      · omega
      · exact pb
    obtain ⟨x, hi1⟩ : ∃ y, A[i1]? = some y := ⟨_, List.getElem?_eq_getElem hil1⟩
    obtain ⟨y, hi2⟩ : ∃ y, B[i2]? = some y := ⟨_, List.getElem?_eq_getElem hil2⟩
    have hsh : shape A B p = shape2 x y p := by
      have e1 : hdA A p.a = some x := by unfold hdA; rw [if_neg (by omega), hp1]; exact hi1
      have e2 : hdA B p.b = some y := by unfold hdA; rw [if_neg (by omega), hp2]; exact hi2
      simp only [shape, e1, e2]
    rw [hsh]
    have go1 : H1.get pm = some (.row [a, b, .m sm, lv, fv] true) := m1.ob
    have lpa : aLoad H1 (.p H.nx 0) 1 false = some (.i .i64 p.a) := by rw [load_row g3]; rfl
    have lpb : aLoad H1 (.p H.nx 1) 1 false = some (.i .i64 p.b) := by rw [load_row g3]; rfl
    obtain ⟨v1, c1, e1', xn1, xk1⟩ := hA.headA hi1
    have e1 := e1' H1 ex1
    obtain ⟨v2, c2, e2', xn2, xk2⟩ := hB.headA hi2
    have e2 := e2' H1 ex1
    have la : aLoad H1 (.p pm 0) 1 false = some a := by rw [load_row go1]; rfl
    have lb : aLoad H1 (.p pm 1) 1 false = some b := by rw [load_row go1]; rfl
    obtain ⟨H2, hH2⟩ : ∃ P, P = (H1.push (.row [.i .i64 0, .nsl, .nsl, .b false] true)).push (.row [.i .i64 0, .nsl, .nsl, .b false] true) := ⟨_, rfl⟩
    have n2 : H2.nx = H.nx + 4 := by rw [hH2]; simp; omega
    have old2 : ∀ i, i < H.nx + 2 → H2.get i = H1.get i := fun i hi => by rw [hH2, get_push_old (by simp; omega), get_push_old (by omega)]
    have g52 : H2.get (H.nx + 2) = some (.row [.i .i64 0, .nsl, .nsl, .b false] true) := by rw [hH2, get_push_old (by simp; omega), ← n1]; exact get_push_nx _ _
    have g62 : H2.get (H.nx + 3) = some (.row [.i .i64 0, .nsl, .nsl, .b false] true) := by
      rw [hH2, show H.nx + 3 = (H1.push (.row [.i .i64 0, .nsl, .nsl, .b false] true)).nx by simp; omega]; exact get_push_nx _ _
    obtain ⟨H3, hH3⟩ : ∃ P, P = H2.put (H.nx + 2) (.row [.i .i64 x.kind, v1, c1, .b x.opn] true) := ⟨_, rfl⟩
    have st5 : aStore H2 (.p (H.nx + 2) 0) (.agg [.i .i64 x.kind, v1, c1, .b x.opn]) 4 = some H3 := by
      rw [hH3]; simp [aStore, g52, splice]
    have old3 : ∀ i, i ≠ H.nx + 2 → H3.get i = H2.get i := fun i hi => by rw [hH3, Heap.get_put, if_neg hi]
    have g63 := (old3 (H.nx + 3) (by omega)).trans g62
    obtain ⟨H4, hH4⟩ : ∃ P, P = H3.put (H.nx + 3) (.row [.i .i64 y.kind, v2, c2, .b y.opn] true) := ⟨_, rfl⟩
    have st6 : aStore H3 (.p (H.nx + 3) 0) (.agg [.i .i64 y.kind, v2, c2, .b y.opn]) 4 = some H4 := by
      rw [hH4]; simp [aStore, g63, splice]
    have old4 : ∀ i, i ≠ H.nx + 3 → H4.get i = H3.get i := fun i hi => by rw [hH4, Heap.get_put, if_neg hi]
    have n4 : H4.nx = H.nx + 4 := by rw [hH4, nx_put', hH3, nx_put', n2]
    have ex2 : Ex H1 H2 := ⟨by omega, fun i hi o ho => by rw [old2 i (by omega)]; exact ho⟩
    have ex3 : Ex H1 H3 := ⟨by rw [hH3, nx_put']; omega, fun i hi o ho => by rw [old3 i (by omega), old2 i (by omega)]; exact ho⟩
    have qb2 := load_ex ex2 (by omega) lb
    have qpb2 := load_ex ex2 (by omega) lpb
    have qb3 := load_ex ex3 (by omega) lb
    have qpb3 := load_ex ex3 (by omega) lpb
    have e22 := e2' H2 (ex1.trans ex2)
    have e23 := e2' H3 (ex1.trans ex3)
    have old : ∀ i, i < H.nx + 2 → H4.get i = H1.get i := fun i hi => by rw [old4 i (by omega), old3 i (by omega), old2 i hi]
    have g54 : H4.get (H.nx + 2) = some (.row [.i .i64 x.kind, v1, c1, .b x.opn] true) := by rw [old4 _ (by omega), hH3, Heap.get_put, if_pos rfl]
    have g64 : H4.get (H.nx + 3) = some (.row [.i .i64 y.kind, v2, c2, .b y.opn] true) := by rw [hH4, Heap.get_put, if_pos rfl]
    have g34 := (old _ (by omega)).trans g3
    have g44 := (old _ (by omega)).trans g4
    have fr4 : Fr [] H H4 := Fr.eq (by omega) fun i hi _ => by rw [old i (by omega), old1 i hi]
    simp [h19, s0, s3, s4, d30_3, la, lb, lpa, lpb, hp1, hp2, sidx_at hA.len hil1, sidx_at hB.len hil2, e1, e2]
    rw [← hH2]
    simp [n1, st5]
    refine ⟨StillL.still (by simp [StillL, stR, s0, s3, qb2, qb3, qpb2, qpb3, hp2, e22, e23]), ?_⟩
    simp [st6]
    have lj : aLoad H4 (.p H.nx 2) 1 false = some (.b p.join) := by rw [load_row g34]; rfl
    have oa := oA i1 x hi1
    have ob := oB i2 y hi2
    cases hj : p.join with
    | true =>
      rw [hj] at lj
      simp [r30_4, r30_5, s3, lj]
      refine tail30 m hA hB fr4 n4 hp1 hi1 hp2 hi2 oa.1 ob.1 oa.2 ob.2 hpn hlf xn1 xk1 xn2 xk2 g34 g44 g54 g64 ?_ ?_ ?_ ?_ ?_ ?_ ?_ <;> simp [s0, s3, s4, hj, loK, hiK]
    | false =>
      rw [hj] at lj
      simp [r30_4, r30_5, r30_6, s3, lj]
      refine tail30 m hA hB fr4 n4 hp1 hi1 hp2 hi2 oa.1 ob.1 oa.2 ob.2 hpn hlf xn1 xk1 xn2 xk2 g34 g44 g54 g64 ?_ ?_ ?_ ?_ ?_ ?_ ?_ <;> simp [s0, s3, s4, hj, loK, hiK]

end
end K
end Go.Proofs.YtlgbgbngdhhjaaaGreatDoor
