/- Whatever the arguments, the law azimuthlaw11.LatticeAll answers true and leaves them as they read: the join of a row is above each of it and below what all are below; likewise the meet. Condition: the three variables of the library that the row lists hold what the program's text lays (the card ties that). -/
import Derived.Test.YtlgbgbngdhhjaaaGreatDoorB12
import Derived.Test.YtlgbgbngdhhjaaaGreatDoorB18
import Derived.Test.YtlgbgbngdhhjaaaGreatDoorCards
set_option linter.unusedSimpArgs false
set_option linter.unusedVariables false
set_option maxRecDepth 10000
namespace Go.Proofs.YtlgbgbngdhhjaaaGreatDoor
namespace K
noncomputable section
open Go AM

theorem rg_basic {k : Int} (hk : k = 5 ∨ k = 6) : RG (basicG k) := (rightB_iff _).1 (by rcases hk with rfl | rfl <;> decide)
theorem basic_at {k : Int} {i : Nat} {h : Hd} (hi : (basicG k).l[i]? = some h) : i = 0 ∧ h = ⟨k, [], [], false⟩ := by
  have h0 : i < 1 := (List.getElem?_eq_some_iff.1 hi).1
  obtain rfl : i = 0 := by omega
  exact ⟨rfl, (Option.some.inj hi).symm⟩
theorem nm_basic (k : Int) : Nm 0 (basicG k) := ⟨fun i h hi => by
  obtain ⟨_, rfl⟩ := basic_at hi
  exact ⟨Nat.le_refl _, fun s hs => by simp at hs⟩⟩

theorem basic_least {c : Gr} (oc : Ok c) : Below (basicG 6) c := by
  refine below_bel.2 ((Bel.co (rg_basic (.inr rfl)).ok.okL oc.okL (fun i j => i = 0 ∧ j < c.l.length) (fun _ _ => False) ?_ ?_ ?_ ?_).1 _ _ ⟨rfl, by have := oc.r0; have := oc.r1; omega⟩)
  · rintro i j ⟨rfl, h⟩
    exact ⟨by show 0 < 1; omega, h⟩
  · intro j i h
    exact h.elim
  · intro i j h k hi hj _
    obtain ⟨_, rfl⟩ := basic_at hi
    exact .inl rfl
  · intro i j h k hi hj h'
    exact h'.elim

theorem basic_greatest {c : Gr} (oc : Ok c) : Below c (basicG 5) := by
  refine below_bel.2 ((Bel.co oc.okL (rg_basic (.inl rfl)).ok.okL (fun i j => i < c.l.length ∧ j = 0) (fun _ _ => False) ?_ ?_ ?_ ?_).1 _ _ ⟨by have := oc.r0; have := oc.r1; omega, rfl⟩)
  · rintro i j ⟨h, rfl⟩
    exact ⟨h, by show 0 < 1; omega⟩
  · intro j i h
    exact h.elim
  · intro i j h k hi hj _
    obtain ⟨_, rfl⟩ := basic_at hj
    exact .inr (.inl rfl)
  · intro i j h k hi hj h'
    exact h'.elim

/-- Below, the one way or the other. -/
def Bw (join : Bool) (a b : Gr) : Prop := if join then Below a b else Below b a
theorem Bw.trans {join : Bool} {a b c : Gr} (oa : Ok a) (ob : Ok b) (oc : Ok c) (h : Bw join a b) (k : Bw join b c) : Bw join a c := by
  cases join
  · exact Below.trans oc ob oa k h
  · exact Below.trans oa ob oc h k

/-- What the join of a row is; what the meet is. -/
structure LubA (l : List Gr) (n : Gr) (join : Bool) : Prop where
  rg : RG n
  u : ∀ g ∈ l, Bw join g n
  le : ∀ c : Gr, Ok c → (∀ g ∈ l, Bw join g c) → Bw join n c

theorem LubA.nil (join : Bool) : LubA [] (basicG (if join then 6 else 5)) join := by
  refine ⟨rg_basic (by cases join <;> simp), fun g hg => by simp at hg, fun c oc _ => ?_⟩
  cases join
  · exact basic_greatest oc
  · exact basic_least oc

theorem LubA.snoc {l : List Gr} {o g n : Gr} {join : Bool} (h : LubA l o join) (hl : ∀ x ∈ l, RG x) (rg : RG g) (k : Lub o g n join) : LubA (l ++ [g]) n join := by
  refine ⟨k.rg, fun x hx => ?_, fun c oc hc => k.le c oc (h.le c oc fun x hx => hc x (by simp [hx])) (hc g (by simp))⟩
  rcases List.mem_append.1 hx with hx | hx
  · exact Bw.trans (hl x hx).ok h.rg.ok k.rg.ok (h.u x hx) k.ua
  · obtain rfl := List.mem_singleton.1 hx
    exact k.ub

theorem basic_hds {H : Heap} {q : Nat} {k : Int} (hq : q < H.nx) (hg : H.get q = some (.row [.i .i64 k, .nsl, .nsl, .b false] true)) : Hds H (.sl q 0 1 (some 1) 4) (basicG k).l := by
  refine ⟨rfl, ⟨hq, rfl⟩, fun j h hj => ?_⟩
  obtain ⟨rfl, rfl⟩ := basic_at hj
  refine ⟨[.i .i64 k, .nsl, .nsl, .b false], ?_, .nsl, .nsl, rfl, Sl.nil _ _ _, Sl.nil _ _ _⟩
  rw [sptr_sl, load_agg (n := 4) (cs := [.i .i64 k, .nsl, .nsl, .b false]) (own := true) hg (by simp)]
  rfl

theorem call23q {H : Heap} {k : Int} (hk : 0 ≤ k ∧ k ≤ 6) : Call 23 [.i .i64 k] H fun v H' => Ex H H' ∧ ∃ q, v = .agg [.sl q 0 1 (some 1) 4, .i .i64 0] ∧ H.nx ≤ q ∧ q < H'.nx ∧ H'.get q = some (.row [.i .i64 k, .nsl, .nsl, .b false] true) := by
  refine Call.by (a := a23) rfl (by simp [a23]) ?_
  have h1 : ¬ k < 0 := by omega
  have h2 : ¬ (6 : Int) < k := by omega
  obtain ⟨X, hX⟩ : ∃ P, P = (H.push (.row [.nsl, .i .i64 0] true)).push (.row [.i .i64 k, .nsl, .nsl, .b false] true) := ⟨_, rfl⟩
  have eX : Ex H X := by rw [hX]; exact ((Ex.refl _).push _).push _
  have nX : X.nx = H.nx + 2 := by rw [hX]; rfl
  have g2 : X.get H.nx = some (.row [.nsl, .i .i64 0] true) := by rw [hX, get_push_old (by simp)]; exact get_push_nx _ _
  have g3 : X.get (H.nx + 1) = some (.row [.i .i64 k, .nsl, .nsl, .b false] true) := by rw [hX]; exact get_push_nx _ _
  have st : aStore X (.p H.nx 0) (.agg [.sl (H.nx + 1) 0 1 (some 1) 4, .i .i64 0]) 2 = some (X.put H.nx (.row [.sl (H.nx + 1) 0 1 (some 1) 4, .i .i64 0] true)) := by simp [aStore, g2, splice]
  simp [a23, c23, r23_0, r23_1, h1, h2, r23_3, aFill, splice]
  rw [← hX]
  simp [st]
  rw [load_agg (o := 0) (n := 2) (cs := [.sl (H.nx + 1) 0 1 (some 1) 4, .i .i64 0]) (own := true) (by rw [Heap.get_put, if_pos rfl]) (by simp)]
  refine ⟨eX.put (Nat.le_refl _) _, H.nx + 1, rfl, by omega, by simp; omega, ?_⟩
  rw [Heap.get_put, if_neg (by omega)]; exact g3

/-- What a call of All's comes to. -/
def AllR (H : Heap) (l : List Gr) (join : Bool) (v : AVal) (H' : Heap) : Prop :=
  Ex H H' ∧ ((v = .tup [.agg [.nsl, .i .i64 0], .i .i64 14] ∧ ∃ g ∈ l, rightB g = false) ∨ v = .tup [.agg [.nsl, .i .i64 0], .i .i64 20] ∨
    ∃ lo N, v = .tup [.agg [lo, .i .i64 N.root], .i .i64 0] ∧ Hds H' lo N.l ∧ LubA l N join ∧ Nm (20 * l.length) N ∧ ∀ g ∈ l, RG g)

theorem ex_same {H : Heap} {q : Nat} {ob : AObj} (h : H.get q = some ob) : Ex (H.put q ob) H := by
  refine ⟨Nat.le_refl _, fun i _ o ho => ?_⟩
  rw [Heap.get_put] at ho
  split at ho
  · rename_i hi
    rw [hi, h]; exact ho
  · exact ho

def Iv15 (H : Heap) (v : AVal) (l : List Gr) (join : Bool) (q4 q6 : Nat) (r : Nat) (T : Tm) (H' : Heap) : Prop :=
  Ex H H' ∧ T.get 1 = some (.b join) ∧ T.get 4 = some (.p q4 0) ∧ T.get 6 = some (.p q6 0) ∧ T.get 14 = some v ∧ T.get 15 = some (.i .i64 (l.length : Int)) ∧ H.nx ≤ q4 ∧ H.nx ≤ q6 ∧ q4 < H'.nx ∧ q6 < H'.nx ∧ q4 ≠ q6 ∧ H'.get q4 = some (.row [.nsl, .i .i64 0] true) ∧
  ∃ (j : Nat) (lo : AVal) (o : Gr), j + r = l.length ∧ T.get 16 = some (.i .i64 (j : Int)) ∧ H'.get q6 = some (.row [lo, .i .i64 o.root] true) ∧ (∀ ob, Hds (H'.put q4 ob) lo o.l) ∧ LubA (l.take j) o join ∧ Nm (20 * j) o ∧ ∀ g ∈ l.take j, RG g

theorem loop15 {H X2 : Heap} {v lo : AVal} {l : List Gr} {join : Bool} {q4 q6 : Nat} {T : Tm} (hg : Grs H v l) (hf : ∀ g ∈ l, Fits g ∧ Nm 20 g ∧ g.l.length < 100000) (hl : l.length ≤ 4) (e : Ex H X2) (t0 : T.get 0 = some v) (t1 : T.get 1 = some (.b join)) (t4 : T.get 4 = some (.p q4 0)) (t6 : T.get 6 = some (.p q6 0))
    (h4 : H.nx ≤ q4) (h6 : H.nx ≤ q6) (l4 : q4 < X2.nx) (l6 : q6 < X2.nx) (ne : q4 ≠ q6) (g4 : X2.get q4 = some (.row [.nsl, .i .i64 0] true)) (g6 : X2.get q6 = some (.row [lo, .i .i64 0] true)) (hd : ∀ ob, Hds (X2.put q4 ob) lo (basicG (if join then 6 else 5)).l) :
    runO r15_4 T X2 (seqK (run (.mask [1, 4, 6, 14, 15, 16] (.block 0 l15_0.loop))) (seqK (run (.mask [4, 6] ((ACode.region r15_12).seq .ret))) (retK [ARes.cell 4 2 true, ARes.tmp 5] (AllR H l join)))) := by
  simp [r15_4, t0, t1, t4, t6, hg.len]
  refine Loop.by (Iv15 H v l join q4 q6) l.length ?_ ?_
  · exact ⟨e, by simp [t1], by simp [t4], by simp [t6], by simp, by simp, h4, h6, l4, l6, ne, g4, 0, lo, basicG (if join then 6 else 5), by omega, by simp, g6, hd, LubA.nil join, nm_basic _, fun g hg => by simp at hg⟩
  · rintro r T H1 ⟨e1, t1, t4, t6, t14, t15, a4, a6, b4, b6, ne, g4, j, lo, o, hj, t16, g6, hd, lub, nm, rgs⟩
    have hd1 : Hds H1 lo o.l := (hd _).ex (ex_same g4)
    by_cases hlt : j < l.length
    · obtain ⟨g, hgj⟩ : ∃ y, l[j]? = some y := ⟨_, List.getElem?_eq_getElem hlt⟩
      have hlt' : (j : Int) < (l.length : Int) := by omega
      obtain ⟨w, ld, hw⟩ := (hg.ex e1).at' j g hgj
      obtain ⟨lw, rfl, hlw⟩ := hw
      have cw := hlw.cells
      have hmem := List.mem_of_getElem? hgj
      obtain ⟨fg, ng, lg⟩ := hf g hmem
      obtain ⟨Y1, hY1, d1, L8, G8⟩ := mkY H1 lw g hlw
      have nd1 := d1.nx
      have L6 : aLoad Y1 (.p q6 0) 2 true = some (.agg [lo, .i .i64 o.root]) := by rw [load_agg (o := 0) (n := 2) (d1.get _ b6 _ g6) (by simp)]; rfl
      simp [l15_0, r15_5, r15_6, t1, t4, t6, t14, t15, t16, hlt', sidx_at hg.len hlt, ld, stt H1 lw g.root cw]
      rw [← hY1]
      simp [r15_7, t1, t4, t6, t14, t15, t16, L6, L8 Y1 (Ex.refl _)]
      have fo := rg_fits lub.rg nm (by omega)
      refine Call.mono (call19 (A := o) (B := g) ⟨lo, rfl, hd1.ex d1⟩ (G8 Y1 (Ex.refl _)) fo fg (by have := lub.rg.ok.n1; omega) lg (fun i h hi => (nm.n i h hi).1) (fun i h hi => (ng.n i h hi).1) (by omega)) ?_
      rintro v2 H2 _ hm
      have e2 := hm.1
      have n2 := e2.nx
      have g42 : H2.get q4 = some (.row [.nsl, .i .i64 0] true) := e2.get _ (by omega) _ (d1.get _ b4 _ g4)
      have g62 : H2.get q6 = some (.row [lo, .i .i64 o.root] true) := e2.get _ (by omega) _ (d1.get _ b6 _ g6)
      have hro := (rightB_iff o).2 lub.rg
      -- an error ends it
      have bad : ∀ e : Int, e ≠ 0 → ((e = 14 ∧ ∃ g ∈ l, rightB g = false) ∨ e = 20) → v2 = .tup [.agg [.nsl, .i .i64 0], .i .i64 e] → AllR H l join (.tup [.agg [.nsl, .i .i64 0], .i .i64 e]) (((H2.push (.row [.nsl, .i .i64 0] true)).put H2.nx (.row [.nsl, .i .i64 0] true)).put q4 (.row [.nsl, .i .i64 0] true)) := fun e _ hh _ => by
        refine ⟨⟨by simp; have := e1.nx; omega, fun i hi ob ho => ?_⟩, ?_⟩
        · have := e1.nx
          rw [Heap.get_put, if_neg (by omega), Heap.get_put, if_neg (by omega), get_push_old (by omega)]
          exact e2.get _ (by omega) _ (d1.get _ (by omega) _ (e1.get _ hi _ ho))
        · rcases hh with ⟨rfl, hh⟩ | rfl
          · exact .inl ⟨rfl, hh⟩
          · exact .inr (.inl rfl)
      obtain ⟨Z, hZ⟩ : ∃ P, P = (H2.push (.row [.nsl, .i .i64 0] true)).put H2.nx (.row [.nsl, .i .i64 0] true) := ⟨_, rfl⟩
      have gz : Z.get q4 = some (.row [.nsl, .i .i64 0] true) := by rw [hZ, Heap.get_put, if_neg (by omega), get_push_old (by omega)]; exact g42
      have stz : aStore Z (.p q4 0) (.agg [.nsl, .i .i64 0]) 2 = some (Z.put q4 (.row [.nsl, .i .i64 0] true)) := by simp [aStore, gz, splice]
      have ldz : aLoad (Z.put q4 (.row [.nsl, .i .i64 0] true)) (.p q4 0) 2 true = some (.agg [.nsl, .i .i64 0]) := by rw [load_agg (o := 0) (n := 2) (cs := [.nsl, .i .i64 0]) (own := true) (by rw [Heap.get_put, if_pos rfl]) (by simp)]; rfl
      rw [← hZ] at bad
      cases hr : rightB g with
      | false =>
        have hv : v2 = _ := hm.2.1 (by rw [hr]; simp)
        have hA := bad 14 (by omega) (.inl ⟨rfl, g, hmem, hr⟩) hv
        subst hv
        simp only [kC, putO_some]
        simp [stt H2 .nsl 0 rfl, r15_8, aEq, r15_9, t4, aFill]
        rw [← hZ]
        simp [stz, ldz, t4]
        exact hA
      | true =>
        rcases hm.2.2 (by rw [hro, hr]; rfl) with ⟨hv, _⟩ | ⟨w, N, rfl, hN, hm'⟩
        · have hA := bad 20 (by omega) (.inr rfl) hv
          subst hv
          simp only [kC, putO_some]
          simp [stt H2 .nsl 0 rfl, r15_8, aEq, r15_9, t4, aFill]
          rw [← hZ]
          simp [stz, ldz, t4]
          exact hA
        · have hrg := (rightB_iff g).1 hr
          obtain ⟨h1, h2⟩ := hm'.lub lub.rg hrg nm ng
          have hN' := hN
          obtain ⟨l2, hl2e, hl2⟩ := hN.gr
          subst hl2e
          obtain ⟨Y2, hY2, d2, L9, G9⟩ := mkY H2 l2 N hl2
          have c2 := hl2.cells
          have nY2 : Y2.nx = H2.nx + 1 := by rw [hY2]; rfl
          have st6 : aStore Y2 (.p q6 0) (.agg [l2, .i .i64 N.root]) 2 = some (Y2.put q6 (.row [l2, .i .i64 N.root] true)) := by simp [aStore, d2.get _ (by omega) _ g62, splice, c2]
          simp only [kC, putO_some]
          simp [stt H2 l2 N.root c2]
          rw [← hY2]
          simp [r15_8, aEq, t1, t4, t6, t14, t15, t16, r15_10, L9 Y2 (Ex.refl _), st6, r15_11, b_inc (show j < 4611686018427387904 by omega)]
          have tk : l.take (j + 1) = l.take j ++ [g] := by
            rw [List.take_add_one, hgj]; rfl
          refine ⟨r - 1, by omega, ⟨by simp; have := e1.nx; omega, fun i hi ob ho => ?_⟩, by simp [t1], by simp [t4], by simp [t6], by simp [t14], by simp [t15], a4, a6, by simp; omega, by simp; omega, ne, ?_, j + 1, l2, N, by omega, by simp, ?_, fun ob => ?_, ?_, ?_, ?_⟩
          · have := e1.nx
            rw [Heap.get_put, if_neg (by omega)]
            exact d2.get _ (by omega) _ (e2.get _ (by omega) _ (d1.get _ (by omega) _ (e1.get _ hi _ ho)))
          · rw [Heap.get_put, if_neg ne]
            exact d2.get _ (by omega) _ g42
          · rw [Heap.get_put, if_pos rfl]
          · have fr := hN'.fr (m := Y1.nx) (H' := ((Y2.put q6 (.row [l2, .i .i64 N.root] true)).put q4 ob)) (S := [some q6, some q4]) ⟨by simp; omega, fun i hi hm ob' ho => by
              simp at hm
              rw [Heap.get_put, if_neg hm.2, Heap.get_put, if_neg hm.1]
              exact d2.get _ hi _ ho⟩ (fun i hi => by simp at hi; omega) (by simp) (Nat.le_refl _)
            obtain ⟨l3, he, h3⟩ := fr.gr
            simp only [AVal.agg.injEq, List.cons.injEq] at he
            have h33 := h3
            rw [← he.1] at h33; exact h33
          · rw [tk]; exact lub.snoc rgs hrg h1
          · rw [Nat.mul_add]; exact h2
          · rw [tk]
            intro x hx
            rcases List.mem_append.1 hx with hx | hx
            · exact rgs x hx
            · obtain rfl := List.mem_singleton.1 hx
              exact hrg
    · have hlt' : ¬ (j : Int) < (l.length : Int) := by omega
      have hj' : j = l.length := by omega
      subst hj'
      rw [List.take_length] at lub rgs
      have L6 : aLoad H1 (.p q6 0) 2 true = some (.agg [lo, .i .i64 o.root]) := by rw [load_agg (o := 0) (n := 2) g6 (by simp)]; rfl
      have co := hd1.cells
      have st4 : aStore H1 (.p q4 0) (.agg [lo, .i .i64 o.root]) 2 = some (H1.put q4 (.row [lo, .i .i64 o.root] true)) := by simp [aStore, g4, splice, co]
      have ld4 : aLoad (H1.put q4 (.row [lo, .i .i64 o.root] true)) (.p q4 0) 2 true = some (.agg [lo, .i .i64 o.root]) := by rw [load_agg (o := 0) (n := 2) (cs := [lo, .i .i64 o.root]) (own := true) (by rw [Heap.get_put, if_pos rfl]) (by simp)]; rfl
      simp [l15_0, r15_5, t1, t4, t6, t14, t15, t16, hlt', r15_12, L6, st4, ld4]
      refine ⟨⟨by simp; have := e1.nx; omega, fun i hi ob ho => ?_⟩, .inr (.inr ⟨lo, o, rfl, hd _, lub, nm, rgs⟩)⟩
      rw [Heap.get_put, if_neg (by omega)]
      exact e1.get _ hi _ ho

theorem call15 {H : Heap} {v : AVal} {l : List Gr} {join : Bool} (hg : Grs H v l) (hf : ∀ g ∈ l, Fits g ∧ Nm 20 g ∧ g.l.length < 100000) (hl : l.length ≤ 4) : Call 15 [v, .b join] H (AllR H l join) := by
  refine Call.by (a := a15) rfl (by simp [a15]) ?_
  simp [a15, c15, r15_0, r15_1]
  obtain ⟨X0, hX0⟩ : ∃ P, P = H.push (.row [.nsl, .i .i64 0] true) := ⟨_, rfl⟩
  have e0 : Ex H X0 := by rw [hX0]; exact (Ex.refl _).push _
  have n0 : X0.nx = H.nx + 1 := by rw [hX0]; rfl
  have g4 : X0.get H.nx = some (.row [.nsl, .i .i64 0] true) := by rw [hX0]; exact get_push_nx _ _
  rw [← hX0]
  refine Call.mono (call23q (k := 5) ⟨by omega, by omega⟩) ?_
  rintro v0 H1 _ ⟨e1, q, rfl, hq1, hq2, hgq⟩
  have n1 := e1.nx
  obtain ⟨X1, hX1⟩ : ∃ P, P = (H1.push (.row [.nsl, .i .i64 0] true)).put H1.nx (.row [.sl q 0 1 (some 1) 4, .i .i64 0] true) := ⟨_, rfl⟩
  have eX1 : Ex H1 X1 := by rw [hX1]; exact ((Ex.refl _).push _).put (Nat.le_refl _) _
  have nX1 : X1.nx = H1.nx + 1 := by rw [hX1]; rfl
  have g6 : X1.get H1.nx = some (.row [.sl q 0 1 (some 1) 4, .i .i64 0] true) := by rw [hX1, Heap.get_put, if_pos rfl]
  simp [kC, stt H1 (.sl q 0 1 (some 1) 4) 0 rfl]
  rw [← hX1]
  have g41 := eX1.get _ (by omega) _ (e1.get _ (by omega) _ g4)
  have gq1 := eX1.get _ hq2 _ hgq
  cases join with
  | false =>
    simp [r15_2]
    refine loop15 (join := false) hg hf hl (e0.trans (e1.trans eX1)) (q4 := H.nx) (q6 := H1.nx) ?_ ?_ ?_ ?_ (Nat.le_refl _) (by omega) (by omega) (by omega) (by omega) g41 g6 (fun ob => basic_hds (by simp; omega) (by rw [Heap.get_put, if_neg (by omega)]; exact gq1)) <;> simp
  | true =>
    simp [r15_2, r15_3]
    refine Call.mono (call23q (k := 6) ⟨by omega, by omega⟩) ?_
    rintro v2 H2 _ ⟨e2, q2, rfl, hq21, hq22, hgq2⟩
    have n2 := e2.nx
    have st : aStore H2 (.p H1.nx 0) (.agg [.sl q2 0 1 (some 1) 4, .i .i64 0]) 2 = some (H2.put H1.nx (.row [.sl q2 0 1 (some 1) 4, .i .i64 0] true)) := by simp [aStore, e2.get _ (by omega) _ g6, splice]
    simp [kC, st]
    have ee : Ex H (H2.put H1.nx (.row [.sl q2 0 1 (some 1) 4, .i .i64 0] true)) := ⟨by simp; omega, fun i hi o ho => by
      rw [Heap.get_put, if_neg (by omega)]
      exact e2.get _ (by omega) _ (eX1.get _ (by omega) _ (e1.get _ (by omega) _ (e0.get _ hi _ ho)))⟩
    refine loop15 (join := true) hg hf hl ee (q4 := H.nx) (q6 := H1.nx) ?_ ?_ ?_ ?_ (Nat.le_refl _) (by omega) (by simp; omega) (by simp; omega) (by omega) (by rw [Heap.get_put, if_neg (by omega)]; exact e2.get _ (by omega) _ g41) (by rw [Heap.get_put, if_pos rfl]) (fun ob => basic_hds (by simp; omega) (by rw [Heap.get_put, if_neg (by omega), Heap.get_put, if_neg (by omega)]; exact hgq2)) <;> simp


theorem grs1 {H : Heap} {q : Nat} {la : AVal} {a : Gr} (hq : q < H.nx) (hg : H.get q = some (.row [la, .i .i64 a.root] true)) (ha : Hds H la a.l) : Grs H (.sl q 0 1 (some 1) 2) [a] := by
  refine ⟨rfl, ⟨hq, rfl⟩, fun j g hj => ?_⟩
  match j with
  | 0 =>
    obtain rfl := Option.some.inj hj
    exact ⟨.agg [la, .i .i64 a.root], by rw [sptr_sl, load_agg (n := 2) hg (by simp)]; rfl, la, rfl, ha⟩
  | j + 1 => simp at hj

theorem okAll_iff : ∀ {l : List Gr}, okAll l = true ↔ ∀ g ∈ l, okB g = true
  | [] => by simp [okAll]
  | g :: r => by simp [okAll_cons, okAll_iff (l := r)]

def Bq (join : Bool) (c : Gr) (g : Gr) : Bool := if join then belB g c else belB c g
theorem Bq_iff {join : Bool} {c g : Gr} : Bq join c g = true ↔ Bw join g c := by
  cases join <;> simp [Bq, Bw, belB_iff]

def Iv7a (X1 : Heap) (v : AVal) (l : List Gr) (join : Bool) (q4 : Nat) (r : Nat) (T : Tm) (H' : Heap) : Prop :=
  Ex X1 H' ∧ T.get 0 = some v ∧ T.get 2 = some (.b join) ∧ T.get 4 = some (.p q4 0) ∧ T.get 28 = some v ∧ T.get 29 = some (.i .i64 (l.length : Int)) ∧
  ∃ j : Nat, j + r = l.length ∧ T.get 30 = some (.i .i64 (j : Int)) ∧ ∀ g ∈ l.take j, fewB g = true ∧ g.l.length ≤ 8

def Iv7b (Y1 : Heap) (v : AVal) (l : List Gr) (c : Gr) (join : Bool) (q4 q9 : Nat) (r : Nat) (T : Tm) (H' : Heap) : Prop :=
  Ex Y1 H' ∧ T.get 2 = some (.b join) ∧ T.get 4 = some (.p q4 0) ∧ T.get 9 = some (.p q9 0) ∧ T.get 10 = some (.i .i64 0) ∧ T.get 67 = some v ∧ T.get 68 = some (.i .i64 (l.length : Int)) ∧
  ∃ j : Nat, j + r = l.length ∧ T.get 69 = some (.i .i64 (j : Int)) ∧ T.get 11 = some (.b ((l.take j).all (Bq join c)))

theorem take_snoc {l : List Gr} {j : Nat} {g : Gr} (h : l[j]? = some g) : l.take (j + 1) = l.take j ++ [g] := by
  rw [List.take_add_one, h]; rfl

theorem rest7 {H2 : Heap} {T : Tm} {v lc : AVal} {l : List Gr} {c : Gr} {join : Bool} {q4 : Nat} (hg : Grs H2 v l) (sl : ∀ g ∈ l, Szs g) (hl : l.length ≤ 4) (few : ∀ g ∈ l, fewB g = true ∧ g.l.length ≤ 8) (rc : RG c) (fc : Fits c)
    (q4l : q4 < H2.nx) (lc4 : aLoad H2 (.p q4 0) 2 true = some (.agg [lc, .i .i64 c.root])) (hc : Hds H2 lc c.l) (t0 : T.get 0 = some v) (t2 : T.get 2 = some (.b join)) (t4 : T.get 4 = some (.p q4 0)) :
    runO r7_9 T H2 (seqK (run (.mask [0, 2, 4, 9, 10] (.seq (.seq (.region r7_10) (.mask [0, 2, 4, 9, 10, 51] (.cond (.t 51) (.seq (.region r7_11) .ret) .skip))) (.mask [0, 2, 4, 9, 10] (.seq (.seq (.region r7_12) (.mask [0, 2, 4, 9, 10, 58] (.cond (.t 58) (.seq (.region r7_13) .ret) .skip))) (.mask [0, 2, 4, 9, 10] (.seq (.region r7_14) (.mask [0, 2, 4, 9, 10, 11] (.seq (.seq (.region r7_15) (.mask [2, 4, 9, 10, 11, 67, 68, 69] (.block 2 (.loop l7_1)))) (.mask [2, 4, 9, 10, 11] (.seq (.region r7_22) .ret))))))))))) (retK [.tmp 6] fun v _ => v = .b true)) := by
  simp [r7_9, t0, t2]
  refine Call.mono (call15 (join := join) hg (fun g h => by
    obtain ⟨a, b, d⟩ := fewB_fits (few g h).1
    exact ⟨a, d, by omega⟩) hl) ?_
  rintro w X3 _ ⟨e3, m⟩
  have gq : ∀ q, q < H2.nx → q < X3.nx := fun q h => Nat.lt_of_lt_of_le h e3.nx
  rcases m with ⟨rfl, g, hgm, hr⟩ | rfl | ⟨lx, N, rfl, hN, lub, nmN, rgs⟩
  · have hok : okAll l = false := by
      cases h : okAll l with
      | false => rfl
      | true =>
        have := okAll_iff.1 h g hgm
        simp [okB, hr] at this
    obtain ⟨Y, hY⟩ : ∃ P, P = (X3.push (.row [.nsl, .i .i64 0] true)).put X3.nx (.row [.nsl, .i .i64 0] true) := ⟨_, rfl⟩
    have d : Ex X3 Y := by rw [hY]; exact ((Ex.refl _).push _).put (Nat.le_refl _) _
    have gY : Y.get X3.nx = some (.row [.nsl, .i .i64 0] true) := by rw [hY, Heap.get_put, if_pos rfl]
    simp only [kC, putO_some]
    simp [stt X3 .nsl 0 rfl]
    rw [← hY]
    simp [r7_10, aEq, r7_12, t0]
    refine Call.is (call9 (hg.ex (e3.trans d)) sl (by omega)) ?_
    rw [hok]
    simp [kC, r7_13, aEq, load_row gY]
  · obtain ⟨Y, hY⟩ : ∃ P, P = (X3.push (.row [.nsl, .i .i64 0] true)).put X3.nx (.row [.nsl, .i .i64 0] true) := ⟨_, rfl⟩
    have gY : Y.get X3.nx = some (.row [.nsl, .i .i64 0] true) := by rw [hY, Heap.get_put, if_pos rfl]
    simp only [kC, putO_some]
    simp [stt X3 .nsl 0 rfl]
    rw [← hY]
    simp [r7_10, aEq, r7_11, load_row gY]
  · have hok : okAll l = true := okAll_iff.2 fun g h => by
      have h1 := (few g h).1
      have h2 := (rightB_iff g).2 (rgs g h)
      simp [okB, h1, h2]
    obtain ⟨Y1, hY1, d1, Lx, Gx⟩ := mkY X3 lx N hN
    have cx := hN.cells
    have y1 := e3.trans d1
    have nY1 : Y1.nx = X3.nx + 1 := by rw [hY1]; rfl
    have fN := rg_fits lub.rg nmN (by omega)
    simp only [kC, putO_some]
    simp [stt X3 lx N.root cx]
    rw [← hY1]
    simp [r7_10, aEq, r7_12, t0]
    refine Call.is (call9 (hg.ex y1) sl (by omega)) ?_
    rw [hok]
    have L4 : ∀ G, Ex Y1 G → aLoad G (.p q4 0) 2 true = some (.agg [lc, .i .i64 c.root]) := fun G e => load_ex (y1.trans e) q4l lc4
    have GC : ∀ G, Ex Y1 G → GrOf G (.agg [lc, .i .i64 c.root]) c := fun G e => ⟨lc, rfl, hc.ex (y1.trans e)⟩
    simp [kC, r7_14, r7_15, t0, t2, t4, hg.len]
    refine Loop.by (Iv7b Y1 v l c join q4 X3.nx) l.length ?_ ?_
    · exact ⟨Ex.refl _, by simp [t2], by simp [t4], by simp, by simp, by simp [t0], by simp, 0, by omega, by simp, by simp⟩
    · rintro r T H1 ⟨e1, u2, u4, u9, u10, u67, u68, j, hj, u69, u11⟩
      have y2 := y1.trans e1
      by_cases hlt : j < l.length
      · obtain ⟨g, hgj⟩ : ∃ y, l[j]? = some y := ⟨_, List.getElem?_eq_getElem hlt⟩
        have hlt' : (j : Int) < (l.length : Int) := by omega
        obtain ⟨w, ld, hw⟩ := (hg.ex y2).at' j g hgj
        obtain ⟨lw, rfl, hlw⟩ := hw
        have cw := hlw.cells
        have hmem := List.mem_of_getElem? hgj
        have rg := rgs g hmem
        obtain ⟨fg, lg, ng⟩ := fewB_fits (few g hmem).1
        obtain ⟨Y2, hY2, d2, L13, G13⟩ := mkY H1 lw g hlw
        have z2 := e1.trans d2
        simp [l7_1, r7_16, r7_17, u2, u4, u9, u10, u11, u67, u68, u69, hlt', sidx_at hg.len hlt, ld, stt H1 lw g.root cw]
        rw [← hY2]
        have hb := lub.u g hmem
        have tk := take_snoc hgj
        have fin : ∀ (b : Bool), b = ((l.take j).all (Bq join c) && Bq join c g) → b = (l.take (j + 1)).all (Bq join c) := fun b h => by
          rw [h, tk, List.all_append]; simp
        cases join with
        | true =>
          have hb' : belB g N = true := belB_true hb
          simp [r7_18, u2, u4, u9, u10, u11, u67, u68, u69, L13 Y2 (Ex.refl _), Lx Y2 z2]
          refine Call.is (call14 (a := g) (b := N) (G13 Y2 (Ex.refl _)) (Gx Y2 z2) rg.ok lub.rg.ok fg fN) ?_
          rw [hb']
          cases hal : (l.take j).all (Bq true c) with
          | false =>
            rw [hal] at u11
            simp [kC, u2, u4, u9, u10, u11, u67, u68, u69, r7_20, r7_21, b_inc (show j < 4611686018427387904 by omega)]
            refine ⟨r - 1, by omega, z2, by simp [u2], by simp [u4], by simp [u9], by simp [u10], by simp [u67], by simp [u68], j + 1, by omega, by simp, ?_⟩
            rw [← fin _ rfl, hal]; simp
          | true =>
            rw [hal] at u11
            simp [kC, u2, u4, u9, u10, u11, u67, u68, u69, r7_20, L13 Y2 (Ex.refl _), L4 Y2 z2]
            refine Call.is (call14 (a := g) (b := c) (G13 Y2 (Ex.refl _)) (GC Y2 z2) rg.ok rc.ok fg fc) ?_
            cases hbc : belB g c <;> (
              simp [kC, u2, u4, u9, u10, u11, u67, u68, u69, r7_21, b_inc (show j < 4611686018427387904 by omega)]
              refine ⟨r - 1, by omega, z2, by simp [u2], by simp [u4], by simp [u9], by simp [u10], by simp [u67], by simp [u68], j + 1, by omega, by simp, ?_⟩
              rw [← fin _ rfl, hal]; simp [Bq, hbc])
        | false =>
          have hb' : belB N g = true := belB_true hb
          simp [r7_18, u2, u4, u9, u10, u11, u67, u68, u69, L13 Y2 (Ex.refl _), Lx Y2 z2]
          refine Call.is (call14 (a := N) (b := g) (Gx Y2 z2) (G13 Y2 (Ex.refl _)) lub.rg.ok rg.ok fN fg) ?_
          rw [hb']
          cases hal : (l.take j).all (Bq false c) with
          | false =>
            rw [hal] at u11
            simp [kC, u2, u4, u9, u10, u11, u67, u68, u69, r7_20, r7_21, b_inc (show j < 4611686018427387904 by omega)]
            refine ⟨r - 1, by omega, z2, by simp [u2], by simp [u4], by simp [u9], by simp [u10], by simp [u67], by simp [u68], j + 1, by omega, by simp, ?_⟩
            rw [← fin _ rfl, hal]; simp
          | true =>
            rw [hal] at u11
            simp [kC, u2, u4, u9, u10, u11, u67, u68, u69, r7_20, L13 Y2 (Ex.refl _), L4 Y2 z2]
            refine Call.is (call14 (a := c) (b := g) (GC Y2 z2) (G13 Y2 (Ex.refl _)) rc.ok rg.ok fc fg) ?_
            cases hbc : belB c g <;> (
              simp [kC, u2, u4, u9, u10, u11, u67, u68, u69, r7_21, b_inc (show j < 4611686018427387904 by omega)]
              refine ⟨r - 1, by omega, z2, by simp [u2], by simp [u4], by simp [u9], by simp [u10], by simp [u67], by simp [u68], j + 1, by omega, by simp, ?_⟩
              rw [← fin _ rfl, hal]; simp [Bq, hbc])
      · have hlt' : ¬ (j : Int) < (l.length : Int) := by omega
        have hj' : j = l.length := by omega
        subst hj'
        rw [List.take_length] at u11
        have fN2 : (∀ g ∈ l, Bq join c g = true) → Bw join N c := fun h => lub.le c rc.ok fun g hg => Bq_iff.1 (h g hg)
        simp [l7_1, r7_16, u2, u4, u9, u10, u11, u67, u68, u69, hlt']
        cases hal : l.all (Bq join c) with
        | false =>
          rw [hal] at u11
          simp [r7_22, u2, u4, u9, u10, u11, aEq]
        | true =>
          rw [hal] at u11
          have hn := fN2 (List.all_eq_true.1 hal)
          cases join with
          | true =>
            have hb' : belB N c = true := belB_true hn
            simp [r7_22, u2, u4, u9, u10, u11, aEq, Lx H1 e1, L4 H1 e1]
            refine Call.is (call14 (a := N) (b := c) (Gx H1 e1) (GC H1 e1) lub.rg.ok rc.ok fN fc) ?_
            rw [hb']
            simp [kC, u2, u4, u9, u10, u11]
          | false =>
            have hb' : belB c N = true := belB_true hn
            simp [r7_22, u2, u4, u9, u10, u11, aEq, Lx H1 e1, L4 H1 e1]
            refine Call.is (call14 (a := c) (b := N) (GC H1 e1) (Gx H1 e1) rc.ok lub.rg.ok fc fN) ?_
            rw [hb']
            simp [kC, u2, u4, u9, u10, u11]

theorem call7 (h8 : Lives) {H : Heap} {v vc : AVal} {l : List Gr} {c : Gr} {join : Bool} (ga : Grs H v l) (gc : GrOf H vc c) (sa : ∀ g ∈ l, Szs g) (sl : l.length < 4611686018427387904) (sc : Szs c) : Call 7 [v, vc, .b join] H fun v _ => v = .b true := by
  obtain ⟨lc, rfl, hc⟩ := gc
  have cc := hc.cells
  refine Call.by (a := a7) rfl (by simp [a7]) ?_
  simp [a7, c7, r7_0]
  obtain ⟨X, hX⟩ : ∃ P, P = H.push (.row [lc, .i .i64 c.root] true) := ⟨_, rfl⟩
  have nX : X.nx = H.nx + 1 := by rw [hX]; rfl
  have eX : Ex H X := by rw [hX]; exact (Ex.refl _).push _
  have g4 : X.get H.nx = some (.row [lc, .i .i64 c.root] true) := by rw [hX]; exact get_push_nx _ _
  have l4 : aLoad X (.p H.nx 0) 2 true = some (.agg [lc, .i .i64 c.root]) := by rw [load_agg (o := 0) (n := 2) g4 (by simp)]; rfl
  rw [← hX]
  simp [r7_1]
  refine Call.is (h8 X) ?_
  simp [kC, ga.len]
  by_cases h4 : 4 < l.length
  · have h4i : (4 : Int) < (l.length : Int) := by omega
    simp [h4, h4i, r7_2]
    refine Call.is (h8 X) ?_
    simp [kC]
  have h4i : ¬ (4 : Int) < (l.length : Int) := by omega
  have hdr : List.drop 2 (List.map (fun i => ([AVal.nsl, AVal.i .i64 0] : List AVal)[i % 2]?.getD AVal.ni) (List.range 2)) = [] := rfl
  obtain ⟨X1, hX1⟩ : ∃ P, P = X.push (.row [lc, .i .i64 c.root] true) := ⟨_, rfl⟩
  have e1 : Ex X X1 := by rw [hX1]; exact (Ex.refl _).push _
  have n1 : X1.nx = X.nx + 1 := by rw [hX1]; rfl
  have g1 : X1.get X.nx = some (.row [lc, .i .i64 c.root] true) := by rw [hX1]; exact get_push_nx _ _
  simp [h4, h4i, l4, n_bsl, aFill, splice, cc, hdr]
  rw [← hX1]
  refine Call.is (call9 (grs1 (by omega) g1 (hc.ex (eX.trans e1))) (fun g hg => by
    simp at hg
    subst hg
    exact sc) (by simp)) ?_
  cases hok : okAll [c] with
  | false =>
    simp [kC, r7_2]
    refine Call.is (h8 X1) ?_
    simp [kC]
  | true =>
    simp only [okAll_cons, Bool.and_eq_true] at hok
    obtain ⟨rc, fc, nc, lc25⟩ := okB_right hok.1
    have hg1 := ga.ex (eX.trans e1)
    simp [kC, r7_3, ga.len]
    refine Loop.by (Iv7a X1 v l join H.nx) l.length ?_ ?_
    · exact ⟨Ex.refl _, by simp, by simp, by simp, by simp, by simp, 0, by omega, by simp, fun g hg => by simp at hg⟩
    · rintro r T H1 ⟨e2, t0, t2, t4, t28, t29, j, hj, t30, few⟩
      by_cases hlt : j < l.length
      · obtain ⟨g, hgj⟩ : ∃ y, l[j]? = some y := ⟨_, List.getElem?_eq_getElem hlt⟩
        have hlt' : (j : Int) < (l.length : Int) := by omega
        obtain ⟨w, ld, hw⟩ := (hg1.ex e2).at' j g hgj
        obtain ⟨lw, rfl, hlw⟩ := hw
        have cw := hlw.cells
        have hmem := List.mem_of_getElem? hgj
        obtain ⟨Y2, hY2, d2, L8, G8⟩ := mkY H1 lw g hlw
        have gY : Y2.get H1.nx = some (.row [lw, .i .i64 g.root] true) := by rw [hY2, Heap.get_put, if_pos rfl]
        have sz := sa g hmem
        simp [l7_0, r7_4, r7_5, t0, t2, t4, t28, t29, t30, hlt', sidx_at ga.len hlt, ld, stt H1 lw g.root cw]
        rw [← hY2]
        simp [r7_6, t0, t2, t4, t28, t29, t30, load_row gY, hlw.len]
        by_cases h8l : 8 < g.l.length
        · have h8i : (8 : Int) < (g.l.length : Int) := by omega
          simp [h8l, h8i, r7_7]
        have h8i : ¬ (8 : Int) < (g.l.length : Int) := by omega
        simp [h8l, h8i, L8 Y2 (Ex.refl _)]
        refine Call.is (call16 (G8 Y2 (Ex.refl _)) sz.1 sz.2) ?_
        cases hfw : fewB g with
        | false => simp [kC, r7_7]
        | true =>
          simp [kC, t0, t2, t4, t28, t29, t30, r7_8, b_inc (show j < 4611686018427387904 by omega)]
          refine ⟨r - 1, by omega, e2.trans d2, by simp [t0], by simp [t2], by simp [t4], by simp [t28], by simp [t29], j + 1, by omega, by simp, ?_⟩
          rw [take_snoc hgj]
          intro x hx
          rcases List.mem_append.1 hx with hx | hx
          · exact few x hx
          · obtain rfl := List.mem_singleton.1 hx
            exact ⟨hfw, by omega⟩
      · have hlt' : ¬ (j : Int) < (l.length : Int) := by omega
        have hj' : j = l.length := by omega
        subst hj'
        rw [List.take_length] at few
        have ee := eX.trans (e1.trans e2)
        simp [l7_0, r7_4, t0, t2, t4, t28, t29, t30, hlt']
        exact rest7 (join := join) (ga.ex ee) sa (by omega) few rc fc (by have := e2.nx; omega) (load_ex (e1.trans e2) (by omega) l4) (hc.ex ee) (by simp [t0]) (by simp [t2]) (by simp [t4])

end
end K
end Go.Proofs.YtlgbgbngdhhjaaaGreatDoor

set_option maxRecDepth 100000
namespace Go.Proofs.YtlgbgbngdhhjaaaGreatDoor
open Go AM ChangeShapes WideShapes RowKit K

theorem latticeAll_lifted (os : Os) (started : os.Started) (H : Type) (enc : TypeId × Value → H) :
    ReturnsInHanded {} Tryz.checked os 7 .any (fun w args => (Rows.latticeAllSpec.pre enc Tryz.prog Tryz.f7 [] false w args ∧ laidMetH Tryz.prog laid3 w) ∧ sizedMet enc Tryz.prog Tryz.f7 (OpenSpec.ofChange Rows.latticeAllSpec) false w args)
      (Rows.latticeAllSpec.post enc Tryz.prog Tryz.f7 false true false false) := by
  refine returnsInHanded_of_change_and (C := Tryz.checked) (X := fun w _ => laidMetH Tryz.prog laid3 w) (fun _ _ _ hh h => h.of_heap hh) ownNone started (by kernel_rfl) Tryz.func7
    (ChangeSpec.witness_shaped (enc := enc) (C := Tryz.checked) (os := os) (X := fun w _ => laidMetH Tryz.prog laid3 w) false (World.doorLaid Tryz.prog 24 os) #[.slice none 0 0, g0, .bool false] 8 rfl (World.shaped_of_RefB (by kernel_rfl) (by kernel_rfl)) (by kernel_rfl) (by kernel_rfl) (by kernel_rfl) (door_met os _)) ?_
  intro W base args ds gs before hval0 hW _ hsz hL _
  have hval : ∀ (j : Nat) t v, Tryz.f7.params[j]? = some t → args[j]? = some v → Value.okWide Tryz.prog W .any base t v := hval0
  have hW2 := hW
  obtain ⟨p, q, hA0, hV, rfl, _, _⟩ := hW
  have hA : DataW.TrodAll enc Tryz.prog W 0 (fun _ => true) true Tryz.f7.params.toList args.toList ds p := hA0
  have hz : (DataW.weightsEach Tryz.prog (Tryz.f7.params.toList ++ Rows.latticeAllSpec.plain.varTypes Tryz.prog) (ds ++ gs)).all (· ≤ reachBytes) = true := hsz
  rw [Tryz.params7] at hA hval hz
  obtain ⟨rfl, rfl⟩ := trodVars_none hV
  obtain ⟨v0, w0, d0, x0, p0, q0, a0, rfl, rfl, h0, t0⟩ := trodAll_cons hA
  obtain ⟨v1, w1, d1, x1, p1, q1, a1, rfl, rfl, h1, t1⟩ := trodAll_cons t0
  obtain ⟨v2, w2, d2, x2, p2, q2, a2, rfl, rfl, h2, t2⟩ := trodAll_cons t1
  obtain ⟨z1, rfl, rfl⟩ := trodAll_nil t2
  have hargs : args.toList = [v0, v1, v2] := by rw [a0, a1, a2, z1]
  obtain rfl : args = #[v0, v1, v2] := by apply Array.ext'; simpa using hargs
  have g := good_of_laid hL
  obtain ⟨θ, H0, s⟩ := sn0 g
  have hw0 : Lt d0 34 := fun n hn => by simpa using List.all_eq_true.1 hz n (DataW.weights_mem_each (j := 0) rfl rfl n hn)
  obtain ⟨θ0, H1, u0, A0, s0, l0, e0, r0, ga0, sa0, sl0⟩ := s.args (hval 0 34 v0 rfl rfl) h0 hw0
  have hw1 : Lt d1 24 := fun n hn => by simpa using List.all_eq_true.1 hz n (DataW.weights_mem_each (j := 1) rfl rfl n hn)
  obtain ⟨θ1, H2, u1, A1, s1, l1, e1, r1, ga1, sa1⟩ := s0.arg (hval 1 24 v1 rfl rfl) h1 hw1
  obtain ⟨b2, e4, rfl, _⟩ := open_bool uT4 (hval 2 4 v2 rfl rfl) h2
  subst e4
  refine (ends s1 g (args := [u0, u1, .b b2]) (us := #[v0, v1, .bool b2]) ⟨_, _, rfl, (r0.mono (l1)), ⟨_, _, rfl, r1, ⟨_, _, rfl, rfl, rfl⟩⟩⟩ (call7 lives (ga0.ex (e1)) ga1 sa0 sl0 sa1)).mono fun e w2 h => ?_
  obtain ⟨rfl, h⟩ := h
  exact ⟨_, rfl, post_true (by rw [Tryz.params7]; intro t ht; simp at ht; (rcases ht with rfl | rfl | rfl <;> first | exact read34 | exact read24 | exact read4)) rfl rfl hW2 (fun _ => rfl) h⟩

theorem latticeAll_holds : Rows.LatticeAllSaid :=
  OpenClaim.holds_of_wide 7 Tryz.f7 rfl rfl rfl rfl rfl rfl rfl ⟨rfl, rfl, rfl, rfl, rfl⟩ rfl rfl rfl rfl rfl (by kernel_rfl) Tryz.func7 (by kernel_rfl)
    (of_decide_eq_true (by kernel_rfl)) (by unfold Func.isWrapper; first | (rw [if_pos (by decide +kernel)]; kernel_rfl) | (rw [if_neg (by decide +kernel)]; exact ⟨rfl, rfl⟩))
    (fun os started H enc _ => latticeAll_lifted os started H enc)

theorem latticeAll_card : Rows.LatticeAllCardSaid :=
  Claim7.holds_tied_plain_at .later [] [.data, .data, .data] true (true, "485a50cdda381f550d80658d9d8f8f96a93b519eb2bf32fa582a733cf7f37661") true
    latticeAll_holds (fun _ h => by cases h) (by kernel_rfl) (fun _ h => by cases h) latticeAll_row_tie rfl ⟨rfl, rfl⟩ (by kernel_rfl) rfl
    (fun f fn hf hfn => by
      obtain rfl : f = 7 := Option.some.inj ((show Tryz.prog.funcNamed "azimuth/azimuthlaw11.LatticeAll" = some 7 by kernel_rfl).symm.trans hf) |>.symm
      obtain rfl : fn = Tryz.f7 := (Option.some.inj (Tryz.func7.symm.trans hfn)).symm
      exact ⟨by kernel_rfl, fun j t ht => by
        rw [Tryz.params7] at ht
        have hm : t ∈ [34, 24, 4] := by simpa using Array.mem_of_getElem? ht
        have hall : ([34, 24, 4].all fun u => !Tryz.prog.wantsStandIn u) = true := by kernel_rfl
        exact (show Tryz.prog.wantsStandIn t = false by simpa using List.all_eq_true.1 hall t hm)⟩)
    (by kernel_rfl)
#print axioms latticeAll_card
end Go.Proofs.YtlgbgbngdhhjaaaGreatDoor
