/- Whatever the arguments, the law azimuthlaw11.LatticeThree answers true and leaves them as they read: joins of three, and meets, hang on no order. Condition: the three variables of the library that the row lists hold what the program's text lays (the card ties that). -/
import Derived.Test.YtlgbgbngdhhjaaaGreatDoorB12
import Derived.Test.YtlgbgbngdhhjaaaGreatDoorB18
import Derived.Test.YtlgbgbngdhhjaaaGreatDoorCards
set_option linter.unusedSimpArgs false
set_option linter.unusedVariables false
set_option maxRecDepth 10000
namespace Go.Proofs.YtlgbgbngdhhjaaaGreatDoor
namespace K
noncomputable section
open Go AM

theorem rg_basic {k : Int} (hk : k = 5 ∨ k = 6) : RG (basicG k) := (rightB_iff _).1 (by rcases hk with rfl | rfl <;> decide)
theorem basic_at {k : Int} {i : Nat} {h : Hd} (hi : (basicG k).l[i]? = some h) : i = 0 ∧ h = ⟨k, [], [], false⟩ := by
  have h0 : i < 1 := (List.getElem?_eq_some_iff.1 hi).1
  obtain rfl : i = 0 := by omega
  exact ⟨rfl, (Option.some.inj hi).symm⟩
theorem nm_basic (k : Int) : Nm 0 (basicG k) := ⟨fun i h hi => by
  obtain ⟨_, rfl⟩ := basic_at hi
  exact ⟨Nat.le_refl _, fun s hs => by simp at hs⟩⟩

theorem basic_least {c : Gr} (oc : Ok c) : Below (basicG 6) c := by
  refine below_bel.2 ((Bel.co (rg_basic (.inr rfl)).ok.okL oc.okL (fun i j => i = 0 ∧ j < c.l.length) (fun _ _ => False) ?_ ?_ ?_ ?_).1 _ _ ⟨rfl, by have := oc.r0; have := oc.r1; omega⟩)
  · rintro i j ⟨rfl, h⟩
    exact ⟨by show 0 < 1; omega, h⟩
  · intro j i h
    exact h.elim
  · intro i j h k hi hj _
    obtain ⟨_, rfl⟩ := basic_at hi
    exact .inl rfl
  · intro i j h k hi hj h'
    exact h'.elim

theorem basic_greatest {c : Gr} (oc : Ok c) : Below c (basicG 5) := by
  refine below_bel.2 ((Bel.co oc.okL (rg_basic (.inl rfl)).ok.okL (fun i j => i < c.l.length ∧ j = 0) (fun _ _ => False) ?_ ?_ ?_ ?_).1 _ _ ⟨by have := oc.r0; have := oc.r1; omega, rfl⟩)
  · rintro i j ⟨h, rfl⟩
    exact ⟨h, by show 0 < 1; omega⟩
  · intro j i h
    exact h.elim
  · intro i j h k hi hj _
    obtain ⟨_, rfl⟩ := basic_at hj
    exact .inr (.inl rfl)
  · intro i j h k hi hj h'
    exact h'.elim

/-- Below, the one way or the other. -/
def Bw (join : Bool) (a b : Gr) : Prop := if join then Below a b else Below b a
theorem Bw.trans {join : Bool} {a b c : Gr} (oa : Ok a) (ob : Ok b) (oc : Ok c) (h : Bw join a b) (k : Bw join b c) : Bw join a c := by
  cases join
  · exact Below.trans oc ob oa k h
  · exact Below.trans oa ob oc h k

/-- What the join of a row is; what the meet is. -/
structure LubA (l : List Gr) (n : Gr) (join : Bool) : Prop where
  rg : RG n
  u : ∀ g ∈ l, Bw join g n
  le : ∀ c : Gr, Ok c → (∀ g ∈ l, Bw join g c) → Bw join n c

theorem LubA.nil (join : Bool) : LubA [] (basicG (if join then 6 else 5)) join := by
  refine ⟨rg_basic (by cases join <;> simp), fun g hg => by simp at hg, fun c oc _ => ?_⟩
  cases join
  · exact basic_greatest oc
  · exact basic_least oc

theorem LubA.snoc {l : List Gr} {o g n : Gr} {join : Bool} (h : LubA l o join) (hl : ∀ x ∈ l, RG x) (rg : RG g) (k : Lub o g n join) : LubA (l ++ [g]) n join := by
  refine ⟨k.rg, fun x hx => ?_, fun c oc hc => k.le c oc (h.le c oc fun x hx => hc x (by simp [hx])) (hc g (by simp))⟩
  rcases List.mem_append.1 hx with hx | hx
  · exact Bw.trans (hl x hx).ok h.rg.ok k.rg.ok (h.u x hx) k.ua
  · obtain rfl := List.mem_singleton.1 hx
    exact k.ub

theorem basic_hds {H : Heap} {q : Nat} {k : Int} (hq : q < H.nx) (hg : H.get q = some (.row [.i .i64 k, .nsl, .nsl, .b false] true)) : Hds H (.sl q 0 1 (some 1) 4) (basicG k).l := by
  refine ⟨rfl, ⟨hq, rfl⟩, fun j h hj => ?_⟩
  obtain ⟨rfl, rfl⟩ := basic_at hj
  refine ⟨[.i .i64 k, .nsl, .nsl, .b false], ?_, .nsl, .nsl, rfl, Sl.nil _ _ _, Sl.nil _ _ _⟩
  rw [sptr_sl, load_agg (n := 4) (cs := [.i .i64 k, .nsl, .nsl, .b false]) (own := true) hg (by simp)]
  rfl

theorem call23q {H : Heap} {k : Int} (hk : 0 ≤ k ∧ k ≤ 6) : Call 23 [.i .i64 k] H fun v H' => Ex H H' ∧ ∃ q, v = .agg [.sl q 0 1 (some 1) 4, .i .i64 0] ∧ H.nx ≤ q ∧ q < H'.nx ∧ H'.get q = some (.row [.i .i64 k, .nsl, .nsl, .b false] true) := by
  refine Call.by (a := a23) rfl (by simp [a23]) ?_
  have h1 : ¬ k < 0 := by omega
  have h2 : ¬ (6 : Int) < k := by omega
  obtain ⟨X, hX⟩ : ∃ P, P = (H.push (.row [.nsl, .i .i64 0] true)).push (.row [.i .i64 k, .nsl, .nsl, .b false] true) := ⟨_, rfl⟩
  have eX : Ex H X := by rw [hX]; exact ((Ex.refl _).push _).push _
  have nX : X.nx = H.nx + 2 := by rw [hX]; rfl
  have g2 : X.get H.nx = some (.row [.nsl, .i .i64 0] true) := by rw [hX, get_push_old (by simp)]; exact get_push_nx _ _
  have g3 : X.get (H.nx + 1) = some (.row [.i .i64 k, .nsl, .nsl, .b false] true) := by rw [hX]; exact get_push_nx _ _
  have st : aStore X (.p H.nx 0) (.agg [.sl (H.nx + 1) 0 1 (some 1) 4, .i .i64 0]) 2 = some (X.put H.nx (.row [.sl (H.nx + 1) 0 1 (some 1) 4, .i .i64 0] true)) := by simp [aStore, g2, splice]
  simp [a23, c23, r23_0, r23_1, h1, h2, r23_3, aFill, splice]
  rw [← hX]
  simp [st]
  rw [load_agg (o := 0) (n := 2) (cs := [.sl (H.nx + 1) 0 1 (some 1) 4, .i .i64 0]) (own := true) (by rw [Heap.get_put, if_pos rfl]) (by simp)]
  refine ⟨eX.put (Nat.le_refl _) _, H.nx + 1, rfl, by omega, by simp; omega, ?_⟩
  rw [Heap.get_put, if_neg (by omega)]; exact g3

/-- What a call of All's comes to. -/
def AllR (H : Heap) (l : List Gr) (join : Bool) (v : AVal) (H' : Heap) : Prop :=
  Ex H H' ∧ ((v = .tup [.agg [.nsl, .i .i64 0], .i .i64 14] ∧ ∃ g ∈ l, rightB g = false) ∨ v = .tup [.agg [.nsl, .i .i64 0], .i .i64 20] ∨
    ∃ lo N, v = .tup [.agg [lo, .i .i64 N.root], .i .i64 0] ∧ Hds H' lo N.l ∧ LubA l N join ∧ Nm (20 * l.length) N ∧ ∀ g ∈ l, RG g)

theorem ex_same {H : Heap} {q : Nat} {ob : AObj} (h : H.get q = some ob) : Ex (H.put q ob) H := by
  refine ⟨Nat.le_refl _, fun i _ o ho => ?_⟩
  rw [Heap.get_put] at ho
  split at ho
  · rename_i hi
    rw [hi, h]; exact ho
  · exact ho

def Iv15 (H : Heap) (v : AVal) (l : List Gr) (join : Bool) (q4 q6 : Nat) (r : Nat) (T : Tm) (H' : Heap) : Prop :=
  Ex H H' ∧ T.get 1 = some (.b join) ∧ T.get 4 = some (.p q4 0) ∧ T.get 6 = some (.p q6 0) ∧ T.get 14 = some v ∧ T.get 15 = some (.i .i64 (l.length : Int)) ∧ H.nx ≤ q4 ∧ H.nx ≤ q6 ∧ q4 < H'.nx ∧ q6 < H'.nx ∧ q4 ≠ q6 ∧ H'.get q4 = some (.row [.nsl, .i .i64 0] true) ∧
  ∃ (j : Nat) (lo : AVal) (o : Gr), j + r = l.length ∧ T.get 16 = some (.i .i64 (j : Int)) ∧ H'.get q6 = some (.row [lo, .i .i64 o.root] true) ∧ (∀ ob, Hds (H'.put q4 ob) lo o.l) ∧ LubA (l.take j) o join ∧ Nm (20 * j) o ∧ ∀ g ∈ l.take j, RG g

theorem loop15 {H X2 : Heap} {v lo : AVal} {l : List Gr} {join : Bool} {q4 q6 : Nat} {T : Tm} (hg : Grs H v l) (hf : ∀ g ∈ l, Fits g ∧ Nm 20 g ∧ g.l.length < 100000) (hl : l.length ≤ 4) (e : Ex H X2) (t0 : T.get 0 = some v) (t1 : T.get 1 = some (.b join)) (t4 : T.get 4 = some (.p q4 0)) (t6 : T.get 6 = some (.p q6 0))
    (h4 : H.nx ≤ q4) (h6 : H.nx ≤ q6) (l4 : q4 < X2.nx) (l6 : q6 < X2.nx) (ne : q4 ≠ q6) (g4 : X2.get q4 = some (.row [.nsl, .i .i64 0] true)) (g6 : X2.get q6 = some (.row [lo, .i .i64 0] true)) (hd : ∀ ob, Hds (X2.put q4 ob) lo (basicG (if join then 6 else 5)).l) :
    runO r15_4 T X2 (seqK (run (.mask [1, 4, 6, 14, 15, 16] (.block 0 l15_0.loop))) (seqK (run (.mask [4, 6] ((ACode.region r15_12).seq .ret))) (retK [ARes.cell 4 2 true, ARes.tmp 5] (AllR H l join)))) := by
  simp [r15_4, t0, t1, t4, t6, hg.len]
  refine Loop.by (Iv15 H v l join q4 q6) l.length ?_ ?_
  · exact ⟨e, by simp [t1], by simp [t4], by simp [t6], by simp, by simp, h4, h6, l4, l6, ne, g4, 0, lo, basicG (if join then 6 else 5), by omega, by simp, g6, hd, LubA.nil join, nm_basic _, fun g hg => by simp at hg⟩
  · rintro r T H1 ⟨e1, t1, t4, t6, t14, t15, a4, a6, b4, b6, ne, g4, j, lo, o, hj, t16, g6, hd, lub, nm, rgs⟩
    have hd1 : Hds H1 lo o.l := (hd _).ex (ex_same g4)
    by_cases hlt : j < l.length
    · obtain ⟨g, hgj⟩ : ∃ y, l[j]? = some y := ⟨_, List.getElem?_eq_getElem hlt⟩
      have hlt' : (j : Int) < (l.length : Int) := by omega
      obtain ⟨w, ld, hw⟩ := (hg.ex e1).at' j g hgj
      obtain ⟨lw, rfl, hlw⟩ := hw
      have cw := hlw.cells
      have hmem := List.mem_of_getElem? hgj
      obtain ⟨fg, ng, lg⟩ := hf g hmem
      obtain ⟨Y1, hY1, d1, L8, G8⟩ := mkY H1 lw g hlw
      have nd1 := d1.nx
      have L6 : aLoad Y1 (.p q6 0) 2 true = some (.agg [lo, .i .i64 o.root]) := by rw [load_agg (o := 0) (n := 2) (d1.get _ b6 _ g6) (by simp)]; rfl
      simp [l15_0, r15_5, r15_6, t1, t4, t6, t14, t15, t16, hlt', sidx_at hg.len hlt, ld, stt H1 lw g.root cw]
      rw [← hY1]
      simp [r15_7, t1, t4, t6, t14, t15, t16, L6, L8 Y1 (Ex.refl _)]
      have fo := rg_fits lub.rg nm (by omega)
      refine Call.mono (call19 (A := o) (B := g) ⟨lo, rfl, hd1.ex d1⟩ (G8 Y1 (Ex.refl _)) fo fg (by have := lub.rg.ok.n1; omega) lg (fun i h hi => (nm.n i h hi).1) (fun i h hi => (ng.n i h hi).1) (by omega)) ?_
      rintro v2 H2 _ hm
      have e2 := hm.1
      have n2 := e2.nx
      have g42 : H2.get q4 = some (.row [.nsl, .i .i64 0] true) := e2.get _ (by omega) _ (d1.get _ b4 _ g4)
      have g62 : H2.get q6 = some (.row [lo, .i .i64 o.root] true) := e2.get _ (by omega) _ (d1.get _ b6 _ g6)
      have hro := (rightB_iff o).2 lub.rg
      -- an error ends it
      have bad : ∀ e : Int, e ≠ 0 → ((e = 14 ∧ ∃ g ∈ l, rightB g = false) ∨ e = 20) → v2 = .tup [.agg [.nsl, .i .i64 0], .i .i64 e] → AllR H l join (.tup [.agg [.nsl, .i .i64 0], .i .i64 e]) (((H2.push (.row [.nsl, .i .i64 0] true)).put H2.nx (.row [.nsl, .i .i64 0] true)).put q4 (.row [.nsl, .i .i64 0] true)) := fun e _ hh _ => by
        refine ⟨⟨by simp; have := e1.nx; omega, fun i hi ob ho => ?_⟩, ?_⟩
        · have := e1.nx
          rw [Heap.get_put, if_neg (by omega), Heap.get_put, if_neg (by omega), get_push_old (by omega)]
          exact e2.get _ (by omega) _ (d1.get _ (by omega) _ (e1.get _ hi _ ho))
        · rcases hh with ⟨rfl, hh⟩ | rfl
          · exact .inl ⟨rfl, hh⟩
          · exact .inr (.inl rfl)
      obtain ⟨Z, hZ⟩ : ∃ P, P = (H2.push (.row [.nsl, .i .i64 0] true)).put H2.nx (.row [.nsl, .i .i64 0] true) := ⟨_, rfl⟩
      have gz : Z.get q4 = some (.row [.nsl, .i .i64 0] true) := by rw [hZ, Heap.get_put, if_neg (by omega), get_push_old (by omega)]; exact g42
      have stz : aStore Z (.p q4 0) (.agg [.nsl, .i .i64 0]) 2 = some (Z.put q4 (.row [.nsl, .i .i64 0] true)) := by simp [aStore, gz, splice]
      have ldz : aLoad (Z.put q4 (.row [.nsl, .i .i64 0] true)) (.p q4 0) 2 true = some (.agg [.nsl, .i .i64 0]) := by rw [load_agg (o := 0) (n := 2) (cs := [.nsl, .i .i64 0]) (own := true) (by rw [Heap.get_put, if_pos rfl]) (by simp)]; rfl
      rw [← hZ] at bad
      cases hr : rightB g with
      | false =>
        have hv : v2 = _ := hm.2.1 (by rw [hr]; simp)
        have hA := bad 14 (by omega) (.inl ⟨rfl, g, hmem, hr⟩) hv
        subst hv
        simp only [kC, putO_some]
        simp [stt H2 .nsl 0 rfl, r15_8, aEq, r15_9, t4, aFill]
        rw [← hZ]
        simp [stz, ldz, t4]
        exact hA
      | true =>
        rcases hm.2.2 (by rw [hro, hr]; rfl) with ⟨hv, _⟩ | ⟨w, N, rfl, hN, hm'⟩
        · have hA := bad 20 (by omega) (.inr rfl) hv
          subst hv
          simp only [kC, putO_some]
          simp [stt H2 .nsl 0 rfl, r15_8, aEq, r15_9, t4, aFill]
          rw [← hZ]
          simp [stz, ldz, t4]
          exact hA
        · have hrg := (rightB_iff g).1 hr
          obtain ⟨h1, h2⟩ := hm'.lub lub.rg hrg nm ng
          have hN' := hN
          obtain ⟨l2, hl2e, hl2⟩ := hN.gr
          subst hl2e
          obtain ⟨Y2, hY2, d2, L9, G9⟩ := mkY H2 l2 N hl2
          have c2 := hl2.cells
          have nY2 : Y2.nx = H2.nx + 1 := by rw [hY2]; rfl
          have st6 : aStore Y2 (.p q6 0) (.agg [l2, .i .i64 N.root]) 2 = some (Y2.put q6 (.row [l2, .i .i64 N.root] true)) := by simp [aStore, d2.get _ (by omega) _ g62, splice, c2]
          simp only [kC, putO_some]
          simp [stt H2 l2 N.root c2]
          rw [← hY2]
          simp [r15_8, aEq, t1, t4, t6, t14, t15, t16, r15_10, L9 Y2 (Ex.refl _), st6, r15_11, b_inc (show j < 4611686018427387904 by omega)]
          have tk : l.take (j + 1) = l.take j ++ [g] := by
            rw [List.take_add_one, hgj]; rfl
          refine ⟨r - 1, by omega, ⟨by simp; have := e1.nx; omega, fun i hi ob ho => ?_⟩, by simp [t1], by simp [t4], by simp [t6], by simp [t14], by simp [t15], a4, a6, by simp; omega, by simp; omega, ne, ?_, j + 1, l2, N, by omega, by simp, ?_, fun ob => ?_, ?_, ?_, ?_⟩
          · have := e1.nx
            rw [Heap.get_put, if_neg (by omega)]
            exact d2.get _ (by omega) _ (e2.get _ (by omega) _ (d1.get _ (by omega) _ (e1.get _ hi _ ho)))
          · rw [Heap.get_put, if_neg ne]
            exact d2.get _ (by omega) _ g42
          · rw [Heap.get_put, if_pos rfl]
          · have fr := hN'.fr (m := Y1.nx) (H' := ((Y2.put q6 (.row [l2, .i .i64 N.root] true)).put q4 ob)) (S := [some q6, some q4]) ⟨by simp; omega, fun i hi hm ob' ho => by
              simp at hm
              rw [Heap.get_put, if_neg hm.2, Heap.get_put, if_neg hm.1]
              exact d2.get _ hi _ ho⟩ (fun i hi => by simp at hi; omega) (by simp) (Nat.le_refl _)
            obtain ⟨l3, he, h3⟩ := fr.gr
            simp only [AVal.agg.injEq, List.cons.injEq] at he
            have h33 := h3
            rw [← he.1] at h33; exact h33
          · rw [tk]; exact lub.snoc rgs hrg h1
          · rw [Nat.mul_add]; exact h2
          · rw [tk]
            intro x hx
            rcases List.mem_append.1 hx with hx | hx
            · exact rgs x hx
            · obtain rfl := List.mem_singleton.1 hx
              exact hrg
    · have hlt' : ¬ (j : Int) < (l.length : Int) := by omega
      have hj' : j = l.length := by omega
      subst hj'
      rw [List.take_length] at lub rgs
      have L6 : aLoad H1 (.p q6 0) 2 true = some (.agg [lo, .i .i64 o.root]) := by rw [load_agg (o := 0) (n := 2) g6 (by simp)]; rfl
      have co := hd1.cells
      have st4 : aStore H1 (.p q4 0) (.agg [lo, .i .i64 o.root]) 2 = some (H1.put q4 (.row [lo, .i .i64 o.root] true)) := by simp [aStore, g4, splice, co]
      have ld4 : aLoad (H1.put q4 (.row [lo, .i .i64 o.root] true)) (.p q4 0) 2 true = some (.agg [lo, .i .i64 o.root]) := by rw [load_agg (o := 0) (n := 2) (cs := [lo, .i .i64 o.root]) (own := true) (by rw [Heap.get_put, if_pos rfl]) (by simp)]; rfl
      simp [l15_0, r15_5, t1, t4, t6, t14, t15, t16, hlt', r15_12, L6, st4, ld4]
      refine ⟨⟨by simp; have := e1.nx; omega, fun i hi ob ho => ?_⟩, .inr (.inr ⟨lo, o, rfl, hd _, lub, nm, rgs⟩)⟩
      rw [Heap.get_put, if_neg (by omega)]
      exact e1.get _ hi _ ho

theorem call15 {H : Heap} {v : AVal} {l : List Gr} {join : Bool} (hg : Grs H v l) (hf : ∀ g ∈ l, Fits g ∧ Nm 20 g ∧ g.l.length < 100000) (hl : l.length ≤ 4) : Call 15 [v, .b join] H (AllR H l join) := by
  refine Call.by (a := a15) rfl (by simp [a15]) ?_
  simp [a15, c15, r15_0, r15_1]
  obtain ⟨X0, hX0⟩ : ∃ P, P = H.push (.row [.nsl, .i .i64 0] true) := ⟨_, rfl⟩
  have e0 : Ex H X0 := by rw [hX0]; exact (Ex.refl _).push _
  have n0 : X0.nx = H.nx + 1 := by rw [hX0]; rfl
  have g4 : X0.get H.nx = some (.row [.nsl, .i .i64 0] true) := by rw [hX0]; exact get_push_nx _ _
  rw [← hX0]
  refine Call.mono (call23q (k := 5) ⟨by omega, by omega⟩) ?_
  rintro v0 H1 _ ⟨e1, q, rfl, hq1, hq2, hgq⟩
  have n1 := e1.nx
  obtain ⟨X1, hX1⟩ : ∃ P, P = (H1.push (.row [.nsl, .i .i64 0] true)).put H1.nx (.row [.sl q 0 1 (some 1) 4, .i .i64 0] true) := ⟨_, rfl⟩
  have eX1 : Ex H1 X1 := by rw [hX1]; exact ((Ex.refl _).push _).put (Nat.le_refl _) _
  have nX1 : X1.nx = H1.nx + 1 := by rw [hX1]; rfl
  have g6 : X1.get H1.nx = some (.row [.sl q 0 1 (some 1) 4, .i .i64 0] true) := by rw [hX1, Heap.get_put, if_pos rfl]
  simp [kC, stt H1 (.sl q 0 1 (some 1) 4) 0 rfl]
  rw [← hX1]
  have g41 := eX1.get _ (by omega) _ (e1.get _ (by omega) _ g4)
  have gq1 := eX1.get _ hq2 _ hgq
  cases join with
  | false =>
    simp [r15_2]
    refine loop15 (join := false) hg hf hl (e0.trans (e1.trans eX1)) (q4 := H.nx) (q6 := H1.nx) ?_ ?_ ?_ ?_ (Nat.le_refl _) (by omega) (by omega) (by omega) (by omega) g41 g6 (fun ob => basic_hds (by simp; omega) (by rw [Heap.get_put, if_neg (by omega)]; exact gq1)) <;> simp
  | true =>
    simp [r15_2, r15_3]
    refine Call.mono (call23q (k := 6) ⟨by omega, by omega⟩) ?_
    rintro v2 H2 _ ⟨e2, q2, rfl, hq21, hq22, hgq2⟩
    have n2 := e2.nx
    have st : aStore H2 (.p H1.nx 0) (.agg [.sl q2 0 1 (some 1) 4, .i .i64 0]) 2 = some (H2.put H1.nx (.row [.sl q2 0 1 (some 1) 4, .i .i64 0] true)) := by simp [aStore, e2.get _ (by omega) _ g6, splice]
    simp [kC, st]
    have ee : Ex H (H2.put H1.nx (.row [.sl q2 0 1 (some 1) 4, .i .i64 0] true)) := ⟨by simp; omega, fun i hi o ho => by
      rw [Heap.get_put, if_neg (by omega)]
      exact e2.get _ (by omega) _ (eX1.get _ (by omega) _ (e1.get _ (by omega) _ (e0.get _ hi _ ho)))⟩
    refine loop15 (join := true) hg hf hl ee (q4 := H.nx) (q6 := H1.nx) ?_ ?_ ?_ ?_ (Nat.le_refl _) (by omega) (by simp; omega) (by simp; omega) (by omega) (by rw [Heap.get_put, if_neg (by omega)]; exact e2.get _ (by omega) _ g41) (by rw [Heap.get_put, if_pos rfl]) (fun ob => basic_hds (by simp; omega) (by rw [Heap.get_put, if_neg (by omega), Heap.get_put, if_neg (by omega)]; exact hgq2)) <;> simp


theorem AllR.right {H H' : Heap} {l : List Gr} {join : Bool} {v : AVal} (h : AllR H l join v H') (hr : ∀ g ∈ l, RG g) : Ex H H' ∧ ∃ (lx : AVal) (rx ex : Int), v = .tup [.agg [lx, .i .i64 rx], .i .i64 ex] ∧ lx.cells? = some [lx] ∧
    ((ex = 20) ∨ (ex = 0 ∧ ∃ N : Gr, rx = N.root ∧ Hds H' lx N.l ∧ LubA l N join ∧ Nm (20 * l.length) N)) := by
  refine ⟨h.1, ?_⟩
  rcases h.2 with ⟨_, g, hg, h1⟩ | rfl | ⟨lo, N, rfl, h1, h2, h3, _⟩
  · rw [(rightB_iff g).2 (hr g hg)] at h1
    cases h1
  · exact ⟨.nsl, 0, 20, rfl, rfl, .inl rfl⟩
  · exact ⟨lo, N.root, 0, rfl, h1.cells, .inr ⟨rfl, N, rfl, h1, h2, h3⟩⟩

theorem LubA.eqv {l m : List Gr} {A B : Gr} {join : Bool} (h : LubA l A join) (k : LubA m B join) (hs : ∀ g, g ∈ l ↔ g ∈ m) : (belB A B && belB B A) = true := by
  have h1 : Bw join A B := h.le B k.rg.ok fun g hg => k.u g ((hs g).1 hg)
  have h2 : Bw join B A := k.le A h.rg.ok fun g hg => h.u g ((hs g).2 hg)
  cases join
  · exact eqB h2 h1
  · exact eqB h1 h2

theorem call6 (h8 : Lives) {H : Heap} {va vb vc : AVal} {a b c : Gr} {join : Bool} (ga : GrOf H va a) (gb : GrOf H vb b) (gc : GrOf H vc c) (sa : Szs a) (sb : Szs b) (sc : Szs c) : Call 6 [va, vb, vc, .b join] H fun v _ => v = .b true := by
  obtain ⟨la, rfl, ha⟩ := ga
  obtain ⟨lb, rfl, hb⟩ := gb
  obtain ⟨lc, rfl, hc⟩ := gc
  have ca := ha.cells
  have cb := hb.cells
  have cc := hc.cells
  refine Call.by (a := a6) rfl (by simp [a6]) ?_
  simp [a6, c6, r6_0]
  obtain ⟨X, hX⟩ : ∃ P, P = ((H.push (.row [la, .i .i64 a.root] true)).push (.row [lb, .i .i64 b.root] true)).push (.row [lc, .i .i64 c.root] true) := ⟨_, rfl⟩
  have nX : X.nx = H.nx + 3 := by rw [hX]; rfl
  have eX : Ex H X := by rw [hX]; exact (((Ex.refl _).push _).push _).push _
  have g3 : X.get H.nx = some (.row [la, .i .i64 a.root] true) := by rw [hX, get_push_old (by simp; omega), get_push_old (by simp)]; exact get_push_nx _ _
  have g4 : X.get (H.nx + 1) = some (.row [lb, .i .i64 b.root] true) := by rw [hX, get_push_old (by simp)]; exact get_push_nx _ _
  have g5 : X.get (H.nx + 2) = some (.row [lc, .i .i64 c.root] true) := by rw [hX]; exact get_push_nx _ _
  have l3 : aLoad X (.p H.nx 0) 2 true = some (.agg [la, .i .i64 a.root]) := by rw [load_agg (o := 0) (n := 2) g3 (by simp)]; rfl
  have l4 : aLoad X (.p (H.nx + 1) 0) 2 true = some (.agg [lb, .i .i64 b.root]) := by rw [load_agg (o := 0) (n := 2) g4 (by simp)]; rfl
  have l5 : aLoad X (.p (H.nx + 2) 0) 2 true = some (.agg [lc, .i .i64 c.root]) := by rw [load_agg (o := 0) (n := 2) g5 (by simp)]; rfl
  rw [← hX]
  simp [r6_1]
  refine Call.is (h8 X) ?_
  have hdr : List.drop 6 (List.map (fun i => ([AVal.nsl, AVal.i .i64 0] : List AVal)[i % 2]?.getD AVal.ni) (List.range 6)) = [] := rfl
  obtain ⟨X1, hX1⟩ : ∃ P, P = X.push (.row [la, .i .i64 a.root, lb, .i .i64 b.root, lc, .i .i64 c.root] true) := ⟨_, rfl⟩
  have e1 : Ex X X1 := by rw [hX1]; exact (Ex.refl _).push _
  have n1 : X1.nx = X.nx + 1 := by rw [hX1]; rfl
  have g1 : X1.get X.nx = some (.row [la, .i .i64 a.root, lb, .i .i64 b.root, lc, .i .i64 c.root] true) := by rw [hX1]; exact get_push_nx _ _
  have L3 : ∀ G, Ex X G → aLoad G (.p H.nx 0) 2 true = some (.agg [la, .i .i64 a.root]) := fun G e => load_ex e (by omega) l3
  have L4 : ∀ G, Ex X G → aLoad G (.p (H.nx + 1) 0) 2 true = some (.agg [lb, .i .i64 b.root]) := fun G e => load_ex e (by omega) l4
  have L5 : ∀ G, Ex X G → aLoad G (.p (H.nx + 2) 0) 2 true = some (.agg [lc, .i .i64 c.root]) := fun G e => load_ex e (by omega) l5
  have M3 : ∀ G, Ex X G → aLoad G (.p H.nx 0) 1 false = some la := fun G e => load_ex e (by omega) (by rw [load_row g3]; rfl)
  have M4 : ∀ G, Ex X G → aLoad G (.p (H.nx + 1) 0) 1 false = some lb := fun G e => load_ex e (by omega) (by rw [load_row g4]; rfl)
  have M5 : ∀ G, Ex X G → aLoad G (.p (H.nx + 2) 0) 1 false = some lc := fun G e => load_ex e (by omega) (by rw [load_row g5]; rfl)
  simp [kC, l3, l4, l5, n_bsl, aFill, splice, ca, cb, cc, hdr]
  rw [← hX1]
  refine Call.is (call9 (grs3 (by omega) g1 (ha.ex (eX.trans e1)) (hb.ex (eX.trans e1)) (hc.ex (eX.trans e1))) (fun g hg => by
    simp at hg
    rcases hg with rfl | rfl | rfl
    · exact sa
    · exact sb
    · exact sc) (by simp)) ?_
  cases hok : okAll [a, b, c] with
  | false =>
    simp [kC, r6_2]
    refine Call.is (h8 X1) ?_
    simp [kC]
  | true =>
    simp only [okAll_cons, Bool.and_eq_true] at hok
    obtain ⟨ha1, hb1, hc1, _⟩ := hok
    obtain ⟨ra, fa, na, la25⟩ := okB_right ha1
    obtain ⟨rb, fb, nb, lb25⟩ := okB_right hb1
    obtain ⟨rc, fc, nc, lc25⟩ := okB_right hc1
    simp [kC, M3 X1 e1, ha.len]
    by_cases h1 : 5 < a.l.length
    · have h1i : (5 : Int) < (a.l.length : Int) := by omega
      simp [h1, h1i, r6_2]
      refine Call.is (h8 X1) ?_
      simp [kC]
    have h1i : ¬ (5 : Int) < (a.l.length : Int) := by omega
    simp [h1, h1i, M4 X1 e1, hb.len]
    by_cases h2 : 5 < b.l.length
    · have h2i : (5 : Int) < (b.l.length : Int) := by omega
      simp [h2, h2i, r6_2]
      refine Call.is (h8 X1) ?_
      simp [kC]
    have h2i : ¬ (5 : Int) < (b.l.length : Int) := by omega
    simp [h2, h2i, M5 X1 e1, hc.len]
    by_cases h3 : 5 < c.l.length
    · have h3i : (5 : Int) < (c.l.length : Int) := by omega
      simp [h3, h3i, r6_2]
      refine Call.is (h8 X1) ?_
      simp [kC]
    have h3i : ¬ (5 : Int) < (c.l.length : Int) := by omega
    obtain ⟨X2, hX2⟩ : ∃ P, P = X1.push (.row [la, .i .i64 a.root, lb, .i .i64 b.root, lc, .i .i64 c.root] true) := ⟨_, rfl⟩
    have e2 : Ex X1 X2 := by rw [hX2]; exact (Ex.refl _).push _
    have n2 : X2.nx = X1.nx + 1 := by rw [hX2]; rfl
    have g2 : X2.get X1.nx = some (.row [la, .i .i64 a.root, lb, .i .i64 b.root, lc, .i .i64 c.root] true) := by rw [hX2]; exact get_push_nx _ _
    have e02 := e1.trans e2
    simp [h3, h3i, r6_3, L3 X1 e1, L4 X1 e1, L5 X1 e1, n_bsl, aFill, splice, ca, cb, cc, hdr]
    rw [← hX2]
    refine Call.mono (call15 (join := join) (grs3 (by omega) g2 (ha.ex (eX.trans e02)) (hb.ex (eX.trans e02)) (hc.ex (eX.trans e02))) (fun g hg => by
      simp at hg
      rcases hg with rfl | rfl | rfl
      · exact ⟨fa, na, by omega⟩
      · exact ⟨fb, nb, by omega⟩
      · exact ⟨fc, nc, by omega⟩) (by simp)) ?_
    rintro v X3 _ m1
    obtain ⟨e3, lx, rx, ex, rfl, cx, hx⟩ := m1.right (fun g hg => by
      simp at hg
      rcases hg with rfl | rfl | rfl
      · exact ra
      · exact rb
      · exact rc)
    obtain ⟨Y1, hY1⟩ : ∃ P, P = (X3.push (.row [.nsl, .i .i64 0] true)).put X3.nx (.row [lx, .i .i64 rx] true) := ⟨_, rfl⟩
    have d1 : Ex X3 Y1 := by rw [hY1]; exact ((Ex.refl _).push _).put (Nat.le_refl _) _
    have nY1 : Y1.nx = X3.nx + 1 := by rw [hY1]; rfl
    have gY1 : Y1.get X3.nx = some (.row [lx, .i .i64 rx] true) := by rw [hY1, Heap.get_put, if_pos rfl]
    have y1 := e02.trans (e3.trans d1)
    simp only [kC, putO_some]
    simp [stt X3 lx rx cx]
    rw [← hY1]
    obtain ⟨X4, hX4⟩ : ∃ P, P = Y1.push (.row [lc, .i .i64 c.root, la, .i .i64 a.root, lb, .i .i64 b.root] true) := ⟨_, rfl⟩
    have e4 : Ex Y1 X4 := by rw [hX4]; exact (Ex.refl _).push _
    have n4 : X4.nx = Y1.nx + 1 := by rw [hX4]; rfl
    have g4 : X4.get Y1.nx = some (.row [lc, .i .i64 c.root, la, .i .i64 a.root, lb, .i .i64 b.root] true) := by rw [hX4]; exact get_push_nx _ _
    have e04 := y1.trans e4
    simp [r6_4, L3 Y1 y1, L4 Y1 y1, L5 Y1 y1, n_bsl, aFill, splice, ca, cb, cc, hdr]
    rw [← hX4]
    refine Call.mono (call15 (join := join) (grs3 (by omega) g4 (hc.ex (eX.trans e04)) (ha.ex (eX.trans e04)) (hb.ex (eX.trans e04))) (fun g hg => by
      simp at hg
      rcases hg with rfl | rfl | rfl
      · exact ⟨fc, nc, by omega⟩
      · exact ⟨fa, na, by omega⟩
      · exact ⟨fb, nb, by omega⟩) (by simp)) ?_
    rintro v X5 _ m2
    obtain ⟨e5, ly, ry, ey, rfl, cy, hy⟩ := m2.right (fun g hg => by
      simp at hg
      rcases hg with rfl | rfl | rfl
      · exact rc
      · exact ra
      · exact rb)
    obtain ⟨Y2, hY2⟩ : ∃ P, P = (X5.push (.row [.nsl, .i .i64 0] true)).put X5.nx (.row [ly, .i .i64 ry] true) := ⟨_, rfl⟩
    have d2 : Ex X5 Y2 := by rw [hY2]; exact ((Ex.refl _).push _).put (Nat.le_refl _) _
    have gY2 : Y2.get X5.nx = some (.row [ly, .i .i64 ry] true) := by rw [hY2, Heap.get_put, if_pos rfl]
    have z1 : Ex Y1 Y2 := e4.trans (e5.trans d2)
    simp only [kC, putO_some]
    simp [stt X5 ly ry cy]
    rw [← hY2]
    rcases hx with rfl | ⟨rfl, N, rfl, hN, lubN, nmN⟩
    · simp [r6_5, aEq, r6_6]
    rcases hy with rfl | ⟨rfl, M, rfl, hM, lubM, nmM⟩
    · simp [r6_5, aEq, r6_6]
    have lN : aLoad Y2 (.p X3.nx 0) 2 true = some (.agg [lx, .i .i64 N.root]) := by rw [load_agg (o := 0) (n := 2) (z1.get _ (by omega) _ gY1) (by simp)]; rfl
    have lM : aLoad Y2 (.p X5.nx 0) 2 true = some (.agg [ly, .i .i64 M.root]) := by rw [load_agg (o := 0) (n := 2) gY2 (by simp)]; rfl
    simp [r6_5, aEq, r6_7, lN, lM]
    refine Call.is (call12 (a := N) (b := M) ⟨lx, rfl, hN.ex (d1.trans z1)⟩ ⟨ly, rfl, hM.ex d2⟩ lubN.rg.ok lubM.rg.ok (rg_fits lubN.rg nmN (by simp)) (rg_fits lubM.rg nmM (by simp))) ?_
    rw [lubN.eqv lubM (fun g => by simp; constructor <;> (intro h; rcases h with h | h | h <;> simp [h]))]
    simp [kC]

end
end K
end Go.Proofs.YtlgbgbngdhhjaaaGreatDoor

set_option maxRecDepth 100000
namespace Go.Proofs.YtlgbgbngdhhjaaaGreatDoor
open Go AM ChangeShapes WideShapes RowKit K

theorem latticeThree_lifted (os : Os) (started : os.Started) (H : Type) (enc : TypeId × Value → H) :
    ReturnsInHanded {} Tryz.checked os 6 .any (fun w args => (Rows.latticeThreeSpec.pre enc Tryz.prog Tryz.f6 [] false w args ∧ laidMetH Tryz.prog laid3 w) ∧ sizedMet enc Tryz.prog Tryz.f6 (OpenSpec.ofChange Rows.latticeThreeSpec) false w args)
      (Rows.latticeThreeSpec.post enc Tryz.prog Tryz.f6 false true false false) := by
  refine returnsInHanded_of_change_and (C := Tryz.checked) (X := fun w _ => laidMetH Tryz.prog laid3 w) (fun _ _ _ hh h => h.of_heap hh) ownNone started (by kernel_rfl) Tryz.func6
    (ChangeSpec.witness_shaped (enc := enc) (C := Tryz.checked) (os := os) (X := fun w _ => laidMetH Tryz.prog laid3 w) false (World.doorLaid Tryz.prog 24 os) #[g0, g0, g0, .bool false] 8 rfl (World.shaped_of_RefB (by kernel_rfl) (by kernel_rfl)) (by kernel_rfl) (by kernel_rfl) (by kernel_rfl) (door_met os _)) ?_
  intro W base args ds gs before hval0 hW _ hsz hL _
  have hval : ∀ (j : Nat) t v, Tryz.f6.params[j]? = some t → args[j]? = some v → Value.okWide Tryz.prog W .any base t v := hval0
  have hW2 := hW
  obtain ⟨p, q, hA0, hV, rfl, _, _⟩ := hW
  have hA : DataW.TrodAll enc Tryz.prog W 0 (fun _ => true) true Tryz.f6.params.toList args.toList ds p := hA0
  have hz : (DataW.weightsEach Tryz.prog (Tryz.f6.params.toList ++ Rows.latticeThreeSpec.plain.varTypes Tryz.prog) (ds ++ gs)).all (· ≤ reachBytes) = true := hsz
  rw [Tryz.params6] at hA hval hz
  obtain ⟨rfl, rfl⟩ := trodVars_none hV
  obtain ⟨v0, w0, d0, x0, p0, q0, a0, rfl, rfl, h0, t0⟩ := trodAll_cons hA
  obtain ⟨v1, w1, d1, x1, p1, q1, a1, rfl, rfl, h1, t1⟩ := trodAll_cons t0
  obtain ⟨v2, w2, d2, x2, p2, q2, a2, rfl, rfl, h2, t2⟩ := trodAll_cons t1
  obtain ⟨v3, w3, d3, x3, p3, q3, a3, rfl, rfl, h3, t3⟩ := trodAll_cons t2
  obtain ⟨z1, rfl, rfl⟩ := trodAll_nil t3
  have hargs : args.toList = [v0, v1, v2, v3] := by rw [a0, a1, a2, a3, z1]
  obtain rfl : args = #[v0, v1, v2, v3] := by apply Array.ext'; simpa using hargs
  have g := good_of_laid hL
  obtain ⟨θ, H0, s⟩ := sn0 g
  have hw0 : Lt d0 24 := fun n hn => by simpa using List.all_eq_true.1 hz n (DataW.weights_mem_each (j := 0) rfl rfl n hn)
  obtain ⟨θ0, H1, u0, A0, s0, l0, e0, r0, ga0, sa0⟩ := s.arg (hval 0 24 v0 rfl rfl) h0 hw0
  have hw1 : Lt d1 24 := fun n hn => by simpa using List.all_eq_true.1 hz n (DataW.weights_mem_each (j := 1) rfl rfl n hn)
  obtain ⟨θ1, H2, u1, A1, s1, l1, e1, r1, ga1, sa1⟩ := s0.arg (hval 1 24 v1 rfl rfl) h1 hw1
  have hw2 : Lt d2 24 := fun n hn => by simpa using List.all_eq_true.1 hz n (DataW.weights_mem_each (j := 2) rfl rfl n hn)
  obtain ⟨θ2, H3, u2, A2, s2, l2, e2, r2, ga2, sa2⟩ := s1.arg (hval 2 24 v2 rfl rfl) h2 hw2
  obtain ⟨b3, e4, rfl, _⟩ := open_bool uT4 (hval 3 4 v3 rfl rfl) h3
  subst e4
  refine (ends s2 g (args := [u0, u1, u2, .b b3]) (us := #[v0, v1, v2, .bool b3]) ⟨_, _, rfl, (r0.mono (l1.trans (l2))), ⟨_, _, rfl, (r1.mono (l2)), ⟨_, _, rfl, r2, ⟨_, _, rfl, rfl, rfl⟩⟩⟩⟩ (call6 lives (ga0.ex ((e1.trans e2))) (ga1.ex (e2)) ga2 sa0 sa1 sa2)).mono fun e w2 h => ?_
  obtain ⟨rfl, h⟩ := h
  exact ⟨_, rfl, post_true (by rw [Tryz.params6]; intro t ht; simp at ht; (rcases ht with rfl | rfl <;> first | exact read24 | exact read4)) rfl rfl hW2 (fun _ => rfl) h⟩

theorem latticeThree_holds : Rows.LatticeThreeSaid :=
  OpenClaim.holds_of_wide 6 Tryz.f6 rfl rfl rfl rfl rfl rfl rfl ⟨rfl, rfl, rfl, rfl, rfl⟩ rfl rfl rfl rfl rfl (by kernel_rfl) Tryz.func6 (by kernel_rfl)
    (of_decide_eq_true (by kernel_rfl)) (by unfold Func.isWrapper; first | (rw [if_pos (by decide +kernel)]; kernel_rfl) | (rw [if_neg (by decide +kernel)]; exact ⟨rfl, rfl⟩))
    (fun os started H enc _ => latticeThree_lifted os started H enc)

theorem latticeThree_card : Rows.LatticeThreeCardSaid :=
  Claim7.holds_tied_plain_at .later [] [.data, .data, .data] true (true, "485a50cdda381f550d80658d9d8f8f96a93b519eb2bf32fa582a733cf7f37661") true
    latticeThree_holds (fun _ h => by cases h) (by kernel_rfl) (fun _ h => by cases h) latticeThree_row_tie rfl ⟨rfl, rfl⟩ (by kernel_rfl) rfl
    (fun f fn hf hfn => by
      obtain rfl : f = 6 := Option.some.inj ((show Tryz.prog.funcNamed "azimuth/azimuthlaw11.LatticeThree" = some 6 by kernel_rfl).symm.trans hf) |>.symm
      obtain rfl : fn = Tryz.f6 := (Option.some.inj (Tryz.func6.symm.trans hfn)).symm
      exact ⟨by kernel_rfl, fun j t ht => by
        rw [Tryz.params6] at ht
        have hm : t ∈ [24, 24, 24, 4] := by simpa using Array.mem_of_getElem? ht
        have hall : ([24, 24, 24, 4].all fun u => !Tryz.prog.wantsStandIn u) = true := by kernel_rfl
        exact (show Tryz.prog.wantsStandIn t = false by simpa using List.all_eq_true.1 hall t hm)⟩)
    (by kernel_rfl)
#print axioms latticeThree_card
end Go.Proofs.YtlgbgbngdhhjaaaGreatDoor
