/- Whatever the arguments, the law azimuthlaw11.LatticeRules answers true and leaves them as they read: joins and meets hang on no order, and are what they are to be of a graph and itself, and of one below another. Condition: the three variables of the library that the row lists hold what the program's text lays (the card ties that). -/
import Derived.Test.YtlgbgbngdhhjaaaGreatDoorB12
import Derived.Test.YtlgbgbngdhhjaaaGreatDoorB18
import Derived.Test.YtlgbgbngdhhjaaaGreatDoorCards
set_option linter.unusedSimpArgs false
set_option linter.unusedVariables false
set_option maxRecDepth 10000
namespace Go.Proofs.YtlgbgbngdhhjaaaGreatDoor
namespace K
noncomputable section
open Go AM

/-- A result is put into a place of its own. -/
theorem call5 (h8 : Lives) {H : Heap} {va vb : AVal} {a b : Gr} (ga : GrOf H va a) (gb : GrOf H vb b) (sa : Szs a) (sb : Szs b) : Call 5 [va, vb] H fun v _ => v = .b true := by
  obtain ⟨la, rfl, ha⟩ := ga
  obtain ⟨lb, rfl, hb⟩ := gb
  have ca := ha.cells
  have cb := hb.cells
  refine Call.by (a := a5) rfl (by simp [a5]) ?_
  simp [a5, c5, r5_0]
  obtain ⟨X, hX⟩ : ∃ P, P = (H.push (.row [la, .i .i64 a.root] true)).push (.row [lb, .i .i64 b.root] true) := ⟨_, rfl⟩
  have nX : X.nx = H.nx + 2 := by rw [hX]; rfl
  have eX : Ex H X := by rw [hX]; exact ((Ex.refl _).push _).push _
  have g3 : X.get H.nx = some (.row [la, .i .i64 a.root] true) := by rw [hX, get_push_old (by simp)]; exact get_push_nx _ _
  have g4 : X.get (H.nx + 1) = some (.row [lb, .i .i64 b.root] true) := by rw [hX]; exact get_push_nx _ _
  have l3 : aLoad X (.p H.nx 0) 2 true = some (.agg [la, .i .i64 a.root]) := by rw [load_agg (o := 0) (n := 2) g3 (by simp)]; rfl
  have l4 : aLoad X (.p (H.nx + 1) 0) 2 true = some (.agg [lb, .i .i64 b.root]) := by rw [load_agg (o := 0) (n := 2) g4 (by simp)]; rfl
  have L3 : ∀ G, Ex X G → aLoad G (.p H.nx 0) 2 true = some (.agg [la, .i .i64 a.root]) := fun G e => load_ex e (by omega) l3
  have L4 : ∀ G, Ex X G → aLoad G (.p (H.nx + 1) 0) 2 true = some (.agg [lb, .i .i64 b.root]) := fun G e => load_ex e (by omega) l4
  have M3 : ∀ G, Ex X G → aLoad G (.p H.nx 0) 1 false = some la := fun G e => load_ex e (by omega) (by rw [load_row g3]; rfl)
  have M4 : ∀ G, Ex X G → aLoad G (.p (H.nx + 1) 0) 1 false = some lb := fun G e => load_ex e (by omega) (by rw [load_row g4]; rfl)
  rw [← hX]
  simp [r5_1]
  refine Call.is (h8 X) ?_
  have hdr : List.drop 4 (List.map (fun i => ([AVal.nsl, AVal.i .i64 0] : List AVal)[i % 2]?.getD AVal.ni) (List.range 4)) = [] := rfl
  obtain ⟨X1, hX1⟩ : ∃ P, P = X.push (.row [la, .i .i64 a.root, lb, .i .i64 b.root] true) := ⟨_, rfl⟩
  have e1 : Ex X X1 := by rw [hX1]; exact (Ex.refl _).push _
  have n1 : X1.nx = X.nx + 1 := by rw [hX1]; rfl
  have g1 : X1.get X.nx = some (.row [la, .i .i64 a.root, lb, .i .i64 b.root] true) := by rw [hX1]; exact get_push_nx _ _
  simp [kC, l3, l4, n_bsl, aFill, splice, ca, cb, hdr]
  rw [← hX1]
  refine Call.is (call9 (grs2 (by omega) g1 (ha.ex (eX.trans e1)) (hb.ex (eX.trans e1))) (fun g hg => by
    simp at hg
    rcases hg with rfl | rfl
    · exact sa
    · exact sb) (by simp)) ?_
  cases hok : okAll [a, b] with
  | false =>
    simp [kC, r5_2]
    refine Call.is (h8 X1) ?_
    simp [kC]
  | true =>
    simp only [okAll_cons, Bool.and_eq_true] at hok
    obtain ⟨ha1, hb1, _⟩ := hok
    obtain ⟨ra, fa, na, la25⟩ := okB_right ha1
    obtain ⟨rb, fb, nb, lb25⟩ := okB_right hb1
    have GA : ∀ G, Ex X G → GrOf G (.agg [la, .i .i64 a.root]) a := fun G e => ⟨la, rfl, ha.ex (eX.trans e)⟩
    have GB : ∀ G, Ex X G → GrOf G (.agg [lb, .i .i64 b.root]) b := fun G e => ⟨lb, rfl, hb.ex (eX.trans e)⟩
    simp [kC, M3 X1 e1, ha.len]
    by_cases h15 : 15 < a.l.length
    · have h15i : (15 : Int) < (a.l.length : Int) := by omega
      simp [h15, h15i, r5_2]
      refine Call.is (h8 X1) ?_
      simp [kC]
    have h15i : ¬ (15 : Int) < (a.l.length : Int) := by omega
    simp [h15, h15i, M4 X1 e1, hb.len]
    by_cases h15b : 15 < b.l.length
    · have h15j : (15 : Int) < (b.l.length : Int) := by omega
      simp [h15b, h15j, r5_2]
      refine Call.is (h8 X1) ?_
      simp [kC]
    have h15j : ¬ (15 : Int) < (b.l.length : Int) := by omega
    have bab := bnd_le (A := a.l) (B := b.l) (n := 15) (m := 15) (by omega) (by omega)
    have bba := bnd_le (A := b.l) (B := a.l) (n := 15) (m := 15) (by omega) (by omega)
    have baa := bnd_le (A := a.l) (B := a.l) (n := 15) (m := 15) (by omega) (by omega)
    simp [h15b, h15j, r5_3, L3 X1 e1, L4 X1 e1]
    refine Call.mono (call11 (GA X1 e1) (GB X1 e1) fa fb (by omega) (by omega) (fun i h hi => (na.n i h hi).1) (fun i h hi => (nb.n i h hi).1) (by omega)) ?_
    rintro v X2 _ m1
    obtain ⟨e2, m1⟩ := m1.two ra rb na nb
    rcases m1 with ⟨_, h⟩ | ⟨lj, j, rfl, hj, Lj, Nj⟩
    · omega
    obtain ⟨Y1, hY1, d1, Lj1, Gj1⟩ := mkY X2 lj j hj
    have y1 := e1.trans (e2.trans d1)
    have cj := hj.cells
    simp only [kC, putO_some]
    simp [stt X2 lj j.root cj]
    rw [← hY1]
    simp [r5_4, L3 Y1 y1, L4 Y1 y1]
    refine Call.mono (call11 (GB Y1 y1) (GA Y1 y1) fb fa (by omega) (by omega) (fun i h hi => (nb.n i h hi).1) (fun i h hi => (na.n i h hi).1) (by omega)) ?_
    rintro v X3 _ m1
    obtain ⟨e3, m1⟩ := m1.two rb ra nb na
    rcases m1 with ⟨_, h⟩ | ⟨lk, k, rfl, hk, Lk, Nk⟩
    · omega
    obtain ⟨Y2, hY2, d2, Lk2, Gk2⟩ := mkY X3 lk k hk
    have z2 := e3.trans d2
    have y2 := y1.trans z2
    have ck := hk.cells
    simp only [kC, putO_some]
    simp [stt X3 lk k.root ck]
    rw [← hY2]
    simp [r5_5, L3 Y2 y2, L4 Y2 y2]
    refine Call.mono (call10 (GA Y2 y2) (GB Y2 y2) fa fb (by omega) (by omega) (fun i h hi => (na.n i h hi).1) (fun i h hi => (nb.n i h hi).1) (by omega)) ?_
    rintro v X4 _ m1
    obtain ⟨e4, m1⟩ := m1.two ra rb na nb
    rcases m1 with ⟨_, h⟩ | ⟨lm, m, rfl, hm, Lm, Nm⟩
    · omega
    obtain ⟨Y3, hY3, d3, Lm3, Gm3⟩ := mkY X4 lm m hm
    have z3 := e4.trans d3
    have y3 := y2.trans z3
    have cm := hm.cells
    simp only [kC, putO_some]
    simp [stt X4 lm m.root cm]
    rw [← hY3]
    simp [r5_6, L3 Y3 y3, L4 Y3 y3]
    refine Call.mono (call10 (GB Y3 y3) (GA Y3 y3) fb fa (by omega) (by omega) (fun i h hi => (nb.n i h hi).1) (fun i h hi => (na.n i h hi).1) (by omega)) ?_
    rintro v X5 _ m1
    obtain ⟨e5, m1⟩ := m1.two rb ra nb na
    rcases m1 with ⟨_, h⟩ | ⟨ln, n, rfl, hn, Ln, Nn⟩
    · omega
    obtain ⟨Y4, hY4, d4, Ln4, Gn4⟩ := mkY X5 ln n hn
    have z4 := e5.trans d4
    have y4 := y3.trans z4
    have cn := hn.cells
    simp only [kC, putO_some]
    simp [stt X5 ln n.root cn]
    rw [← hY4]
    have wj := z2.trans (z3.trans z4)
    have wk := z3.trans z4
    have fj := rg_fits Lj.rg Nj (by omega)
    have fk := rg_fits Lk.rg Nk (by omega)
    have fm := rg_fits Lm.rg Nm (by omega)
    have fn := rg_fits Ln.rg Nn (by omega)
    have jk := eqB (a := j) (b := k) (Lj.le k Lk.rg.ok Lk.ub Lk.ua) (Lk.le j Lj.rg.ok Lj.ub Lj.ua)
    have mn := eqB (a := m) (b := n) (Ln.le m Lm.rg.ok Lm.ub Lm.ua) (Lm.le n Ln.rg.ok Ln.ub Ln.ua)
    simp [r5_7, aEq]
    simp [r5_9, Lj1 Y4 wj, Lk2 Y4 wk]
    refine Call.is (call12 (Gj1 Y4 wj) (Gk2 Y4 wk) Lj.rg.ok Lk.rg.ok fj fk) ?_
    rw [jk]
    simp [kC, Lm3 Y4 z4, Ln4 Y4 (Ex.refl _)]
    refine Call.is (call12 (Gm3 Y4 z4) (Gn4 Y4 (Ex.refl _)) Lm.rg.ok Ln.rg.ok fm fn) ?_
    rw [mn]
    simp [kC]
    have last : ∀ T : Tm, T.get 2 = some (.p H.nx 0) → runO r5_13 T Y4 (seqK (run (.mask [2, 13, 14] (.seq (.region r5_14) (.mask [2, 13, 14, 15, 16] (.seq (.region r5_15) .ret))))) (retK [.tmp 4] fun v _ => v = .b true)) := by
      intro T t2
      simp [r5_13, t2, L3 Y4 y4]
      refine Call.mono (call11 (GA Y4 y4) (GA Y4 y4) fa fa (by omega) (by omega) (fun i h hi => (na.n i h hi).1) (fun i h hi => (na.n i h hi).1) (by omega)) ?_
      rintro v X6 _ m1
      obtain ⟨e6, m1⟩ := m1.two ra ra na na
      rcases m1 with ⟨_, h⟩ | ⟨lx, x, rfl, hx, Lx, Nx⟩
      · omega
      obtain ⟨Y5, hY5, d5, Lx5, Gx5⟩ := mkY X6 lx x hx
      have y5 := y4.trans (e6.trans d5)
      have cx := hx.cells
      simp only [kC, putO_some]
      simp [stt X6 lx x.root cx]
      rw [← hY5]
      simp [r5_14, t2, L3 Y5 y5]
      refine Call.mono (call10 (GA Y5 y5) (GA Y5 y5) fa fa (by omega) (by omega) (fun i h hi => (na.n i h hi).1) (fun i h hi => (na.n i h hi).1) (by omega)) ?_
      rintro v X7 _ m1
      obtain ⟨e7, m1⟩ := m1.two ra ra na na
      rcases m1 with ⟨_, h⟩ | ⟨ly, y, rfl, hy, Ly, Ny⟩
      · omega
      obtain ⟨Y6, hY6, d6, Ly6, Gy6⟩ := mkY X7 ly y hy
      have z6 := e7.trans d6
      have y6 := y5.trans z6
      have cy := hy.cells
      simp only [kC, putO_some]
      simp [stt X7 ly y.root cy]
      rw [← hY6]
      have fx := rg_fits Lx.rg Nx (by omega)
      have fy := rg_fits Ly.rg Ny (by omega)
      have xa := eqB (a := x) (b := a) (Lx.le a ra.ok (Below.refl ra.ok) (Below.refl ra.ok)) Lx.ua
      have ya := eqB (a := y) (b := a) Ly.ua (Ly.le a ra.ok (Below.refl ra.ok) (Below.refl ra.ok))
      simp [r5_15, aEq, Lx5 Y6 z6, t2, L3 Y6 y6]
      refine Call.is (call12 (Gx5 Y6 z6) (GA Y6 y6) Lx.rg.ok ra.ok fx fa) ?_
      rw [xa]
      simp [kC, Ly6 Y6 (Ex.refl _), t2, L3 Y6 y6]
      refine Call.is (call12 (Gy6 Y6 (Ex.refl _)) (GA Y6 y6) Ly.rg.ok ra.ok fy fa) ?_
      rw [ya]
      simp [kC]
    simp [r5_11, L3 Y4 y4, L4 Y4 y4]
    refine Call.is (call14 (GA Y4 y4) (GB Y4 y4) ra.ok rb.ok fa fb) ?_
    cases hab : belB a b with
    | false =>
      simp [kC]
      refine last _ ?_
      simp
    | true =>
      have ab := (belB_iff a b).1 hab
      have jb := eqB (a := j) (b := b) (Lj.le b rb.ok ab (Below.refl rb.ok)) Lj.ub
      have ma := eqB (a := m) (b := a) Lm.ua (Lm.le a ra.ok (Below.refl ra.ok) ab)
      simp [kC, Lj1 Y4 wj, L4 Y4 y4]
      refine Call.is (call12 (Gj1 Y4 wj) (GB Y4 y4) Lj.rg.ok rb.ok fj fb) ?_
      rw [jb]
      simp [kC, Lm3 Y4 z4, L3 Y4 y4]
      refine Call.is (call12 (Gm3 Y4 z4) (GA Y4 y4) Lm.rg.ok ra.ok fm fa) ?_
      rw [ma]
      simp [kC]
      refine last _ ?_
      simp

end
end K
end Go.Proofs.YtlgbgbngdhhjaaaGreatDoor

set_option maxRecDepth 100000
namespace Go.Proofs.YtlgbgbngdhhjaaaGreatDoor
open Go AM ChangeShapes WideShapes RowKit K

theorem latticeRules_lifted (os : Os) (started : os.Started) (H : Type) (enc : TypeId × Value → H) :
    ReturnsInHanded {} Tryz.checked os 5 .any (fun w args => (Rows.latticeRulesSpec.pre enc Tryz.prog Tryz.f5 [] false w args ∧ laidMetH Tryz.prog laid3 w) ∧ sizedMet enc Tryz.prog Tryz.f5 (OpenSpec.ofChange Rows.latticeRulesSpec) false w args)
      (Rows.latticeRulesSpec.post enc Tryz.prog Tryz.f5 false true false false) := by
  refine returnsInHanded_of_change_and (C := Tryz.checked) (X := fun w _ => laidMetH Tryz.prog laid3 w) (fun _ _ _ hh h => h.of_heap hh) ownNone started (by kernel_rfl) Tryz.func5
    (ChangeSpec.witness_shaped (enc := enc) (C := Tryz.checked) (os := os) (X := fun w _ => laidMetH Tryz.prog laid3 w) false (World.doorLaid Tryz.prog 24 os) #[g0, g0] 8 rfl (World.shaped_of_RefB (by kernel_rfl) (by kernel_rfl)) (by kernel_rfl) (by kernel_rfl) (by kernel_rfl) (door_met os _)) ?_
  intro W base args ds gs before hval0 hW _ hsz hL _
  have hval : ∀ (j : Nat) t v, Tryz.f5.params[j]? = some t → args[j]? = some v → Value.okWide Tryz.prog W .any base t v := hval0
  have hW2 := hW
  obtain ⟨p, q, hA0, hV, rfl, _, _⟩ := hW
  have hA : DataW.TrodAll enc Tryz.prog W 0 (fun _ => true) true Tryz.f5.params.toList args.toList ds p := hA0
  have hz : (DataW.weightsEach Tryz.prog (Tryz.f5.params.toList ++ Rows.latticeRulesSpec.plain.varTypes Tryz.prog) (ds ++ gs)).all (· ≤ reachBytes) = true := hsz
  rw [Tryz.params5] at hA hval hz
  obtain ⟨rfl, rfl⟩ := trodVars_none hV
  obtain ⟨v0, v1, d0, d1, p0, p1, rfl, rfl, rfl, h0, h1⟩ := trodAll_two hA
  have g := good_of_laid hL
  obtain ⟨θ, H0, s⟩ := sn0 g
  have hw0 : Lt d0 24 := fun n hn => by simpa using List.all_eq_true.1 hz n (DataW.weights_mem_each (j := 0) rfl rfl n hn)
  obtain ⟨θ0, H1, u0, A0, s0, l0, e0, r0, ga0, sa0⟩ := s.arg (hval 0 24 v0 rfl rfl) h0 hw0
  have hw1 : Lt d1 24 := fun n hn => by simpa using List.all_eq_true.1 hz n (DataW.weights_mem_each (j := 1) rfl rfl n hn)
  obtain ⟨θ1, H2, u1, A1, s1, l1, e1, r1, ga1, sa1⟩ := s0.arg (hval 1 24 v1 rfl rfl) h1 hw1
  refine (ends s1 g (args := [u0, u1]) (us := #[v0, v1]) ⟨_, _, rfl, (r0.mono (l1)), ⟨_, _, rfl, r1, rfl⟩⟩ (call5 lives (ga0.ex (e1)) ga1 sa0 sa1)).mono fun e w2 h => ?_
  obtain ⟨rfl, h⟩ := h
  exact ⟨_, rfl, post_true (by rw [Tryz.params5]; intro t ht; simp at ht; subst ht; exact read24) rfl rfl hW2 (fun _ => rfl) h⟩

theorem latticeRules_holds : Rows.LatticeRulesSaid :=
  OpenClaim.holds_of_wide 5 Tryz.f5 rfl rfl rfl rfl rfl rfl rfl ⟨rfl, rfl, rfl, rfl, rfl⟩ rfl rfl rfl rfl rfl (by kernel_rfl) Tryz.func5 (by kernel_rfl)
    (of_decide_eq_true (by kernel_rfl)) (by unfold Func.isWrapper; first | (rw [if_pos (by decide +kernel)]; kernel_rfl) | (rw [if_neg (by decide +kernel)]; exact ⟨rfl, rfl⟩))
    (fun os started H enc _ => latticeRules_lifted os started H enc)

theorem latticeRules_card : Rows.LatticeRulesCardSaid :=
  Claim7.holds_tied_plain_at .later [] [.data, .data, .data] true (true, "485a50cdda381f550d80658d9d8f8f96a93b519eb2bf32fa582a733cf7f37661") true
    latticeRules_holds (fun _ h => by cases h) (by kernel_rfl) (fun _ h => by cases h) latticeRules_row_tie rfl ⟨rfl, rfl⟩ (by kernel_rfl) rfl
    (fun f fn hf hfn => by
      obtain rfl : f = 5 := Option.some.inj ((show Tryz.prog.funcNamed "azimuth/azimuthlaw11.LatticeRules" = some 5 by kernel_rfl).symm.trans hf) |>.symm
      obtain rfl : fn = Tryz.f5 := (Option.some.inj (Tryz.func5.symm.trans hfn)).symm
      exact ⟨by kernel_rfl, fun j t ht => by
        rw [Tryz.params5] at ht
        have hm : t ∈ [24, 24] := by simpa using Array.mem_of_getElem? ht
        have hall : ([24, 24].all fun u => !Tryz.prog.wantsStandIn u) = true := by kernel_rfl
        exact (show Tryz.prog.wantsStandIn t = false by simpa using List.all_eq_true.1 hall t hm)⟩)
    (by kernel_rfl)
#print axioms latticeRules_card
end Go.Proofs.YtlgbgbngdhhjaaaGreatDoor
