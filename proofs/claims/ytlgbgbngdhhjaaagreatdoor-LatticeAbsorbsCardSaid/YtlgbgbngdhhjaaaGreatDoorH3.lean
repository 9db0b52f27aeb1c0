/- Whatever the arguments, the law azimuthlaw11.LatticeAbsorbs answers true and leaves them as they read: the join of a graph and its meet with another one is it, and the meet with the join. Condition: the three variables of the library that the row lists hold what the program's text lays (the card ties that). -/
import Derived.Test.YtlgbgbngdhhjaaaGreatDoorB12
import Derived.Test.YtlgbgbngdhhjaaaGreatDoorB18
import Derived.Test.YtlgbgbngdhhjaaaGreatDoorCards
set_option linter.unusedSimpArgs false
set_option linter.unusedVariables false
set_option maxRecDepth 10000
namespace Go.Proofs.YtlgbgbngdhhjaaaGreatDoor
namespace K
noncomputable section
open Go AM

theorem call3 (h8 : Lives) {H : Heap} {va vb : AVal} {a b : Gr} (ga : GrOf H va a) (gb : GrOf H vb b) (sa : Szs a) (sb : Szs b) : Call 3 [va, vb] H fun v _ => v = .b true := by
  obtain ⟨la, rfl, ha⟩ := ga
  obtain ⟨lb, rfl, hb⟩ := gb
  have ca := ha.cells
  have cb := hb.cells
  refine Call.by (a := a3) rfl (by simp [a3]) ?_
  simp [a3, c3, r3_0]
  obtain ⟨X, hX⟩ : ∃ P, P = (H.push (.row [la, .i .i64 a.root] true)).push (.row [lb, .i .i64 b.root] true) := ⟨_, rfl⟩
  have nX : X.nx = H.nx + 2 := by rw [hX]; rfl
  have eX : Ex H X := by rw [hX]; exact ((Ex.refl _).push _).push _
  have g3 : X.get H.nx = some (.row [la, .i .i64 a.root] true) := by rw [hX, get_push_old (by simp)]; exact get_push_nx _ _
  have g4 : X.get (H.nx + 1) = some (.row [lb, .i .i64 b.root] true) := by rw [hX]; exact get_push_nx _ _
  have l3 : aLoad X (.p H.nx 0) 2 true = some (.agg [la, .i .i64 a.root]) := by rw [load_agg (o := 0) (n := 2) g3 (by simp)]; rfl
  have l4 : aLoad X (.p (H.nx + 1) 0) 2 true = some (.agg [lb, .i .i64 b.root]) := by rw [load_agg (o := 0) (n := 2) g4 (by simp)]; rfl
  have L3 : ∀ G, Ex X G → aLoad G (.p H.nx 0) 2 true = some (.agg [la, .i .i64 a.root]) := fun G e => load_ex e (by omega) l3
  have L4 : ∀ G, Ex X G → aLoad G (.p (H.nx + 1) 0) 2 true = some (.agg [lb, .i .i64 b.root]) := fun G e => load_ex e (by omega) l4
  have M3 : ∀ G, Ex X G → aLoad G (.p H.nx 0) 1 false = some la := fun G e => load_ex e (by omega) (by rw [load_row g3]; rfl)
  have M4 : ∀ G, Ex X G → aLoad G (.p (H.nx + 1) 0) 1 false = some lb := fun G e => load_ex e (by omega) (by rw [load_row g4]; rfl)
  rw [← hX]
  simp [r3_1]
  refine Call.is (h8 X) ?_
  have hdr : List.drop 4 (List.map (fun i => ([AVal.nsl, AVal.i .i64 0] : List AVal)[i % 2]?.getD AVal.ni) (List.range 4)) = [] := rfl
  obtain ⟨X1, hX1⟩ : ∃ P, P = X.push (.row [la, .i .i64 a.root, lb, .i .i64 b.root] true) := ⟨_, rfl⟩
  have e1 : Ex X X1 := by rw [hX1]; exact (Ex.refl _).push _
  have n1 : X1.nx = X.nx + 1 := by rw [hX1]; rfl
  have g1 : X1.get X.nx = some (.row [la, .i .i64 a.root, lb, .i .i64 b.root] true) := by rw [hX1]; exact get_push_nx _ _
  simp [kC, l3, l4, n_bsl, aFill, splice, ca, cb, hdr]
  rw [← hX1]
  refine Call.is (call9 (grs2 (by omega) g1 (ha.ex (eX.trans e1)) (hb.ex (eX.trans e1))) (fun g hg => by
    simp at hg
    rcases hg with rfl | rfl
    · exact sa
    · exact sb) (by simp)) ?_
  cases hok : okAll [a, b] with
  | false =>
    simp [kC, r3_2]
    refine Call.is (h8 X1) ?_
    simp [kC]
  | true =>
    simp only [okAll_cons, Bool.and_eq_true] at hok
    obtain ⟨ha1, hb1, _⟩ := hok
    obtain ⟨ra, fa, na, la25⟩ := okB_right ha1
    obtain ⟨rb, fb, nb, lb25⟩ := okB_right hb1
    have GA : ∀ G, Ex X G → GrOf G (.agg [la, .i .i64 a.root]) a := fun G e => ⟨la, rfl, ha.ex (eX.trans e)⟩
    have GB : ∀ G, Ex X G → GrOf G (.agg [lb, .i .i64 b.root]) b := fun G e => ⟨lb, rfl, hb.ex (eX.trans e)⟩
    simp [kC, M3 X1 e1, ha.len]
    by_cases h15 : 8 < a.l.length
    · have h15i : (8 : Int) < (a.l.length : Int) := by omega
      simp [h15, h15i, r3_2]
      refine Call.is (h8 X1) ?_
      simp [kC]
    have h15i : ¬ (8 : Int) < (a.l.length : Int) := by omega
    simp [h15, h15i, M4 X1 e1, hb.len]
    by_cases h15b : 8 < b.l.length
    · have h15j : (8 : Int) < (b.l.length : Int) := by omega
      simp [h15b, h15j, r3_2]
      refine Call.is (h8 X1) ?_
      simp [kC]
    have h15j : ¬ (8 : Int) < (b.l.length : Int) := by omega
    simp [h15b, h15j, r3_3, L3 X1 e1, L4 X1 e1]
    refine Call.mono (call10 (GA X1 e1) (GB X1 e1) fa fb (by omega) (by omega) (fun i h hi => (na.n i h hi).1) (fun i h hi => (nb.n i h hi).1) (by omega)) ?_
    have bab := bnd_le (A := a.l) (B := b.l) (n := 8) (m := 8) (by omega) (by omega)
    rintro v X2 _ m1
    obtain ⟨e2, m1⟩ := m1.two ra rb na nb
    rcases m1 with ⟨_, h⟩ | ⟨lm, m, rfl, hm, Lm, Nm⟩
    · omega
    obtain ⟨Y1, hY1, d1, Lm1, Gm1⟩ := mkY X2 lm m hm
    have y1 := e1.trans (e2.trans d1)
    have cm := hm.cells
    simp only [kC, putO_some]
    simp [stt X2 lm m.root cm]
    rw [← hY1]
    simp [r3_4, L3 Y1 y1, L4 Y1 y1]
    refine Call.mono (call11 (GA Y1 y1) (GB Y1 y1) fa fb (by omega) (by omega) (fun i h hi => (na.n i h hi).1) (fun i h hi => (nb.n i h hi).1) (by omega)) ?_
    rintro v X3 _ m1
    obtain ⟨e3, m1⟩ := m1.two ra rb na nb
    rcases m1 with ⟨_, h⟩ | ⟨lj, j, rfl, hj, Lj, Nj⟩
    · omega
    obtain ⟨Y2, hY2, d2, Lj2, Gj2⟩ := mkY X3 lj j hj
    have z2 := e3.trans d2
    have y2 := y1.trans z2
    have cj := hj.cells
    simp only [kC, putO_some]
    simp [stt X3 lj j.root cj]
    rw [← hY2]
    have fm := rg_fits Lm.rg Nm (by omega)
    have fj := rg_fits Lj.rg Nj (by omega)
    have nm4 := Lm.rg.ok.n1
    have nj4 := Lj.rg.ok.n1
    simp [r3_5, aEq]
    simp [r3_7, L3 Y2 y2, Lm1 Y2 z2]
    refine Call.mono (call11 (GA Y2 y2) (Gm1 Y2 z2) fa fm (by omega) (by omega) (fun i h hi => (na.n i h hi).1) (fun i h hi => (Nm.n i h hi).1) (by omega)) ?_
    rintro v X4 _ m1
    obtain ⟨e4, m1⟩ := m1.two ra Lm.rg na Nm
    have sec : ∀ (T : Tm) (X5 : Heap) (e : Int), Ex Y2 X5 → T.get 2 = some (.p H.nx 0) → T.get 7 = some (.p X3.nx 0) → T.get 10 = some (.i .i64 e) →
        ((e = 20) ∨ (e = 0 ∧ ∃ q l N, T.get 9 = some (.p q 0) ∧ q < X5.nx ∧ X5.get q = some (.row [l, .i .i64 N.root] true) ∧ Hds X5 l N.l ∧ Lub a m N true ∧ K.Nm 60 N)) →
        runO r3_8 T X5 (seqK (run (.mask [2, 9, 10, 11, 12] (.seq (.seq (.region r3_9) (.mask [2, 9, 10, 11, 12, 80] (.cond (.t 80) (.seq (.region r3_10) .ret) .skip))) (.mask [2, 9, 11] (.seq (.region r3_11) .ret))))) (retK [.tmp 4] fun v _ => v = .b true)) := by
      intro T X5 e e5 t2 t7 t10 hcase
      have y5 := y2.trans e5
      simp [r3_8, t2, t7, L3 X5 y5, Lj2 X5 e5]
      refine Call.mono (call10 (GA X5 y5) (Gj2 X5 e5) fa fj (by omega) (by omega) (fun i h hi => (na.n i h hi).1) (fun i h hi => (Nj.n i h hi).1) (by omega)) ?_
      rintro v X6 _ m1
      obtain ⟨e6, m1⟩ := m1.two ra Lj.rg na Nj
      rcases m1 with ⟨rfl, _⟩ | ⟨ly, y, rfl, hy, Ly, Ny⟩
      · simp only [kC, putO_some]
        simp [stt X6 .nsl 0 rfl]
        rcases hcase with rfl | ⟨rfl, _⟩ <;> simp [r3_9, t10, aEq, r3_10]
      obtain ⟨Y3, hY3, d3, Ly3, Gy3⟩ := mkY X6 ly y hy
      have cy := hy.cells
      simp only [kC, putO_some]
      simp [stt X6 ly y.root cy]
      rw [← hY3]
      rcases hcase with rfl | ⟨rfl, q, lx, x, t9, hq, gq, hx, Lx, Nx⟩
      · simp [r3_9, t10, aEq, r3_10]
      have z6 := e6.trans d3
      have y6 := y5.trans z6
      have gx := z6.get q hq _ gq
      have Lx6 : aLoad Y3 (.p q 0) 2 true = some (.agg [lx, .i .i64 x.root]) := by rw [load_agg (o := 0) (n := 2) gx (by simp)]; rfl
      have Gx6 : GrOf Y3 (.agg [lx, .i .i64 x.root]) x := ⟨lx, rfl, hx.ex z6⟩
      have fx := rg_fits Lx.rg Nx (by omega)
      have fy := rg_fits Ly.rg Ny (by omega)
      have xa := eqB (a := x) (b := a) (Lx.le a ra.ok (Below.refl ra.ok) Lm.ua) Lx.ua
      have ya := eqB (a := y) (b := a) Ly.ua (Ly.le a ra.ok (Below.refl ra.ok) Lj.ua)
      simp [r3_9, t10, aEq]
      simp [r3_11, t9, t2, Lx6, L3 Y3 y6]
      refine Call.is (call12 Gx6 (GA Y3 y6) Lx.rg.ok ra.ok fx fa) ?_
      rw [xa]
      simp [kC, Ly3 Y3 (Ex.refl _), t2, L3 Y3 y6]
      refine Call.is (call12 (Gy3 Y3 (Ex.refl _)) (GA Y3 y6) Ly.rg.ok ra.ok fy fa) ?_
      rw [ya]
      simp [kC]
    rcases m1 with ⟨rfl, _⟩ | ⟨lx, x, rfl, hx, Lx, Nx⟩
    · simp only [kC, putO_some]
      simp [stt X4 .nsl 0 rfl]
      refine sec _ _ 20 (e4.trans (((Ex.refl _).push _).put (Nat.le_refl _) _)) ?_ ?_ ?_ (.inl rfl) <;> simp
    · have cx := hx.cells
      simp only [kC, putO_some]
      simp [stt X4 lx x.root cx]
      refine sec _ _ 0 (e4.trans (((Ex.refl _).push _).put (Nat.le_refl _) _)) ?_ ?_ ?_ (.inr ⟨rfl, X4.nx, lx, x, ?_, ?_, ?_, ?_, Lx, Nx⟩)
      · simp
      · simp
      · simp
      · simp
      · simp
      · rw [Heap.get_put, if_pos rfl]
      · exact hx.ex (((Ex.refl _).push _).put (Nat.le_refl _) _)

end
end K
end Go.Proofs.YtlgbgbngdhhjaaaGreatDoor

set_option maxRecDepth 100000
namespace Go.Proofs.YtlgbgbngdhhjaaaGreatDoor
open Go AM ChangeShapes WideShapes RowKit K

theorem latticeAbsorbs_lifted (os : Os) (started : os.Started) (H : Type) (enc : TypeId × Value → H) :
    ReturnsInHanded {} Tryz.checked os 3 .any (fun w args => (Rows.latticeAbsorbsSpec.pre enc Tryz.prog Tryz.f3 [] false w args ∧ laidMetH Tryz.prog laid3 w) ∧ sizedMet enc Tryz.prog Tryz.f3 (OpenSpec.ofChange Rows.latticeAbsorbsSpec) false w args)
      (Rows.latticeAbsorbsSpec.post enc Tryz.prog Tryz.f3 false true false false) := by
  refine returnsInHanded_of_change_and (C := Tryz.checked) (X := fun w _ => laidMetH Tryz.prog laid3 w) (fun _ _ _ hh h => h.of_heap hh) ownNone started (by kernel_rfl) Tryz.func3
    (ChangeSpec.witness_shaped (enc := enc) (C := Tryz.checked) (os := os) (X := fun w _ => laidMetH Tryz.prog laid3 w) false (World.doorLaid Tryz.prog 24 os) #[g0, g0] 8 rfl (World.shaped_of_RefB (by kernel_rfl) (by kernel_rfl)) (by kernel_rfl) (by kernel_rfl) (by kernel_rfl) (door_met os _)) ?_
  intro W base args ds gs before hval0 hW _ hsz hL _
  have hval : ∀ (j : Nat) t v, Tryz.f3.params[j]? = some t → args[j]? = some v → Value.okWide Tryz.prog W .any base t v := hval0
  have hW2 := hW
  obtain ⟨p, q, hA0, hV, rfl, _, _⟩ := hW
  have hA : DataW.TrodAll enc Tryz.prog W 0 (fun _ => true) true Tryz.f3.params.toList args.toList ds p := hA0
  have hz : (DataW.weightsEach Tryz.prog (Tryz.f3.params.toList ++ Rows.latticeAbsorbsSpec.plain.varTypes Tryz.prog) (ds ++ gs)).all (· ≤ reachBytes) = true := hsz
  rw [Tryz.params3] at hA hval hz
  obtain ⟨rfl, rfl⟩ := trodVars_none hV
  obtain ⟨v0, v1, d0, d1, p0, p1, rfl, rfl, rfl, h0, h1⟩ := trodAll_two hA
  have g := good_of_laid hL
  obtain ⟨θ, H0, s⟩ := sn0 g
  have hw0 : Lt d0 24 := fun n hn => by simpa using List.all_eq_true.1 hz n (DataW.weights_mem_each (j := 0) rfl rfl n hn)
  obtain ⟨θ0, H1, u0, A0, s0, l0, e0, r0, ga0, sa0⟩ := s.arg (hval 0 24 v0 rfl rfl) h0 hw0
  have hw1 : Lt d1 24 := fun n hn => by simpa using List.all_eq_true.1 hz n (DataW.weights_mem_each (j := 1) rfl rfl n hn)
  obtain ⟨θ1, H2, u1, A1, s1, l1, e1, r1, ga1, sa1⟩ := s0.arg (hval 1 24 v1 rfl rfl) h1 hw1
  refine (ends s1 g (args := [u0, u1]) (us := #[v0, v1]) ⟨_, _, rfl, (r0.mono (l1)), ⟨_, _, rfl, r1, rfl⟩⟩ (call3 lives (ga0.ex (e1)) ga1 sa0 sa1)).mono fun e w2 h => ?_
  obtain ⟨rfl, h⟩ := h
  exact ⟨_, rfl, post_true (by rw [Tryz.params3]; intro t ht; simp at ht; subst ht; exact read24) rfl rfl hW2 (fun _ => rfl) h⟩

theorem latticeAbsorbs_holds : Rows.LatticeAbsorbsSaid :=
  OpenClaim.holds_of_wide 3 Tryz.f3 rfl rfl rfl rfl rfl rfl rfl ⟨rfl, rfl, rfl, rfl, rfl⟩ rfl rfl rfl rfl rfl (by kernel_rfl) Tryz.func3 (by kernel_rfl)
    (of_decide_eq_true (by kernel_rfl)) (by unfold Func.isWrapper; first | (rw [if_pos (by decide +kernel)]; kernel_rfl) | (rw [if_neg (by decide +kernel)]; exact ⟨rfl, rfl⟩))
    (fun os started H enc _ => latticeAbsorbs_lifted os started H enc)

theorem latticeAbsorbs_card : Rows.LatticeAbsorbsCardSaid :=
  Claim7.holds_tied_plain_at .later [] [.data, .data, .data] true (true, "485a50cdda381f550d80658d9d8f8f96a93b519eb2bf32fa582a733cf7f37661") true
    latticeAbsorbs_holds (fun _ h => by cases h) (by kernel_rfl) (fun _ h => by cases h) latticeAbsorbs_row_tie rfl ⟨rfl, rfl⟩ (by kernel_rfl) rfl
    (fun f fn hf hfn => by
      obtain rfl : f = 3 := Option.some.inj ((show Tryz.prog.funcNamed "azimuth/azimuthlaw11.LatticeAbsorbs" = some 3 by kernel_rfl).symm.trans hf) |>.symm
      obtain rfl : fn = Tryz.f3 := (Option.some.inj (Tryz.func3.symm.trans hfn)).symm
      exact ⟨by kernel_rfl, fun j t ht => by
        rw [Tryz.params3] at ht
        have hm : t ∈ [24, 24] := by simpa using Array.mem_of_getElem? ht
        have hall : ([24, 24].all fun u => !Tryz.prog.wantsStandIn u) = true := by kernel_rfl
        exact (show Tryz.prog.wantsStandIn t = false by simpa using List.all_eq_true.1 hall t hm)⟩)
    (by kernel_rfl)
#print axioms latticeAbsorbs_card
end Go.Proofs.YtlgbgbngdhhjaaaGreatDoor
