/- Whatever the arguments, the law azimuthlaw11.LatticeJoins answers true and leaves them as they read: both graphs are below their join, and it is below what both are below; likewise the meet. Condition: the three variables of the library that the row lists hold what the program's text lays (the card ties that). -/
import Derived.Test.YtlgbgbngdhhjaaaGreatDoorB12
import Derived.Test.YtlgbgbngdhhjaaaGreatDoorB18
import Derived.Test.YtlgbgbngdhhjaaaGreatDoorCards
set_option linter.unusedSimpArgs false
set_option linter.unusedVariables false
set_option maxRecDepth 10000
namespace Go.Proofs.YtlgbgbngdhhjaaaGreatDoor
namespace K
noncomputable section
open Go AM

theorem call4 (h8 : Lives) {H : Heap} {va vb vc : AVal} {a b c : Gr} (ga : GrOf H va a) (gb : GrOf H vb b) (gc : GrOf H vc c) (sa : Szs a) (sb : Szs b) (sc : Szs c) : Call 4 [va, vb, vc] H fun v _ => v = .b true := by
  obtain ⟨la, rfl, ha⟩ := ga
  obtain ⟨lb, rfl, hb⟩ := gb
  obtain ⟨lc, rfl, hc⟩ := gc
  have ca := ha.cells
  have cb := hb.cells
  have cc := hc.cells
  refine Call.by (a := a4) rfl (by simp [a4]) ?_
  simp [a4, c4, r4_0]
  obtain ⟨X, hX⟩ : ∃ P, P = ((H.push (.row [la, .i .i64 a.root] true)).push (.row [lb, .i .i64 b.root] true)).push (.row [lc, .i .i64 c.root] true) := ⟨_, rfl⟩
  have nX : X.nx = H.nx + 3 := by rw [hX]; rfl
  have eX : Ex H X := by rw [hX]; exact (((Ex.refl _).push _).push _).push _
  have g3 : X.get H.nx = some (.row [la, .i .i64 a.root] true) := by rw [hX, get_push_old (by simp; omega), get_push_old (by simp)]; exact get_push_nx _ _
  have g4 : X.get (H.nx + 1) = some (.row [lb, .i .i64 b.root] true) := by rw [hX, get_push_old (by simp)]; exact get_push_nx _ _
  have g5 : X.get (H.nx + 2) = some (.row [lc, .i .i64 c.root] true) := by rw [hX]; exact get_push_nx _ _
  have l3 : aLoad X (.p H.nx 0) 2 true = some (.agg [la, .i .i64 a.root]) := by rw [load_agg (o := 0) (n := 2) g3 (by simp)]; rfl
  have l4 : aLoad X (.p (H.nx + 1) 0) 2 true = some (.agg [lb, .i .i64 b.root]) := by rw [load_agg (o := 0) (n := 2) g4 (by simp)]; rfl
  have l5 : aLoad X (.p (H.nx + 2) 0) 2 true = some (.agg [lc, .i .i64 c.root]) := by rw [load_agg (o := 0) (n := 2) g5 (by simp)]; rfl
  rw [← hX]
  simp [r4_1]
  refine Call.is (h8 X) ?_
  have hdr : List.drop 6 (List.map (fun i => ([AVal.nsl, AVal.i .i64 0] : List AVal)[i % 2]?.getD AVal.ni) (List.range 6)) = [] := rfl
  obtain ⟨X1, hX1⟩ : ∃ P, P = X.push (.row [la, .i .i64 a.root, lb, .i .i64 b.root, lc, .i .i64 c.root] true) := ⟨_, rfl⟩
  have e1 : Ex X X1 := by rw [hX1]; exact (Ex.refl _).push _
  have n1 : X1.nx = X.nx + 1 := by rw [hX1]; rfl
  have g1 : X1.get X.nx = some (.row [la, .i .i64 a.root, lb, .i .i64 b.root, lc, .i .i64 c.root] true) := by rw [hX1]; exact get_push_nx _ _
  have L3 : ∀ G, Ex X G → aLoad G (.p H.nx 0) 2 true = some (.agg [la, .i .i64 a.root]) := fun G e => load_ex e (by omega) l3
  have L4 : ∀ G, Ex X G → aLoad G (.p (H.nx + 1) 0) 2 true = some (.agg [lb, .i .i64 b.root]) := fun G e => load_ex e (by omega) l4
  have L5 : ∀ G, Ex X G → aLoad G (.p (H.nx + 2) 0) 2 true = some (.agg [lc, .i .i64 c.root]) := fun G e => load_ex e (by omega) l5
  simp [kC, l3, l4, l5, n_bsl, aFill, splice, ca, cb, cc, hdr]
  rw [← hX1]
  refine Call.is (call9 (grs3 (by omega) g1 (ha.ex (eX.trans e1)) (hb.ex (eX.trans e1)) (hc.ex (eX.trans e1))) (fun g hg => by
    simp at hg
    rcases hg with rfl | rfl | rfl
    · exact sa
    · exact sb
    · exact sc) (by simp)) ?_
  cases hok : okAll [a, b, c] with
  | false =>
    simp [kC, r4_2]
    refine Call.is (h8 X1) ?_
    simp [kC]
  | true =>
    simp only [okAll_cons, Bool.and_eq_true] at hok
    obtain ⟨ha1, hb1, hc1, _⟩ := hok
    obtain ⟨ra, fa, na, la25⟩ := okB_right ha1
    obtain ⟨rb, fb, nb, lb25⟩ := okB_right hb1
    obtain ⟨rc, fc, nc, lc25⟩ := okB_right hc1
    have GA : ∀ G, Ex X G → GrOf G (.agg [la, .i .i64 a.root]) a := fun G e => ⟨la, rfl, ha.ex (eX.trans e)⟩
    have GB : ∀ G, Ex X G → GrOf G (.agg [lb, .i .i64 b.root]) b := fun G e => ⟨lb, rfl, hb.ex (eX.trans e)⟩
    have GC : ∀ G, Ex X G → GrOf G (.agg [lc, .i .i64 c.root]) c := fun G e => ⟨lc, rfl, hc.ex (eX.trans e)⟩
    simp [kC, r4_3, L3 X1 e1, L4 X1 e1]
    refine Call.mono (call11 (GA X1 e1) (GB X1 e1) fa fb (by omega) (by omega) (fun i h hi => (na.n i h hi).1) (fun i h hi => (nb.n i h hi).1) (by omega)) ?_
    rintro v X2 _ m1
    obtain ⟨e2, m1⟩ := m1.two ra rb na nb
    have e02 := e1.trans e2
    -- the second one, whatever the first
    have sec : ∀ (T : Tm) (X3 : Heap) (e : Int), Ex X X3 → T.get 3 = some (.p H.nx 0) → T.get 4 = some (.p (H.nx + 1) 0) → T.get 5 = some (.p (H.nx + 2) 0) → T.get 8 = some (.i .i64 e) →
        ((e = 20) ∨ (e = 0 ∧ ∃ q l N, T.get 7 = some (.p q 0) ∧ q < X3.nx ∧ X3.get q = some (.row [l, .i .i64 N.root] true) ∧ Hds X3 l N.l ∧ Lub a b N true ∧ Nm 40 N)) →
        runO r4_4 T X3 (seqK (run (.mask [3, 4, 5, 7, 8, 9, 10] (.seq (.seq (.region r4_5) (.mask [3, 4, 5, 7, 8, 9, 10, 39] (.cond (.t 39) (.seq (.region r4_6) .ret) .skip))) (.mask [3, 4, 5, 7, 9] (.seq (.seq (.region r4_7) (.mask [3, 4, 5, 7, 9, 85] (.cond (.t 85) (.seq (.region r4_8) .ret) .skip))) (.mask [3, 4, 5, 7, 9] (.seq (.seq (.region r4_9) (.mask [3, 4, 5, 9, 99] (.cond (.t 99) (.seq (.region r4_10) .ret) .skip))) (.mask [3, 4, 5, 9] (.seq (.region r4_11) .ret))))))))) (retK [.tmp 6] fun v _ => v = .b true)) := by
      intro T X3 e e3 t3 t4 t5 t8 hcase
      have n3 := e3.nx
      simp [r4_4, t3, t4, L3 X3 e3, L4 X3 e3]
      refine Call.mono (call10 (GA X3 e3) (GB X3 e3) fa fb (by omega) (by omega) (fun i h hi => (na.n i h hi).1) (fun i h hi => (nb.n i h hi).1) (by omega)) ?_
      rintro v X4 _ m2
      obtain ⟨e4, m2⟩ := m2.two ra rb na nb
      have n4 := e4.nx
      rcases m2 with ⟨rfl, _⟩ | ⟨l', N', rfl, hl', lub', nm'⟩
      · simp only [kC, putO_some]
        simp [stt X4 .nsl 0 rfl]
        rcases hcase with rfl | ⟨rfl, _⟩ <;> simp [r4_5, t8, aEq, r4_6]
      have cl' := hl'.cells
      simp only [kC, putO_some]
      simp [stt X4 l' N'.root cl']
      rcases hcase with rfl | ⟨rfl, q, l, N, t7, hq, gq, hl, lub, nm⟩
      · simp [r4_5, t8, aEq, r4_6]
      have cl := hl.cells
      obtain ⟨Y, hY⟩ : ∃ P, P = (X4.push (.row [.nsl, .i .i64 0] true)).put X4.nx (.row [l', .i .i64 N'.root] true) := ⟨_, rfl⟩
      have eY4 : Ex X4 Y := by rw [hY]; exact ((Ex.refl _).push _).put (Nat.le_refl _) _
      have gY : Y.get X4.nx = some (.row [l', .i .i64 N'.root] true) := by rw [hY, Heap.get_put, if_pos rfl]
      have eY : Ex X Y := e3.trans (e4.trans eY4)
      have gqY := (e4.trans eY4).get q hq _ gq
      have lj : aLoad Y (.p q 0) 2 true = some (.agg [l, .i .i64 N.root]) := by rw [load_agg (o := 0) (n := 2) gqY (by simp)]; rfl
      have lm : aLoad Y (.p X4.nx 0) 2 true = some (.agg [l', .i .i64 N'.root]) := by rw [load_agg (o := 0) (n := 2) gY (by simp)]; rfl
      have GJ : GrOf Y (.agg [l, .i .i64 N.root]) N := ⟨l, rfl, hl.ex (e4.trans eY4)⟩
      have GM : GrOf Y (.agg [l', .i .i64 N'.root]) N' := ⟨l', rfl, hl'.ex eY4⟩
      have fj := rg_fits lub.rg nm (by omega)
      have fm := rg_fits lub'.rg nm' (by omega)
      have rj := (rightB_iff N).2 lub.rg
      have rm := (rightB_iff N').2 lub'.rg
      have sj : ∀ h ∈ N.l, h.names.length < 4611686018427387904 ∧ h.kids.length < 4611686018427387904 ∧ ∀ s ∈ h.names, s.length < 2305843009213693952 := fun h hh => by
        obtain ⟨x, y, z⟩ := fj h hh
        exact ⟨by omega, by omega, fun s hs => by have := z s hs; omega⟩
      have sm : ∀ h ∈ N'.l, h.names.length < 4611686018427387904 ∧ h.kids.length < 4611686018427387904 ∧ ∀ s ∈ h.names, s.length < 2305843009213693952 := fun h hh => by
        obtain ⟨x, y, z⟩ := fm h hh
        exact ⟨by omega, by omega, fun s hs => by have := z s hs; omega⟩
      have j1 := belB_true (a := a) (b := N) lub.ua
      have j2 := belB_true (a := b) (b := N) lub.ub
      have k1 := belB_true (a := N') (b := a) lub'.ua
      have k2 := belB_true (a := N') (b := b) lub'.ub
      have nj := lub.rg.ok.n1
      have nm1 := lub'.rg.ok.n1
      rw [← hY]
      simp [r4_5, t8, aEq]
      simp [r4_7, t7, lj]
      refine Call.is (call13 GJ (by omega) sj) ?_
      simp [kC, rj, lm]
      refine Call.is (call13 GM (by omega) sm) ?_
      simp [kC, rm, t3, t4, t7, lj, L3 Y eY]
      refine Call.is (call14 (GA Y eY) GJ ra.ok lub.rg.ok fa fj) ?_
      simp [kC, j1, t3, t4, t7, lj, L4 Y eY]
      refine Call.is (call14 (GB Y eY) GJ rb.ok lub.rg.ok fb fj) ?_
      simp [kC, j2, t3, t4, lm, L3 Y eY]
      refine Call.is (call14 GM (GA Y eY) lub'.rg.ok ra.ok fm fa) ?_
      simp [kC, k1, t3, t4, lm, L4 Y eY]
      refine Call.is (call14 GM (GB Y eY) lub'.rg.ok rb.ok fm fb) ?_
      simp [kC, k2]
      have last : ∀ T : Tm, T.get 3 = some (.p H.nx 0) → T.get 4 = some (.p (H.nx + 1) 0) → T.get 5 = some (.p (H.nx + 2) 0) → T.get 9 = some (.p X4.nx 0) → runO r4_11 T Y (seqK (run .ret) (retK [.tmp 6] fun v _ => v = .b true)) := by
        intro T t3 t4 t5 t9
        simp [r4_11, t3, t5, L3 Y eY, L5 Y eY]
        refine Call.is (call14 (GC Y eY) (GA Y eY) rc.ok ra.ok fc fa) ?_
        cases b1 : belB c a with
        | false => simp [kC]
        | true =>
          simp [kC, t4, t5, L4 Y eY, L5 Y eY]
          refine Call.is (call14 (GC Y eY) (GB Y eY) rc.ok rb.ok fc fb) ?_
          cases b2 : belB c b with
          | false => simp [kC]
          | true =>
            have k3 := belB_true (a := c) (b := N') (lub'.le c rc.ok ((belB_iff c a).1 b1) ((belB_iff c b).1 b2))
            simp [kC, t5, t9, lm, L5 Y eY]
            refine Call.is (call14 (GC Y eY) GM rc.ok lub'.rg.ok fc fm) ?_
            simp [kC, k3]
      simp [r4_9, t3, t5, L3 Y eY, L5 Y eY]
      refine Call.is (call14 (GA Y eY) (GC Y eY) ra.ok rc.ok fa fc) ?_
      cases b1 : belB a c with
      | false =>
        simp [kC]
        refine last _ ?_ ?_ ?_ ?_ <;> simp [t3, t4, t5]
      | true =>
        simp [kC, t4, t5, L4 Y eY, L5 Y eY]
        refine Call.is (call14 (GB Y eY) (GC Y eY) rb.ok rc.ok fb fc) ?_
        cases b2 : belB b c with
        | false =>
          simp [kC]
          refine last _ ?_ ?_ ?_ ?_ <;> simp [t3, t4, t5]
        | true =>
          have j3 := belB_true (a := N) (b := c) (lub.le c rc.ok ((belB_iff a c).1 b1) ((belB_iff b c).1 b2))
          simp [kC, t5, t7, lj, L5 Y eY]
          refine Call.is (call14 GJ (GC Y eY) lub.rg.ok rc.ok fj fc) ?_
          simp [kC, j3]
          refine last _ ?_ ?_ ?_ ?_ <;> simp [t3, t4, t5]
    rcases m1 with ⟨rfl, _⟩ | ⟨l, N, rfl, hl, lub, nm⟩
    · simp only [kC, putO_some]
      simp [stt X2 .nsl 0 rfl]
      refine sec _ _ 20 (e02.trans (((Ex.refl _).push _).put (Nat.le_refl _) _)) ?_ ?_ ?_ ?_ (.inl rfl) <;> simp
    · have cl := hl.cells
      simp only [kC, putO_some]
      simp [stt X2 l N.root cl]
      refine sec _ _ 0 (e02.trans (((Ex.refl _).push _).put (Nat.le_refl _) _)) ?_ ?_ ?_ ?_ (.inr ⟨rfl, X2.nx, l, N, ?_, ?_, ?_, ?_, lub, nm⟩)
      · simp
      · simp
      · simp
      · simp
      · simp
      · simp
      · rw [Heap.get_put, if_pos rfl]
      · exact hl.ex (((Ex.refl _).push _).put (Nat.le_refl _) _)

end
end K
end Go.Proofs.YtlgbgbngdhhjaaaGreatDoor

set_option maxRecDepth 100000
namespace Go.Proofs.YtlgbgbngdhhjaaaGreatDoor
open Go AM ChangeShapes WideShapes RowKit K

theorem latticeJoins_lifted (os : Os) (started : os.Started) (H : Type) (enc : TypeId × Value → H) :
    ReturnsInHanded {} Tryz.checked os 4 .any (fun w args => (Rows.latticeJoinsSpec.pre enc Tryz.prog Tryz.f4 [] false w args ∧ laidMetH Tryz.prog laid3 w) ∧ sizedMet enc Tryz.prog Tryz.f4 (OpenSpec.ofChange Rows.latticeJoinsSpec) false w args)
      (Rows.latticeJoinsSpec.post enc Tryz.prog Tryz.f4 false true false false) := by
  refine returnsInHanded_of_change_and (C := Tryz.checked) (X := fun w _ => laidMetH Tryz.prog laid3 w) (fun _ _ _ hh h => h.of_heap hh) ownNone started (by kernel_rfl) Tryz.func4
    (ChangeSpec.witness_shaped (enc := enc) (C := Tryz.checked) (os := os) (X := fun w _ => laidMetH Tryz.prog laid3 w) false (World.doorLaid Tryz.prog 24 os) #[g0, g0, g0] 8 rfl (World.shaped_of_RefB (by kernel_rfl) (by kernel_rfl)) (by kernel_rfl) (by kernel_rfl) (by kernel_rfl) (door_met os _)) ?_
  intro W base args ds gs before hval0 hW _ hsz hL _
  have hval : ∀ (j : Nat) t v, Tryz.f4.params[j]? = some t → args[j]? = some v → Value.okWide Tryz.prog W .any base t v := hval0
  have hW2 := hW
  obtain ⟨p, q, hA0, hV, rfl, _, _⟩ := hW
  have hA : DataW.TrodAll enc Tryz.prog W 0 (fun _ => true) true Tryz.f4.params.toList args.toList ds p := hA0
  have hz : (DataW.weightsEach Tryz.prog (Tryz.f4.params.toList ++ Rows.latticeJoinsSpec.plain.varTypes Tryz.prog) (ds ++ gs)).all (· ≤ reachBytes) = true := hsz
  rw [Tryz.params4] at hA hval hz
  obtain ⟨rfl, rfl⟩ := trodVars_none hV
  obtain ⟨v0, w0, d0, x0, p0, q0, a0, rfl, rfl, h0, t0⟩ := trodAll_cons hA
  obtain ⟨v1, w1, d1, x1, p1, q1, a1, rfl, rfl, h1, t1⟩ := trodAll_cons t0
  obtain ⟨v2, w2, d2, x2, p2, q2, a2, rfl, rfl, h2, t2⟩ := trodAll_cons t1
  obtain ⟨z1, rfl, rfl⟩ := trodAll_nil t2
  have hargs : args.toList = [v0, v1, v2] := by rw [a0, a1, a2, z1]
  obtain rfl : args = #[v0, v1, v2] := by apply Array.ext'; simpa using hargs
  have g := good_of_laid hL
  obtain ⟨θ, H0, s⟩ := sn0 g
  have hw0 : Lt d0 24 := fun n hn => by simpa using List.all_eq_true.1 hz n (DataW.weights_mem_each (j := 0) rfl rfl n hn)
  obtain ⟨θ0, H1, u0, A0, s0, l0, e0, r0, ga0, sa0⟩ := s.arg (hval 0 24 v0 rfl rfl) h0 hw0
  have hw1 : Lt d1 24 := fun n hn => by simpa using List.all_eq_true.1 hz n (DataW.weights_mem_each (j := 1) rfl rfl n hn)
  obtain ⟨θ1, H2, u1, A1, s1, l1, e1, r1, ga1, sa1⟩ := s0.arg (hval 1 24 v1 rfl rfl) h1 hw1
  have hw2 : Lt d2 24 := fun n hn => by simpa using List.all_eq_true.1 hz n (DataW.weights_mem_each (j := 2) rfl rfl n hn)
  obtain ⟨θ2, H3, u2, A2, s2, l2, e2, r2, ga2, sa2⟩ := s1.arg (hval 2 24 v2 rfl rfl) h2 hw2
  refine (ends s2 g (args := [u0, u1, u2]) (us := #[v0, v1, v2]) ⟨_, _, rfl, (r0.mono (l1.trans (l2))), ⟨_, _, rfl, (r1.mono (l2)), ⟨_, _, rfl, r2, rfl⟩⟩⟩ (call4 lives (ga0.ex ((e1.trans e2))) (ga1.ex (e2)) ga2 sa0 sa1 sa2)).mono fun e w2 h => ?_
  obtain ⟨rfl, h⟩ := h
  exact ⟨_, rfl, post_true (by rw [Tryz.params4]; intro t ht; simp at ht; subst ht; exact read24) rfl rfl hW2 (fun _ => rfl) h⟩

theorem latticeJoins_holds : Rows.LatticeJoinsSaid :=
  OpenClaim.holds_of_wide 4 Tryz.f4 rfl rfl rfl rfl rfl rfl rfl ⟨rfl, rfl, rfl, rfl, rfl⟩ rfl rfl rfl rfl rfl (by kernel_rfl) Tryz.func4 (by kernel_rfl)
    (of_decide_eq_true (by kernel_rfl)) (by unfold Func.isWrapper; first | (rw [if_pos (by decide +kernel)]; kernel_rfl) | (rw [if_neg (by decide +kernel)]; exact ⟨rfl, rfl⟩))
    (fun os started H enc _ => latticeJoins_lifted os started H enc)

theorem latticeJoins_card : Rows.LatticeJoinsCardSaid :=
  Claim7.holds_tied_plain_at .later [] [.data, .data, .data] true (true, "485a50cdda381f550d80658d9d8f8f96a93b519eb2bf32fa582a733cf7f37661") true
    latticeJoins_holds (fun _ h => by cases h) (by kernel_rfl) (fun _ h => by cases h) latticeJoins_row_tie rfl ⟨rfl, rfl⟩ (by kernel_rfl) rfl
    (fun f fn hf hfn => by
      obtain rfl : f = 4 := Option.some.inj ((show Tryz.prog.funcNamed "azimuth/azimuthlaw11.LatticeJoins" = some 4 by kernel_rfl).symm.trans hf) |>.symm
      obtain rfl : fn = Tryz.f4 := (Option.some.inj (Tryz.func4.symm.trans hfn)).symm
      exact ⟨by kernel_rfl, fun j t ht => by
        rw [Tryz.params4] at ht
        have hm : t ∈ [24, 24, 24] := by simpa using Array.mem_of_getElem? ht
        have hall : ([24, 24, 24].all fun u => !Tryz.prog.wantsStandIn u) = true := by kernel_rfl
        exact (show Tryz.prog.wantsStandIn t = false by simpa using List.all_eq_true.1 hall t hm)⟩)
    (by kernel_rfl)
#print axioms latticeJoins_card
end Go.Proofs.YtlgbgbngdhhjaaaGreatDoor
