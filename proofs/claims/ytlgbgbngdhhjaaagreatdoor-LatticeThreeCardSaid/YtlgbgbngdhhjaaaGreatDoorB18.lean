/- From a call in the abstract memory to the row. No condition. -/
import Derived.Test.YtlgbgbngdhhjaaaGreatDoorB12
import Derived.Test.YtlgbgbngdhhjaaaGreatDoorB13
import Derived.Test.YtlgbgbngdhhjaaaGreatDoorTie
import Derived.LaidMore
import Derived.OpenShut
import Derived.ProofKit
import Derived.Stop.Joined
import Derived.ChangeBook
import Derived.ChangeStays
import Derived.Lib.LaidTab
import Derived.SevenTiedAt
set_option linter.unusedSimpArgs false
set_option linter.unusedVariables false
set_option maxRecDepth 10000
namespace Go.Proofs.YtlgbgbngdhhjaaaGreatDoor
namespace K
noncomputable section
open Go AM
open ChangeShapes WideShapes RowKit

theorem lives : Lives := fun H => ⟨.b true, H, ⟨fn8, Nat.le_refl _, K.lives_all H⟩, rfl, rfl⟩

/-- The three variables that the rows list. -/
def laid3 : List (String × DataW Unit) := [("math/bits.deBruijn32tab", Rows.laid_math_bits_deBruijn32tab), ("math/bits.deBruijn64tab", Rows.laid_math_bits_deBruijn64tab), ("internal/strconv.uint64pow10", Rows.laid_internal_strconv_uint64pow10)]

theorem gPow : Tryz.prog.globalNamed "internal/strconv.uint64pow10" = some 1 := by kernel_rfl
theorem tPow : (Tryz.prog.globals[1]?).map (·.type) = some 236 := by kernel_rfl
theorem uT236 : Tryz.prog.underlying 236 = some (.array 20 120) := by kernel_rfl
theorem uT120 : Tryz.prog.underlying 120 = some (.int .u64) := by kernel_rfl
theorem cT120 : Tryz.prog.cellsOf 120 = 1 := by kernel_rfl
theorem cT236 : Tryz.prog.cellsOf 236 = 20 := by kernel_rfl

theorem good_of_laid {W : World} (h : laidMetH Tryz.prog laid3 W) : KOk ⟨fun b => W.heap[b]?, W.os, W.tape, W.output⟩ := by
  rw [MakeChecks.laidMetH_plain _ _ _ (by kernel_rfl)] at h
  obtain ⟨ps, ⟨g0, t0, cs0, f0, p0, q0, _, _, _, _, ⟨g1, t1, cs1, f1, p1, q1, _, _, _, _, ⟨g2, t2, cs2, f2, p2, q2, hg2, ht2, hv2, hd2, _, _⟩, _⟩, _⟩, _⟩ := h
  obtain rfl := Option.some.inj (gPow.symm.trans hg2)
  obtain rfl := Option.some.inj (tPow.symm.trans ht2)
  have hc : cs2.toList = Lib.pow10Tab.map fun z => Value.int .u64 z := Lib.cells_of_tab uT236 uT120 cT120 cT236 hd2
  have hv : W.var? Tryz.prog "internal/strconv.uint64pow10" = some cs2 := hv2
  unfold World.var? at hv
  rw [gPow] at hv
  simp only [Option.bind_some] at hv
  split at hv
  · rename_i cs e' fr hb
    obtain rfl := Option.some.inj hv
    exact ⟨e', fr, by rw [← hc]; simpa using hb⟩
  · cases hv

/-- The memory in which nothing is told yet but one empty row. -/
theorem sn0 {W : World} (g : KOk ⟨fun b => W.heap[b]?, W.os, W.tape, W.output⟩) : ∃ θ H, Sn W θ H := by
  obtain ⟨e, fr, hb⟩ := g
  refine ⟨fun i => if i = 0 then some ⟨1, 0, (Lib.pow10Tab.map fun z => Value.int .u64 z).toArray.size⟩ else none, (⟨0, .e⟩ : Heap).push (.row [] false), ⟨fun i hi => ?_, fun i l hi => ?_, ⟨_, rfl⟩⟩⟩
  · have hi' : 1 ≤ i := hi
    refine ⟨if_neg (by omega), ?_⟩
    rw [push_other (by show i ≠ 0; omega)]
    rfl
  · split at hi
    · rename_i h0
      subst h0
      obtain rfl := Option.some.inj hi
      exact ⟨[], _, get_push_nx _ _, hb, _, e, fr, rfl, rfl, Nat.zero_le _, fun j x hj => by simp at hj, fun h => by cases h⟩
    · cases hi

theorem ends {f : FuncId} {args : List AVal} {us : Array Value} {W : World} {θ : Th} {H : Heap} (s : Sn W θ H) (g : KOk ⟨fun b => W.heap[b]?, W.os, W.tape, W.output⟩) (hv : VRels θ args us.toList) (c : Call f args H fun v _ => v = .b true) :
    Calls Tryz.prog f us W fun e w' => e = .returned (.bool true) ∧ w'.os = W.os ∧ w'.output = W.output ∧ ∀ (b : Nat) o, W.heap[b]? = some o → w'.heap[b]? = some o := by
  obtain ⟨v, H', ⟨_, _, hc⟩, rfl⟩ := c
  refine (hc _ θ W us (s.wrel g) hv).mono fun e w' h => ?_
  obtain ⟨θ', u, rfl, _, hu, hw⟩ := h
  rw [VRel.bool] at hu
  subst hu
  exact ⟨rfl, hw.os, hw.output, hw.kept⟩

section
variable {H0 : Type} {enc : TypeId × Value → H0}

theorem same_of_kept {W W' : World} (hk : ∀ (b : Nat) o, W.heap[b]? = some o → W'.heap[b]? = some o) : ∀ p : MemPlace, p.block < W.heap.size → W.sameAt W' p
  | .cell b off, h => by
    have hb : W.heap[b]? = some W.heap[b] := Array.getElem?_eq_getElem h
    show W'.cell? _ = W.cell? _
    simp only [World.cell?, hk _ _ hb, hb]
  | .map b, h => by
    have hb : W.heap[b]? = some W.heap[b] := Array.getElem?_eq_getElem h
    show W'.heap[b]? = W.heap[b]?
    rw [hk _ _ hb, hb]

theorem kept_but {W W' : World} (hos : W'.os = W.os) (hout : W'.output = W.output) (hk : ∀ (b : Nat) o, W.heap[b]? = some o → W'.heap[b]? = some o) (may : MemPlace → Prop) : W.keptBut W' may := by
  refine ⟨hos, hout, fun i hi => ?_⟩
  have hb : W.heap[i]? = some W.heap[i] := Array.getElem?_eq_getElem hi
  rw [hb, hk _ _ hb]
  cases W.heap[i] <;> simp

theorem laidOut : laidOutB Tryz.prog = true := by kernel_rfl

theorem stays_one {W W' : World} (hk : ∀ (b : Nat) o, W.heap[b]? = some o → W'.heap[b]? = some o) {t : TypeId} (hr : Tryz.prog.readableRec t = true) (ht : t < Tryz.prog.types.size) {sp : Nat → Bool} {v : Value} {d : DataW H0} {p : List MemPlace}
    (h : DataW.Trod enc Tryz.prog W 0 (fun _ => true) true t v d p) (hs : ∀ q ∈ p, sp q.block = true) : DataW.Trod enc Tryz.prog W' 0 sp true t v d p := by
  obtain ⟨fuel, hf⟩ := h
  exact ⟨fuel, DataW.trod_stays (kids_book laidOut hr) (fun ht hu => book_sized hr ht hu) (fun h => by cases h) ⟨ht, book_self t⟩ hf (fun q hq => same_of_kept hk q (DataW.trod_lt _ _ _ _ hf q hq)) hs⟩

theorem stays_all {W W' : World} (hk : ∀ (b : Nat) o, W.heap[b]? = some o → W'.heap[b]? = some o) {sp : Nat → Bool} : ∀ {ts : List TypeId} {vs : List Value} {ds : List (DataW H0)} {p : List MemPlace}, (∀ t ∈ ts, Tryz.prog.readableRec t = true ∧ t < Tryz.prog.types.size) →
    DataW.TrodAll enc Tryz.prog W 0 (fun _ => true) true ts vs ds p → (∀ q ∈ p, sp q.block = true) → DataW.TrodAll enc Tryz.prog W' 0 sp true ts vs ds p
  | [], [], [], _, _, h, _ => h
  | t :: ts, v :: vs, d :: ds, _, ht, ⟨p, q, h1, h2, e⟩, hs => by
    subst e
    exact ⟨p, q, stays_one hk (ht t (by simp)).1 (ht t (by simp)).2 h1 (fun x hx => hs x (by simp [hx])), stays_all hk (fun t h => ht t (by simp [h])) h2 (fun x hx => hs x (by simp [hx])), rfl⟩

/-- The law's answer is true, all is as it was: the row's sentence. -/
theorem post_true {f : Func} {s : ChangeSpec} (hts : ∀ t ∈ f.params.toList, Tryz.prog.readableRec t = true ∧ t < Tryz.prog.types.size) (hres : f.resultTypes = #[4]) (hvars : s.vars = []) {W W' : World} {args : Array Value} {ds gs : List (DataW H0)} {before : List MemPlace}
    (hW : DataW.Whole enc Tryz.prog f.params.toList s.vars false W args.toList ds gs before) (hfn : gs = [] → s.fn H0 (ds ++ gs) = { results := [.lit (.bool true)], args := ds })
    (h : W'.os = W.os ∧ W'.output = W.output ∧ ∀ (b : Nat) o, W.heap[b]? = some o → W'.heap[b]? = some o) : s.post enc Tryz.prog f false true false false W args (.bool true) W' := by
  obtain ⟨hos, hout, hk⟩ := h
  have hW' := hW
  obtain ⟨p, q, hA, hV, rfl, _, _⟩ := hW
  have hV' := hV
  rw [hvars] at hV'
  obtain ⟨rfl, rfl⟩ := trodVars_none hV'
  have hf := hfn rfl
  have hlt : ∀ x ∈ p, x.block < W.heap.size := fun x hx => DataW.TrodAll.lt hA x hx
  refine ⟨ds, [], p ++ [], [], p, [], hW', ?_, ?_, ?_, kept_but hos hout hk _, fun h => by cases h⟩
  · rw [hf, hres]
    exact trodAll_mk1 (shut_bool uT4 true)
  · rw [hf]
    exact stays_all hk hts hA (fun x hx => by simpa using hlt x hx)
  · rw [hf, hvars]
    rfl

end

/-- The door's own heap meets the condition. -/
theorem door_met (os : Os) (args : Array Value) : laidMetH Tryz.prog laid3 ((World.doorLaid Tryz.prog 24 os).forCall (fun _ _ => 0) ⟨#[], args, []⟩).memory :=
  laidMetH_of_parts3 (fuel := 8) (laidMet_of_run' 8 (by kernel_rfl) (by kernel_rfl)) (by kernel_rfl) (by kernel_rfl)
theorem ownNone : ownKnob Tryz.prog.godebug = none := by kernel_rfl
/-- An empty graph. -/
def g0 : Value := .agg #[.slice none 0 0, .int .i64 0]
theorem read24 : Tryz.prog.readableRec 24 = true ∧ 24 < Tryz.prog.types.size := ⟨by kernel_rfl, of_decide_eq_true (by kernel_rfl)⟩
theorem read34 : Tryz.prog.readableRec 34 = true ∧ 34 < Tryz.prog.types.size := ⟨by kernel_rfl, of_decide_eq_true (by kernel_rfl)⟩
theorem read4 : Tryz.prog.readableRec 4 = true ∧ 4 < Tryz.prog.types.size := ⟨by kernel_rfl, of_decide_eq_true (by kernel_rfl)⟩

end
end K
end Go.Proofs.YtlgbgbngdhhjaaaGreatDoor
