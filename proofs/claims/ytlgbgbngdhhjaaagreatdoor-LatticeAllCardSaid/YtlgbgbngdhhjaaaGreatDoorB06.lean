/- What the small functions, those of names, of forms and of trees come to. No condition. -/
import Derived.Test.YtlgbgbngdhhjaaaGreatDoorB17
set_option linter.unusedSimpArgs false
set_option linter.unusedVariables false
set_option maxRecDepth 10000
namespace Go.Proofs.YtlgbgbngdhhjaaaGreatDoor
namespace K
noncomputable section
open Go AM

theorem drop_at {α : Type} {l : List α} {j : Nat} {x : α} (h : l[j]? = some x) : l.drop j = x :: l.drop (j + 1) := by
  obtain ⟨h1, h2⟩ := List.getElem?_eq_some_iff.1 h
  rw [List.drop_eq_getElem_cons h1, h2]

/-- The number of the first one that is so, from a number on; or -1. -/
def ixF {α : Type} (p : α → Bool) : List α → Nat → Int
  | [], _ => -1
  | x :: r, n => if p x then (n : Int) else ixF p r (n + 1)

theorem ixF_nonneg {α : Type} (p : α → Bool) : ∀ (l : List α) (n : Nat), decide (0 ≤ ixF p l n) = l.any p
  | [], n => by simp [ixF]
  | x :: r, n => by
    cases h : p x with
    | true => simp [ixF, h]
    | false => simp [ixF, h, ← ixF_nonneg p r (n + 1)]

theorem call109 {H : Heap} {v : AVal} {l : List (List Nat)} {x : List Nat} (hl : Strs H v l) (hm : l.length < 4611686018427387904) :
    Call 109 [v, .s x] H fun v H' => H' = H ∧ v = .i .i64 (ixF (fun y => x == y) l 0) := by
  refine Call.by (a := a109) rfl (by simp [a109]) ?_
  simp [r109_0, r109_1, r109_2, r109_3, r109_4, r109_5, r109_6, l109_0, r109_7, c109, a109, hl.len']
  refine Loop.by (fun k T H' => H' = H ∧ T.get 0 = some v ∧ T.get 1 = some (.s x) ∧ T.get 7 = some (.i .i64 (l.length : Int)) ∧
    ∃ j : Nat, j + k = l.length ∧ T.get 8 = some (.i .i64 (j : Int)) ∧ ixF (fun y => x == y) l 0 = ixF (fun y => x == y) (l.drop j) j) l.length ?_ ?_
  · exact ⟨rfl, by simp, by simp, by simp, 0, by simp⟩
  · rintro k T H' ⟨rfl, h0, h1, h7, j, hjk, h8, hf⟩
    by_cases hj : j < l.length
    · obtain ⟨y, hy⟩ : ∃ y, l[j]? = some y := ⟨_, List.getElem?_eq_getElem hj⟩
      rw [drop_at hy, ixF] at hf
      have hlt : (j : Int) < (l.length : Int) := by omega
      cases hxy : x == y with
      | true =>
        simp only [hxy, if_true] at hf
        simp [r109_0, r109_1, r109_2, r109_3, r109_4, r109_5, r109_6, l109_0, r109_7, h0, h1, h7, h8, hlt, sidx_at hl.len' hj, hl.get hy, hxy, hf]
      | false =>
        simp only [hxy, Bool.false_eq_true, if_false] at hf
        simp [r109_0, r109_1, r109_2, r109_3, r109_4, r109_5, r109_6, l109_0, r109_7, h0, h1, h7, h8, hlt, sidx_at hl.len' hj, hl.get hy, hxy, b_inc (show j < 4611686018427387904 by omega)]
        exact ⟨k - 1, by omega, j + 1, by omega, rfl, hf⟩
    · have hlt : ¬ (j : Int) < (l.length : Int) := by omega
      have he : l.drop j = [] := List.drop_eq_nil_of_le (by omega)
      rw [he, ixF] at hf
      simp [r109_0, r109_1, r109_2, r109_3, r109_4, r109_5, r109_6, l109_0, r109_7, h0, h1, h7, h8, hlt, hf]

theorem call78 {H : Heap} {v : AVal} {l : List (List Nat)} {x : List Nat} (hl : Strs H v l) (hm : l.length < 4611686018427387904) :
    Call 78 [v, .s x] H fun v H' => H' = H ∧ v = .b (l.any fun y => x == y) := by
  refine Call.by (a := a78) rfl (by simp [a78]) ?_
  simp [r78_0, r78_1, c78, a78]
  refine Call.is (call109 hl hm) ?_
  simp [kC]
  exact ixF_nonneg (fun y => x == y) l 0

theorem call108 {H : Heap} {v : AVal} {l : List (List Nat)} {f : FuncId} {caps : List AVal} {p : List Nat → Bool} (hl : Strs H v l) (hm : l.length < 4611686018427387904)
    (hp : ∀ x ∈ l, Call f ([.s x] ++ caps) H fun v H' => H' = H ∧ v = .b (p x)) :
    Call 108 [v, .f f caps] H fun v H' => H' = H ∧ v = .i .i64 (ixF p l 0) := by
  refine Call.by (a := a108) rfl (by simp [a108]) ?_
  simp [r108_0, r108_1, r108_2, r108_3, r108_4, r108_5, r108_6, l108_0, r108_7, c108, a108, hl.len']
  refine Loop.by (fun k T H' => H' = H ∧ T.get 0 = some v ∧ T.get 1 = some (.f f caps) ∧ T.get 7 = some (.i .i64 (l.length : Int)) ∧
    ∃ j : Nat, j + k = l.length ∧ T.get 8 = some (.i .i64 (j : Int)) ∧ ixF p l 0 = ixF p (l.drop j) j) l.length ?_ ?_
  · exact ⟨rfl, by simp, by simp, by simp, 0, by simp⟩
  · rintro k T H' ⟨rfl, h0, h1, h7, j, hjk, h8, hf⟩
    by_cases hj : j < l.length
    · obtain ⟨y, hy⟩ : ∃ y, l[j]? = some y := ⟨_, List.getElem?_eq_getElem hj⟩
      rw [drop_at hy, ixF] at hf
      have hlt : (j : Int) < (l.length : Int) := by omega
      simp [r108_0, r108_1, r108_2, r108_3, r108_4, r108_5, r108_6, l108_0, r108_7, h0, h1, h7, h8, hlt, sidx_at hl.len' hj, hl.get hy]
      refine Call.is (hp y (List.mem_of_getElem? hy)) ?_
      cases hxy : p y with
      | true =>
        simp only [hxy, if_true] at hf
        simp [kC, hf]
      | false =>
        simp only [hxy, Bool.false_eq_true, if_false] at hf
        simp [kC, h8, h0, h1, h7, b_inc (show j < 4611686018427387904 by omega)]
        exact ⟨k - 1, by omega, j + 1, by omega, rfl, hf⟩
    · have hlt : ¬ (j : Int) < (l.length : Int) := by omega
      have he : l.drop j = [] := List.drop_eq_nil_of_le (by omega)
      rw [he, ixF] at hf
      simp [r108_0, r108_1, r108_2, r108_3, r108_4, r108_5, r108_6, l108_0, r108_7, h0, h1, h7, h8, hlt, hf]

theorem call137 {H : Heap} {v : AVal} {l : List (List Nat)} {f : FuncId} {caps : List AVal} {p : List Nat → Bool} (hl : Strs H v l) (hm : l.length < 4611686018427387904)
    (hp : ∀ x ∈ l, Call f ([.s x] ++ caps) H fun v H' => H' = H ∧ v = .b (p x)) :
    Call 137 [v, .f f caps] H fun v H' => H' = H ∧ v = .b (l.any p) := by
  refine Call.by (a := a137) rfl (by simp [a137]) ?_
  simp [r137_0, r137_1, c137, a137]
  refine Call.is (call108 hl hm hp) ?_
  simp [kC]
  exact ixF_nonneg p l 0

theorem call101 {H : Heap} {v : AVal} {l : List Int} {f : FuncId} {caps : List AVal} {p : Int → Bool} (hl : Ints H v l) (hm : l.length < 4611686018427387904)
    (hp : ∀ x ∈ l, Call f ([.i .i64 x] ++ caps) H fun v H' => H' = H ∧ v = .b (p x)) :
    Call 101 [v, .f f caps] H fun v H' => H' = H ∧ v = .i .i64 (ixF p l 0) := by
  refine Call.by (a := a101) rfl (by simp [a101]) ?_
  simp [r101_0, r101_1, r101_2, r101_3, r101_4, r101_5, r101_6, l101_0, r101_7, c101, a101, hl.len']
  refine Loop.by (fun k T H' => H' = H ∧ T.get 0 = some v ∧ T.get 1 = some (.f f caps) ∧ T.get 7 = some (.i .i64 (l.length : Int)) ∧
    ∃ j : Nat, j + k = l.length ∧ T.get 8 = some (.i .i64 (j : Int)) ∧ ixF p l 0 = ixF p (l.drop j) j) l.length ?_ ?_
  · exact ⟨rfl, by simp, by simp, by simp, 0, by simp⟩
  · rintro k T H' ⟨rfl, h0, h1, h7, j, hjk, h8, hf⟩
    by_cases hj : j < l.length
    · obtain ⟨y, hy⟩ : ∃ y, l[j]? = some y := ⟨_, List.getElem?_eq_getElem hj⟩
      rw [drop_at hy, ixF] at hf
      have hlt : (j : Int) < (l.length : Int) := by omega
      simp [r101_0, r101_1, r101_2, r101_3, r101_4, r101_5, r101_6, l101_0, r101_7, h0, h1, h7, h8, hlt, sidx_at hl.len' hj, hl.get hy]
      refine Call.is (hp y (List.mem_of_getElem? hy)) ?_
      cases hxy : p y with
      | true =>
        simp only [hxy, if_true] at hf
        simp [kC, hf]
      | false =>
        simp only [hxy, Bool.false_eq_true, if_false] at hf
        simp [kC, h8, h0, h1, h7, b_inc (show j < 4611686018427387904 by omega)]
        exact ⟨k - 1, by omega, j + 1, by omega, rfl, hf⟩
    · have hlt : ¬ (j : Int) < (l.length : Int) := by omega
      have he : l.drop j = [] := List.drop_eq_nil_of_le (by omega)
      rw [he, ixF] at hf
      simp [r101_0, r101_1, r101_2, r101_3, r101_4, r101_5, r101_6, l101_0, r101_7, h0, h1, h7, h8, hlt, hf]

theorem call67 {H : Heap} {v : AVal} {l : List Int} {f : FuncId} {caps : List AVal} {p : Int → Bool} (hl : Ints H v l) (hm : l.length < 4611686018427387904)
    (hp : ∀ x ∈ l, Call f ([.i .i64 x] ++ caps) H fun v H' => H' = H ∧ v = .b (p x)) :
    Call 67 [v, .f f caps] H fun v H' => H' = H ∧ v = .b (l.any p) := by
  refine Call.by (a := a67) rfl (by simp [a67]) ?_
  simp [r67_0, r67_1, c67, a67]
  refine Call.is (call101 hl hm hp) ?_
  simp [kC]
  exact ixF_nonneg p l 0

theorem call66 {H : Heap} {x : Int} : Call 66 [.i .i64 x] H fun v H' => H' = H ∧ v = .b (x != 1) := by
  refine Call.by (a := a66) rfl (by simp [a66]) ?_
  simp [r66_0, r66_1, c66, a66]


def sbt (v j : AVal) : Option AVal :=
  match v, j with
  | .s l, .i _ (.ofNat j) => (match l[j]? with | some (c : Nat) => some (.i .u8 (Int.ofNat c)) | none => none)
  | _, _ => none
@[simp] theorem p_idxS (T : Tm) (x i : AOpd) : aPure T (.idxS x i) = (ev T x).bind fun v => (ev T i).bind fun j => sbt v j := by
  simp only [aPure]
  cases ev T x with
  | none => rfl
  | some v =>
    cases ev T i with
    | none => cases v <;> rfl
    | some j =>
      cases v <;> (try rfl)
      cases j <;> (try rfl)
      rename_i k n
      cases n <;> rfl
theorem sbt_at {l : List Nat} {k : IntKind} {j c : Nat} (h : l[j]? = some c) : sbt (.s l) (.i k (j : Int)) = some (.i .u8 (c : Int)) := by
  show (match l[j]? with | some (c : Nat) => some (AVal.i .u8 (Int.ofNat c)) | none => none) = _
  rw [h]; rfl
theorem s_add {a b : List Nat} (h : a.length + b.length < 1099511627776) : aBin .add (.s a) (.s b) = some (.s (a ++ b)) := by
  rw [aBin_eq]; simp [aBin0, h]
@[simp] theorem p_slcS (T : Tm) (x : AOpd) (lo hi : Option AOpd) : aPure T (.slcS x lo hi) = (ev T x).bind fun v => (evO T lo).bind fun a => (evO T hi).bind fun b => aSlcS v a b := by
  simp only [aPure]
  cases ev T x <;> cases evO T lo <;> cases evO T hi <;> rfl
@[simp] theorem p_slc (T : Tm) (es : Nat) (x : AOpd) (lo hi mx : Option AOpd) : aPure T (.slc es x lo hi mx) = (ev T x).bind fun v => (evO T lo).bind fun a => (evO T hi).bind fun b => (evO T mx).bind fun c => aSlc es v a b c := by
  simp only [aPure]
  cases ev T x <;> cases evO T lo <;> cases evO T hi <;> cases evO T mx <;> rfl
@[simp] theorem evO_none (T : Tm) : evO T none = some none := nr rfl
@[simp] theorem evO_some (T : Tm) (x : AOpd) : evO T (some x) = (ev T x).map some := nr rfl
@[simp] theorem p_mkfn (T : Tm) (f : FuncId) (caps : List AOpd) : aPure T (.mkfn f caps) = (evs T caps).map (.f f) := nr rfl
@[simp] theorem p_convI (T : Tm) (k : IntKind) (x : AOpd) : aPure T (.convI k x) = (ev T x).bind fun
    | .i _ n => some (.i k (wrapF k n))
    | _ => none := by
  simp only [aPure]
  cases ev T x with
  | none => rfl
  | some v => cases v <;> rfl
@[simp] theorem p_convSS (T : Tm) (x : AOpd) : aPure T (.convSS x) = (ev T x).bind fun
    | .s l => some (.s l)
    | _ => none := by
  simp only [aPure]
  cases ev T x with
  | none => rfl
  | some v => cases v <;> rfl
@[simp] theorem p_build (T : Tm) (z : List AVal) (parts : List (Nat × Nat × AOpd)) : aPure T (.build z parts) = (evParts T parts).bind fun ps => (aFill ps z).map .agg := nr rfl
def cnp (a b : Nat) (x : Option AVal) (l : Option (List (Nat × Nat × AVal))) : Option (List (Nat × Nat × AVal)) := match x, l with
  | some x, some l => some ((a, b, x) :: l)
  | _, _ => none
@[simp] theorem cnp_some (a b x l) : cnp a b (some x) (some l) = some ((a, b, x) :: l) := nr rfl
@[simp] theorem evParts_nil (T : Tm) : evParts T [] = some [] := nr rfl
@[simp] theorem evParts_cons (T : Tm) (a b : Nat) (x : AOpd) (l) : evParts T ((a, b, x) :: l) = cnp a b (ev T x) (evParts T l) := by
  simp only [evParts, cnp]
  cases ev T x <;> cases evParts T l <;> rfl
theorem n_bsl (T : Tm) (es n : Nat) (z : List AVal) (parts : List (Nat × AOpd)) : aNew T (.bsl es n z parts) = (evParts T (parts.map fun p => (p.1 * es, es, p.2))).bind fun ps => if z.length = es ∧ n * es ≤ 16777216 then (aFill ps ((List.range (n * es)).map fun i => z.getD (i % es) .ni)).map fun cs => (.row cs true, fun i => .sl i 0 n (some n) es) else none := by
  simp only [aNew]
  cases evParts T (parts.map fun p => (p.1 * es, es, p.2)) <;> rfl

@[simp] theorem cells_b (x) : (AVal.b x).cells? = some [.b x] := nr rfl
@[simp] theorem cells_i (k n) : (AVal.i k n).cells? = some [.i k n] := nr rfl
@[simp] theorem cells_s (l) : (AVal.s l).cells? = some [.s l] := nr rfl
@[simp] theorem cells_np : (AVal.np).cells? = some [.np] := nr rfl
@[simp] theorem cells_p (i o) : (AVal.p i o).cells? = some [.p i o] := nr rfl
@[simp] theorem cells_nsl : (AVal.nsl).cells? = some [.nsl] := nr rfl
@[simp] theorem cells_sl (i o n k e) : (AVal.sl i o n k e).cells? = some [.sl i o n k e] := nr rfl
@[simp] theorem cells_nm : (AVal.nm).cells? = some [.nm] := nr rfl
@[simp] theorem cells_m (i) : (AVal.m i).cells? = some [.m i] := nr rfl
@[simp] theorem cells_f (f c) : (AVal.f f c).cells? = some [.f f c] := nr rfl
@[simp] theorem cells_agg (c) : (AVal.agg c).cells? = some c := nr rfl
theorem Sl.cells {H : Heap} {es : Nat} {agg : Bool} {v : AVal} {l : List AVal} (h : Sl H es agg v l) : v.cells? = some [v] := by
  have h2 := h.ins
  cases v <;> simp only [slin] at h2 <;> rfl
theorem Hds.cells {H : Heap} {v : AVal} {l : List Hd} (h : Hds H v l) : v.cells? = some [v] := by
  have h2 := h.ins
  cases v <;> simp only [slin] at h2 <;> rfl

/-- A slice of a known row. -/
theorem Sl.row {H : Heap} {i o n : Nat} {k : Option Nat} {cs : List AVal} {own : Bool} (hg : H.get i = some (.row cs own)) (hi : i < H.nx) (hn : o + n ≤ cs.length) : Sl H 1 false (.sl i o n k 1) ((cs.drop o).take n) := by
  refine ⟨by simp; omega, ⟨hi, rfl⟩, fun j x hx => ?_⟩
  have hj : j < n := by
    have := (List.getElem?_eq_some_iff.1 hx).1
    simp at this; omega
  simp only [sptr_sl, Nat.mul_one, load_row hg]
  rw [List.getElem?_take, if_pos hj, List.getElem?_drop] at hx
  exact hx

theorem Sl.all {H : Heap} {i n : Nat} {k : Option Nat} {cs : List AVal} {own : Bool} (hg : H.get i = some (.row cs own)) (hi : i < H.nx) (hn : n = cs.length) : Sl H 1 false (.sl i 0 n k 1) cs := by
  have := Sl.row (o := 0) (n := n) (k := k) hg hi (by omega)
  simpa [hn] using this
@[simp] theorem get_push_nx (H : Heap) (o : AObj) : (H.push o).get H.nx = some o := by rw [Heap.get_push, if_pos rfl]
theorem get_push_old {H : Heap} {o : AObj} {i : Nat} (h : i < H.nx) : (H.push o).get i = H.get i := by rw [Heap.get_push, if_neg (by omega)]

theorem splice_all {cs acc : List AVal} (h : cs.length = acc.length) : splice acc 0 cs = cs := by
  simp [splice, h]

@[simp] theorem n_bsl1 (T : Tm) (es : Nat) (z : List AVal) (x : AOpd) : aNew T (.bsl es 1 z [(0, x)]) = (ev T x).bind fun v => v.cells?.bind fun cs => if z.length = es ∧ es ≤ 16777216 ∧ cs.length = es then some (.row cs true, fun i => .sl i 0 1 (some 1) es) else none := by
  rw [n_bsl]
  simp only [List.map_cons, List.map_nil, evParts_cons, evParts_nil]
  cases ev T x with
  | none => rfl
  | some v =>
    simp only [cnp_some, Option.bind_some, aFill]
    cases v.cells? with
    | none => simp
    | some cs =>
      by_cases h1 : z.length = es
      · by_cases h2 : es ≤ 16777216
        · by_cases h3 : cs.length = es
          · have hl : cs.length = ((List.range (1 * es)).map fun i => z.getD (i % es) .ni).length := by simp [h3]
            simp only [Option.bind_some, h1, h2, h3, Nat.one_mul, true_and, Nat.zero_mul, Nat.zero_add, List.length_map, List.length_range, Nat.le_refl, and_self, if_true, Option.map_some]
            rw [Nat.one_mul] at hl
            rw [splice_all hl]
          · simp [h1, h2, h3]
        · simp [h2]
      · simp [h1]

@[simp] theorem n_bsl0 (T : Tm) (es : Nat) (z : List AVal) : aNew T (.bsl es 0 z []) = if z.length = es then some (.row [] true, fun i => .sl i 0 0 (some 0) es) else none := by
  rw [n_bsl]
  by_cases h1 : z.length = es <;> simp [h1, aFill]

theorem slc_lo {es q o n i : Nat} {k : IntKind} (h : i ≤ n) : aSlc es (.sl q o n none es) (some (.i k (i : Int))) none none = some (.sl q (o + i * es) (n - i) none es) := by
  have hb : Nat.ble i n = true := by simpa [Nat.ble_eq] using h
  simp [aSlc, aBound, hb]
theorem slc_hi {es q o n i : Nat} {k : IntKind} (h : i ≤ n) : aSlc es (.sl q o n none es) none (some (.i k (i : Int))) none = some (.sl q o i none es) := by
  have hb : Nat.ble i n = true := by simpa [Nat.ble_eq] using h
  simp [aSlc, aBound, hb]
@[simp] theorem e_clr (T : Tm) (H : Heap) (es : Nat) (z : List AVal) (x : AOpd) : aEff T H (.clr es z x) = (ev T x).bind fun x => (aClr H es z x).map fun H => (.tup [], H) := by
  simp only [aEff]; cases ev T x <;> rfl
@[simp] theorem e_stb (T : Tm) (H : Heap) (x : AOpd) : aEff T H (.stb x) = (ev T x).bind fun x => aStb H x := by
  simp only [aEff]; cases ev T x <;> rfl
@[simp] theorem r_bts (T : Tm) (H : Heap) (x : AOpd) : aRead T H (.bts x) = (ev T x).bind fun x => aBts H x := by
  simp only [aRead]; cases ev T x <;> rfl
@[simp] theorem r_lenM (T : Tm) (H : Heap) (x : AOpd) : aRead T H (.lenM x) = (ev T x).bind fun
    | .nm => some (.i .i64 0)
    | .m i => (match H.get i with
      | some (.map es) => some (.i .i64 es.length)
      | _ => none)
    | _ => none := by
  simp only [aRead]
  cases ev T x with
  | none => rfl
  | some v => cases v <;> rfl


def lowC (c : Nat) : Bool := (decide ((97 : Int) ≤ c) && decide ((c : Int) ≤ 122)) || ((c : Int) == 95)
def digC (c : Nat) : Bool := decide ((48 : Int) ≤ c) && decide ((c : Int) ≤ 57)
def namC (c : Nat) : Bool := lowC c || digC c
def tagB : List Nat → Bool
  | [] => false
  | c :: r => lowC c && r.all namC
def wordsL : List (List Nat) := [[102, 117, 110], [108, 101, 116], [114, 101, 99], [105, 110], [105, 102], [116, 104, 101, 110], [101, 108, 115, 101], [99, 97, 115, 101], [111, 102], [101, 110, 100], [116, 114, 117, 101], [102, 97, 108, 115, 101], [105, 110, 116], [98, 111, 111, 108], [115, 116, 114], [102, 108, 111, 97, 116], [100, 121, 110], [97, 110, 121], [110, 111, 110, 101], [116, 121, 112, 101]]
def wordB (s : List Nat) : Bool := wordsL.any fun y => s == y
def nameB (s : List Nat) : Bool := tagB s && !wordB s

theorem call118 {H : Heap} {c : Nat} : Call 118 [.i .u8 (c : Int)] H fun v H' => H' = H ∧ v = .b (lowC c) := by
  refine Call.by (a := a118) rfl (by simp [a118]) ?_
  by_cases h1 : (97 : Int) ≤ c <;> by_cases h2 : (c : Int) ≤ 122 <;> simp [r118_0, r118_1, c118, a118, h1, h2, lowC]

theorem call123 {H : Heap} {c : Nat} : Call 123 [.i .u8 (c : Int)] H fun v H' => H' = H ∧ v = .b (digC c) := by
  refine Call.by (a := a123) rfl (by simp [a123]) ?_
  by_cases h1 : (48 : Int) ≤ c <;> simp [r123_0, r123_1, c123, a123, h1, digC]

theorem call119 {H : Heap} {c : Nat} : Call 119 [.i .u8 (c : Int)] H fun v H' => H' = H ∧ v = .b (namC c) := by
  refine Call.by (a := a119) rfl (by simp [a119]) ?_
  simp [r119_0, r119_1, c119, a119]
  refine Call.is call118 ?_
  cases h : lowC c with
  | true => simp [kC, h, namC]
  | false =>
    simp [kC]
    refine Call.is call123 ?_
    simp [kC, namC, h]

theorem call115 {H : Heap} {s : List Nat} {f : FuncId} {p : Nat → Bool} (hm : s.length < 4611686018427387904)
    (hp : ∀ c : Nat, Call f [.i .u8 (c : Int)] H fun v H' => H' = H ∧ v = .b (p c)) : Call 115 [.s s, .f f []] H fun v H' => H' = H ∧ v = .i .i64 ((s.takeWhile p).length : Int) := by
  refine Call.by (a := a115) rfl (by simp [a115]) ?_
  simp [r115_0, r115_1, r115_2, r115_3, l115_0, r115_4, c115, a115]
  refine Loop.by (fun k T H' => H' = H ∧ T.get 0 = some (.s s) ∧ T.get 1 = some (.f f []) ∧
    ∃ j : Nat, j + k = s.length ∧ T.get 5 = some (.i .i64 (j : Int)) ∧ (s.takeWhile p).length = j + ((s.drop j).takeWhile p).length) s.length ?_ ?_
  · exact ⟨rfl, by simp, by simp, 0, by simp⟩
  · rintro k T H' ⟨rfl, h0, h1, j, hjk, h5, hf⟩
    by_cases hj : j < s.length
    · obtain ⟨c, hc⟩ : ∃ y, s[j]? = some y := ⟨_, List.getElem?_eq_getElem hj⟩
      have hlt : (j : Int) < (s.length : Int) := by omega
      rw [drop_at hc] at hf
      simp [r115_0, r115_1, r115_2, r115_3, l115_0, r115_4, h0, h1, h5, hlt, sbt_at hc]
      refine Call.is (hp c) ?_
      cases h : p c with
      | true =>
        simp [h] at hf
        simp [kC, h0, h1, h5, b_inc (show j < 4611686018427387904 by omega)]
        exact ⟨k - 1, by omega, j + 1, by omega, rfl, by omega⟩
      | false =>
        simp [h] at hf
        simp [kC, h5, hf]
    · have hlt : ¬ (j : Int) < (s.length : Int) := by omega
      have he : s.drop j = [] := List.drop_eq_nil_of_le (by omega)
      rw [he] at hf
      simp at hf
      simp [r115_0, r115_1, r115_2, r115_3, l115_0, r115_4, h0, h1, h5, hlt, hf]

theorem call170 {H : Heap} : Call 170 [] H fun v H' => H' = H.push (.row (wordsL.map .s) true) ∧ v = .sl H.nx 0 20 (some 20) 1 := by
  refine Call.by (a := a170) rfl (by simp [a170]) ?_
  have h : ∀ T, aNew T (.bsl 1 20 [(.s [])] [(0, (.c (.s [102, 117, 110]))), (1, (.c (.s [108, 101, 116]))), (2, (.c (.s [114, 101, 99]))), (3, (.c (.s [105, 110]))), (4, (.c (.s [105, 102]))), (5, (.c (.s [116, 104, 101, 110]))), (6, (.c (.s [101, 108, 115, 101]))), (7, (.c (.s [99, 97, 115, 101]))), (8, (.c (.s [111, 102]))), (9, (.c (.s [101, 110, 100]))), (10, (.c (.s [116, 114, 117, 101]))), (11, (.c (.s [102, 97, 108, 115, 101]))), (12, (.c (.s [105, 110, 116]))), (13, (.c (.s [98, 111, 111, 108]))), (14, (.c (.s [115, 116, 114]))), (15, (.c (.s [102, 108, 111, 97, 116]))), (16, (.c (.s [100, 121, 110]))), (17, (.c (.s [97, 110, 121]))), (18, (.c (.s [110, 111, 110, 101]))), (19, (.c (.s [116, 121, 112, 101])))]) = some (.row (wordsL.map .s) true, fun i => .sl i 0 20 (some 20) 1) := fun T => rfl
  simp [a170, c170, r170_0]
  unfold r170_1
  rw [runO_new, h]
  simp

theorem call120 {H : Heap} {s : List Nat} : Call 120 [.s s] H fun v H' => H' = H ∧ v = .b (wordB s) := by
  refine Call.forget ?_
  refine Call.by (a := a120) rfl (by simp [a120]) ?_
  simp [r120_0, r120_1, c120, a120]
  refine Call.mono call170 ?_
  rintro v H' _ ⟨rfl, rfl⟩
  simp [kC]
  refine Call.is (call78 (l := wordsL) (Sl.all (get_push_nx _ _) (by simp) (by simp [wordsL])) (by simp [wordsL])) ?_
  simp [kC]
  exact ⟨(Ex.refl H).push _, rfl, rfl⟩

theorem takeWhile_all {α : Type} (p : α → Bool) : ∀ l : List α, ((l.takeWhile p).length == l.length) = l.all p
  | [] => rfl
  | x :: r => by
    cases h : p x with
    | true => simpa [h] using takeWhile_all p r
    | false => simp [h]

theorem call96 {H : Heap} {s : List Nat} (hm : s.length < 4611686018427387904) : Call 96 [.s s] H fun v H' => H' = H ∧ v = .b (nameB s) := by
  refine Call.by (a := a96) rfl (by simp [a96]) ?_
  cases s with
  | nil => simp [r96_0, r96_1, c96, a96, nameB, tagB]
  | cons c r =>
    have h0 : sbt (.s (c :: r)) (.i .i64 0) = some (.i .u8 (c : Int)) := sbt_at (j := 0) rfl
    have hne : ((c :: r) == ([] : List Nat)) = false := rfl
    simp [r96_0, r96_1, c96, a96, h0, hne]
    refine Call.is call118 ?_
    cases h1 : lowC c with
    | false => simp [kC, nameB, tagB, h1]
    | true =>
      simp [kC]
      refine Call.is (call115 hm fun c => call119) ?_
      have hall := takeWhile_all namC (c :: r)
      have hn : namC c = true := by simp [namC, h1]
      have e1 : (((List.takeWhile namC (c :: r)).length : Int) == ((r.length : Int) + 1)) = r.all namC := by
        rw [List.all_cons, hn, Bool.true_and] at hall
        rw [← hall, Bool.eq_iff_iff]
        simp; omega
      cases h2 : r.all namC with
      | false =>
        rw [h2] at e1
        simp only [kC]
        simp [e1, nameB, tagB, h1, h2]
      | true =>
        rw [h2] at e1
        simp only [kC]
        simp [e1]
        refine Call.is call120 ?_
        simp [kC, nameB, tagB, h1, h2]

theorem call100 {H : Heap} {s : List Nat} (hm : s.length < 4611686018427387904) : Call 100 [.s s] H fun v H' => H' = H ∧ v = .b (nameB s || wordB s) := by
  refine Call.by (a := a100) rfl (by simp [a100]) ?_
  simp [r100_0, r100_1, c100, a100]
  refine Call.is (call96 hm) ?_
  cases h : nameB s with
  | true => simp [kC]
  | false =>
    simp [kC]
    refine Call.is call120 ?_
    simp [kC]


def restB (j : Nat) : List Nat → Bool
  | [] => true
  | c :: r => (if j = 0 then lowC c else namC c) && r.all namC
theorem restB_succ (j : Nat) : ∀ l : List Nat, restB (j + 1) l = l.all namC
  | [] => rfl
  | c :: r => by simp [restB]
theorem tagB_rest (s : List Nat) : tagB s = (!(s == []) && restB 0 s) := by
  cases s with
  | nil => rfl
  | cons c r => simp [tagB, restB]

theorem reg21_4 {T : Tm} {H : Heap} {Q : Post} {c : Nat} (h4 : T.get 4 = some (.i .u8 (c : Int)))
    (hQ : ∀ T', T'.get 0 = T.get 0 → T'.get 3 = T.get 3 → T'.get 4 = some (.i .u8 (c : Int)) → T'.get 5 = some (.b (lowC c)) → Q .normal T' H) : runO r21_4 T H Q := by
  by_cases h1 : (97 : Int) ≤ c <;> by_cases h2 : (c : Int) ≤ 122 <;> simp [r21_4, h4, h1, h2] <;> apply hQ <;> simp [h4, lowC, h1, h2]

theorem reg21_5 {T : Tm} {H : Heap} {Q : Post} {c j : Nat} {b : Bool} (h3 : T.get 3 = some (.i .i64 (j : Int))) (h4 : T.get 4 = some (.i .u8 (c : Int))) (h5 : T.get 5 = some (.b b))
    (hQ : ∀ T', T'.get 0 = T.get 0 → T'.get 3 = T.get 3 → T'.get 38 = some (.b (!(b || (!(j == 0) && digC c)))) → Q .normal T' H) : runO r21_5 T H Q := by
  cases b
  · by_cases hj : j = 0
    · subst hj
      simp [r21_5, h3, h4, h5]
      apply hQ <;> simp
    · have hj' : ((j : Int) == 0) = false := by simp; omega
      by_cases h1 : (c : Int) < 48 <;> by_cases h2 : (57 : Int) < c <;> simp [r21_5, h3, h4, h5, hj', h1, h2] <;> apply hQ <;> simp [hj, digC] <;> omega
  · simp [r21_5, h3, h4, h5]
    apply hQ <;> simp

theorem call21 {H : Heap} {s : List Nat} (hm : s.length < 4611686018427387904) : Call 21 [.s s] H fun v H' => H' = H ∧ v = .b (tagB s) := by
  refine Call.by (a := a21) rfl (by simp [a21]) ?_
  simp [a21, c21, r21_0, r21_1]
  refine Loop.by (fun k T H' => H' = H ∧ T.get 0 = some (.s s) ∧
    ∃ j : Nat, j + k = s.length ∧ T.get 3 = some (.i .i64 (j : Int)) ∧ tagB s = (!(s == []) && restB j (s.drop j))) s.length ?_ ?_
  · exact ⟨rfl, by simp, 0, by simp, by simp, by simpa using tagB_rest s⟩
  · rintro k T H' ⟨rfl, h0, j, hjk, h3, hf⟩
    by_cases hj : j < s.length
    · obtain ⟨c, hc⟩ : ∃ y, s[j]? = some y := ⟨_, List.getElem?_eq_getElem hj⟩
      have hlt : (j : Int) < (s.length : Int) := by omega
      have hne : (s == []) = false := by
        cases s with
        | nil => simp at hj
        | cons => rfl
      rw [drop_at hc, hne] at hf
      have hok : (lowC c || (!(j == 0) && digC c)) = (if j = 0 then lowC c else namC c) := by
        by_cases h : j = 0
        · simp [h]
        · have h' : (j == 0) = false := by simpa using h
          simp [h, h', namC]
      simp [l21_0, r21_2, r21_3, h0, h3, hlt, sbt_at hc]
      refine reg21_4 (c := c) (by simp) fun T1 g0 g3 g4 g5 => ?_
      simp at g0 g3
      simp
      refine reg21_5 (c := c) (j := j) (by rw [g3, h3]) g4 g5 fun T2 k0 k3 k38 => ?_
      rw [hok] at k38
      rw [g0, h0] at k0
      rw [g3, h3] at k3
      simp only [restB] at hf
      cases hg : (if j = 0 then lowC c else namC c) with
      | true =>
        rw [hg] at k38 hf
        simp [k38, r21_7, k3, k0, b_inc (show j < 4611686018427387904 by omega)]
        refine ⟨k - 1, by omega, j + 1, by omega, rfl, ?_⟩
        have hne2 : s.isEmpty = false := by cases s <;> simp_all
        rw [hf, hne2, restB_succ]; simp
      | false =>
        rw [hg] at k38 hf
        simp [k38, r21_6, hf]
    · have hlt : ¬ (j : Int) < (s.length : Int) := by omega
      have he : s.drop j = [] := List.drop_eq_nil_of_le (by omega)
      rw [he] at hf
      simp [restB] at hf
      simp [l21_0, r21_2, r21_8, h0, h3, hlt, hf]

/-! ref03.IsWord -/
def W3 : List Nat := [32, 102, 117, 110, 32, 108, 101, 116, 32, 114, 101, 99, 32, 105, 110, 32, 105, 102, 32, 116, 104, 101, 110, 32, 101, 108, 115, 101, 32, 99, 97, 115, 101, 32, 111, 102, 32, 101, 110, 100, 32, 116, 114, 117, 101, 32, 102, 97, 108, 115, 101, 32, 105, 110, 116, 32, 98, 111, 111, 108, 32, 115, 116, 114, 32, 102, 108, 111, 97, 116, 32, 100, 121, 110, 32, 97, 110, 121, 32, 110, 111, 110, 101, 32, 116, 121, 112, 101, 32]
def letC (c : Nat) : Bool := !(decide ((c : Int) < 97) || decide ((122 : Int) < c))
def hitB (s : List Nat) (i : Nat) : Bool := ((W3.drop i).take (s.length + 2)) == 32 :: (s ++ [32])
def word3B (s : List Nat) : Bool := !(s == []) && s.all letC && (List.range (88 - s.length)).any (hitB s)

def tstA : Bool := (List.range 89).all fun i => (List.range 88).all fun n => (Nat.beq n 0) || !(Nat.blt n 88 && Nat.blt i (88 - n)) || !((W3.drop (i + 1)).take n).all (fun c => Nat.ble 97 c && Nat.ble c 122) || !((W3.drop i).take (n + 2) == 32 :: ((W3.drop (i + 1)).take n ++ [32])) || wordsL.any fun y => ((W3.drop (i + 1)).take n) == y
theorem tstA_ok : tstA = true := by kernel_rfl
def tstB : Bool := wordsL.all word3B
theorem tstB_ok : tstB = true := by kernel_rfl

theorem word3B_eq (s : List Nat) : word3B s = wordB s := by
  cases h : wordB s with
  | true =>
    unfold wordB at h
    rw [List.any_eq_true] at h
    obtain ⟨y, hy, he⟩ := h
    have : s = y := by simpa using he
    subst this
    have := tstB_ok
    unfold tstB at this
    rw [List.all_eq_true] at this
    exact this s hy
  | false =>
    cases h3 : word3B s with
    | false => rfl
    | true =>
      exfalso
      unfold word3B at h3
      simp only [Bool.and_eq_true, List.any_eq_true, List.mem_range] at h3
      obtain ⟨⟨h1, h2⟩, i, hi, h4⟩ := h3
      unfold hitB at h4
      rw [beq_iff_eq] at h4
      have hs : s = (W3.drop (i + 1)).take s.length := by
        have h5 := congrArg (fun l => (l.drop 1).take s.length) h4
        simp only [List.drop_take, List.drop_drop, List.drop_one, List.tail_cons, List.take_left] at h5
        rw [List.take_take] at h5
        rw [show min s.length (s.length + 2 - 1) = s.length by omega] at h5
        exact h5.symm
      have t := tstA_ok
      unfold tstA at t
      rw [List.all_eq_true] at t
      have t1 := t i (by simp; omega)
      rw [List.all_eq_true] at t1
      have t2 := t1 s.length (by simp; omega)
      rw [← hs] at t2
      have e0 : Nat.beq s.length 0 = false := by
        cases s with
        | nil => simp at h1
        | cons => rfl
      have e1 : (Nat.blt s.length 88 && Nat.blt i (88 - s.length)) = true := by simp [Nat.blt_eq]; omega
      have e2 : s.all (fun c => Nat.ble 97 c && Nat.ble c 122) = true := by
        rw [List.all_eq_true] at h2 ⊢
        intro c hc
        have := h2 c hc
        simp [letC] at this
        simp [Nat.ble_eq]; omega
      have e3 : ((W3.drop i).take (s.length + 2) == 32 :: (s ++ [32])) = true := by rw [beq_iff_eq]; exact h4
      rw [e0, e1, e2, e3] at t2
      simp at t2
      unfold wordB at h
      rw [List.any_eq_false] at h
      exact h s t2 (by simp)

theorem slcS_at {l : List Nat} {k k' : IntKind} {a b : Nat} (h : a ≤ b) (hb : b ≤ l.length) : aSlcS (.s l) (some (.i k (a : Int))) (some (.i k' (b : Int))) = some (.s ((l.drop a).take (b - a))) := by
  have h1 : Nat.ble b l.length = true := by simpa [Nat.ble_eq] using hb
  have h2 : Nat.ble a b = true := by simpa [Nat.ble_eq] using h
  simp only [aSlcS]
  rw [show aBound (some (.i k' (b : Int))) l.length l.length = some b from by show cond (Nat.ble b l.length) (some b) none = _; rw [h1]; rfl]
  simp only
  rw [show aBound (some (.i k (a : Int))) 0 b = some a from by show cond (Nat.ble a b) (some a) none = _; rw [h2]; rfl]

theorem b_addN {a b : Nat} (h : a + b < 4611686018427387904) : aBin .add (.i .i64 (a : Int)) (.i .i64 (b : Int)) = some (.i .i64 ((a + b : Nat) : Int)) := by
  rw [b_add ⟨by omega, by omega⟩]; simp

theorem reg32_5 {T : Tm} {H : Heap} {Q : Post} {s : List Nat} {c j : Nat} (h0 : T.get 0 = some (.s s)) (h3 : T.get 3 = some (.i .i64 (j : Int))) (hc : s[j]? = some c)
    (hQ : ∀ T', T'.get 0 = some (.s s) → T'.get 3 = some (.i .i64 (j : Int)) → T'.get 22 = some (.b (!letC c)) → Q .normal T' H) : runO r32_5 T H Q := by
  by_cases h1 : (c : Int) < 97 <;> by_cases h2 : (122 : Int) < c <;> simp [r32_5, h0, h3, sbt_at hc, h1, h2] <;> apply hQ <;> simp [h0, h3, letC, h1, h2]

theorem reg32_9 {T : Tm} {H : Heap} {Q : Post} {s : List Nat} {i : Nat} (h0 : T.get 0 = some (.s s)) (h4 : T.get 4 = some (.i .i64 (i : Int))) (hb : i + s.length < 4611686018427387904)
    (hQ : ∀ T', T'.get 0 = some (.s s) → T'.get 4 = some (.i .i64 (i : Int)) → T'.get 28 = some (.b (decide ((i : Int) + s.length + 2 ≤ 89))) → Q .normal T' H) : runO r32_9 T H Q := by
  have ha := b_add (a := (i : Int)) (b := (s.length : Int)) ⟨by omega, by omega⟩
  have ha2 := b_add (a := (i : Int) + (s.length : Int)) (b := 2) ⟨by omega, by omega⟩
  simp [r32_9, h0, h4, ha, ha2]
  apply hQ <;> simp [h0, h4]

theorem reg32_10 {T : Tm} {H : Heap} {Q : Post} {s : List Nat} {i : Nat} (h0 : T.get 0 = some (.s s)) (h4 : T.get 4 = some (.i .i64 (i : Int))) (hb : i + s.length + 2 ≤ 89)
    (hQ : ∀ T', T'.get 0 = some (.s s) → T'.get 4 = some (.i .i64 (i : Int)) → T'.get 41 = some (.b (hitB s i)) → Q .normal T' H) : runO r32_10 T H Q := by
  have ha := b_add (a := (i : Int)) (b := (s.length : Int)) ⟨by omega, by omega⟩
  have ha2 := b_add (a := (i : Int) + (s.length : Int)) (b := 2) ⟨by omega, by omega⟩
  have hsl : aSlcS (.s W3) (some (.i .i64 (i : Int))) (some (.i .i64 ((i : Int) + (s.length : Int) + 2))) = some (.s ((W3.drop i).take (s.length + 2))) := by
    have e : ((i : Int) + (s.length : Int) + 2) = ((i + s.length + 2 : Nat) : Int) := by omega
    rw [e, slcS_at (by omega) (by simp [W3]; omega), show i + s.length + 2 - i = s.length + 2 by omega]
  have hs1 : aBin .add (.s [32]) (.s s) = some (.s (32 :: s)) := s_add (by simp; omega)
  have hs2 : aBin .add (.s (32 :: s)) (.s [32]) = some (.s (32 :: (s ++ [32]))) := s_add (by simp; omega)
  unfold W3 at hsl
  simp [r32_10, h0, h4, ha, ha2, hsl, hs1, hs2]
  apply hQ <;> simp [h0, h4]
  rfl

theorem call32 {H : Heap} {s : List Nat} (hm : s.length < 2305843009213693952) : Call 32 [.s s] H fun v H' => H' = H ∧ v = .b (wordB s) := by
  rw [← word3B_eq]
  refine Call.by (a := a32) rfl (by simp [a32]) ?_
  cases hne : (s == []) with
  | true => simp [a32, c32, r32_0, r32_1, r32_2, hne, word3B]
  | false =>
    simp [a32, c32, r32_0, r32_1, r32_3, hne]
    refine Loop.by (fun k T H' => H' = H ∧ T.get 0 = some (.s s) ∧
      ∃ j : Nat, j + k = s.length ∧ T.get 3 = some (.i .i64 (j : Int)) ∧ s.all letC = (s.drop j).all letC) s.length ?_ ?_
    · exact ⟨rfl, by simp, 0, by simp⟩
    · rintro k T H' ⟨rfl, h0, j, hjk, h3, hf⟩
      by_cases hj : j < s.length
      · obtain ⟨c, hc⟩ : ∃ y, s[j]? = some y := ⟨_, List.getElem?_eq_getElem hj⟩
        have hlt : (j : Int) < (s.length : Int) := by omega
        rw [drop_at hc] at hf
        simp [l32_0, r32_4, h0, h3, hlt]
        refine reg32_5 (c := c) (j := j) (s := s) (by simp [h0]) (by simp [h3]) hc fun T1 g0 g3 g22 => ?_
        cases hl : letC c with
        | false =>
          rw [hl] at g22
          simp only [List.all_cons, hl, Bool.false_and] at hf
          have hw : word3B s = false := by simp only [word3B, hf]; simp
          simp [g22, r32_6, hw]
        | true =>
          rw [hl] at g22
          simp [hl] at hf
          simp [g22, r32_7, g3, g0, b_inc (show j < 4611686018427387904 by omega)]
          exact ⟨k - 1, by omega, j + 1, by omega, rfl, by simpa using hf⟩
      · have hlt : ¬ (j : Int) < (s.length : Int) := by omega
        have he : s.drop j = [] := List.drop_eq_nil_of_le (by omega)
        rw [he] at hf
        simp only [List.all_nil] at hf
        simp [l32_0, r32_4, r32_8, h0, h3, hlt]
        refine Loop.by (fun k T H'' => H'' = H' ∧ T.get 0 = some (.s s) ∧
          ∃ j : Nat, j + k = 88 - s.length ∧ T.get 4 = some (.i .i64 (j : Int)) ∧ word3B s = ((List.range (88 - s.length)).drop j).any (hitB s)) (88 - s.length) ?_ ?_
        · refine ⟨rfl, by simp [h0], 0, by simp, by simp, ?_⟩
          simp only [word3B, hne, hf]; simp
        · rintro k1 T1 H1 ⟨rfl, g0, i, hik, g4, hw⟩
          by_cases hi : i < 88 - s.length
          · have hr : (List.range (88 - s.length))[i]? = some i := by simp [hi]
            rw [drop_at hr, List.any_cons] at hw
            simp [l32_1]
            refine reg32_9 g0 g4 (by omega) fun T2 k0 k4 k28 => ?_
            have hle : decide ((i : Int) + s.length + 2 ≤ 89) = true := by simp; omega
            rw [hle] at k28
            simp [k28]
            refine reg32_10 k0 k4 (by omega) fun T3 m0 m4 m41 => ?_
            cases hh : hitB s i with
            | true =>
              rw [hh] at m41 hw
              simp [m41, r32_11, hw]
            | false =>
              rw [hh, Bool.false_or] at hw
              rw [hh] at m41
              simp [m41, r32_12, m0, m4, b_inc (show i < 4611686018427387904 by omega)]
              exact ⟨k1 - 1, by omega, i + 1, by omega, rfl, hw⟩
          · have he : (List.range (88 - s.length)).drop i = [] := List.drop_eq_nil_of_le (by simp; omega)
            rw [he] at hw
            simp only [List.any_nil] at hw
            simp [l32_1]
            refine reg32_9 g0 g4 (by omega) fun T2 k0 k4 k28 => ?_
            have hle : decide ((i : Int) + s.length + 2 ≤ 89) = false := by simp; omega
            rw [hle] at k28
            simp [k28, r32_13, hw]

theorem call20 {H : Heap} {s : List Nat} (hm : s.length < 2305843009213693952) : Call 20 [.s s] H fun v H' => H' = H ∧ v = .b (nameB s) := by
  refine Call.by (a := a20) rfl (by simp [a20]) ?_
  simp [r20_0, r20_1, c20, a20]
  refine Call.is (call21 (by omega)) ?_
  cases h : tagB s with
  | false => simp [kC, nameB, h]
  | true =>
    simp [kC]
    refine Call.is (call32 hm) ?_
    simp [kC, nameB, h]


theorem GrOf.slen {H : Heap} {v : AVal} {g : Gr} (h : GrOf H v g) : ∃ l, v = .agg [l, .i .i64 g.root] ∧ Hds H l g.l := h

theorem Hds.head {H : Heap} {v : AVal} {l : List Hd} (h : Hds H v l) {j : Nat} {hd : Hd} (hj : l[j]? = some hd) : ∃ ns ks, aLoad H (sptr 4 v j) 4 true = some (.agg [.i .i64 hd.kind, ns, ks, .b hd.opn]) ∧ Strs H ns hd.names ∧ Ints H ks hd.kids := by
  obtain ⟨c, h1, ns, ks, rfl, h2, h3⟩ := h.at' j hd hj
  exact ⟨ns, ks, h1, h2, h3⟩

def fewH (h : Hd) : Bool := !(decide ((20 : Int) < h.kids.length) || decide ((20 : Int) < h.names.length)) && h.names.all fun s => !decide ((60 : Int) < s.length)
def fewB (g : Gr) : Bool := g.l.all fewH && decide ((g.l.length : Int) ≤ 25)

theorem call16 {H : Heap} {v : AVal} {g : Gr} (hg : GrOf H v g) (hm : g.l.length < 4611686018427387904) (hmn : ∀ h ∈ g.l, h.names.length < 4611686018427387904) : Call 16 [v] H fun v H' => H' = H ∧ v = .b (fewB g) := by
  refine Call.forget ?_
  obtain ⟨l, rfl, hl⟩ := hg
  refine Call.by (a := a16) rfl (by simp [a16]) ?_
  simp [a16, c16, r16_0, r16_1, AVal.cells?, aLoad, Heap.get_push, hl.len]
  refine Loop.by (fun k T H' => Ex H H' ∧ T.get 1 = some (.p H.nx 0) ∧ aLoad H' (.p H.nx 0) 1 false = some l ∧ H.nx < H'.nx ∧ T.get 8 = some l ∧ T.get 9 = some (.i .i64 (g.l.length : Int)) ∧
    ∃ j : Nat, j + k = g.l.length ∧ T.get 10 = some (.i .i64 (j : Int)) ∧ g.l.all fewH = (g.l.drop j).all fewH) g.l.length ?_ ?_
  · exact ⟨(Ex.refl H).push _, by simp, by simp [aLoad, Heap.get_push], by simp, by simp, by simp, 0, by simp⟩
  · rintro k T H' ⟨he, h1, hl0, hnx, h8, h9, j, hjk, h10, hf⟩
    by_cases hj : j < g.l.length
    · obtain ⟨hd, hhd⟩ : ∃ y, g.l[j]? = some y := ⟨_, List.getElem?_eq_getElem hj⟩
      have hlt : (j : Int) < (g.l.length : Int) := by omega
      rw [drop_at hhd, List.all_cons] at hf
      obtain ⟨ns, ks, e1, e2, e3⟩ := (hl.ex he).head hhd
      have hmn' := hmn hd (List.mem_of_getElem? hhd)
      have hst : aStore (H'.push (.row [.i .i64 0, .nsl, .nsl, .b false] true)) (.p H'.nx 0) (.agg [.i .i64 hd.kind, ns, ks, .b hd.opn]) 4 = some ((H'.push (.row [.i .i64 0, .nsl, .nsl, .b false] true)).put H'.nx (.row [.i .i64 hd.kind, ns, ks, .b hd.opn] true)) := by
        simp [aStore, AVal.cells?, splice]
      have hg4 : (((H'.push (.row [.i .i64 0, .nsl, .nsl, .b false] true)).put H'.nx (.row [.i .i64 hd.kind, ns, ks, .b hd.opn] true))).get H'.nx = some (.row [.i .i64 hd.kind, ns, ks, .b hd.opn] true) := by rw [Heap.get_put, if_pos rfl]
      obtain ⟨H1, hH1⟩ : ∃ H1, H1 = ((H'.push (.row [.i .i64 0, .nsl, .nsl, .b false] true)).put H'.nx (.row [.i .i64 hd.kind, ns, ks, .b hd.opn] true)) := ⟨_, rfl⟩
      rw [← hH1] at hg4
      have he1 : Ex H H1 := by rw [hH1]; exact (he.push _).put (by have := he.nx; omega) _
      have hl1 : aLoad H1 (.p H.nx 0) 1 false = some l := by
        rw [hH1]
        simp [aLoad, Heap.get_put, Heap.get_push, show H.nx ≠ H'.nx by omega] at hl0 ⊢
        exact hl0
      have hn1 : H.nx < H1.nx := by rw [hH1]; simp; omega
      have e2' : Strs H1 ns hd.names := (e2.ex ((Ex.refl H').push (.row [.i .i64 0, .nsl, .nsl, .b false] true) |>.put (Nat.le_refl _) (.row [.i .i64 hd.kind, ns, ks, .b hd.opn] true))).ex (hH1 ▸ Ex.refl _)
      have c1 : (hd.kids.length : Int) > 20 ↔ (20 : Int) < hd.kids.length := Iff.rfl
      simp [l16_1, r16_2, r16_3, h8, h9, h10, hlt, sidx_at hl.len hj, e1, hst]
      rw [← hH1]
      by_cases b1 : (20 : Int) < hd.kids.length
      · have hfw : g.l.all fewH = false := by rw [hf]; simp [fewH, b1]
        simp [r16_4, load_row hg4, e3.len', b1, r16_5]
        exact ⟨he1, rfl, by simp [fewB, hfw]⟩
      · by_cases b2 : (20 : Int) < hd.names.length
        · have hfw : g.l.all fewH = false := by rw [hf]; simp [fewH, b2]
          simp [r16_4, load_row hg4, e3.len', e2.len', b1, b2, r16_5]
          exact ⟨he1, rfl, by simp [fewB, hfw]⟩
        · simp [r16_4, load_row hg4, e3.len', e2.len', b1, b2, r16_6]
          refine Loop.by (fun k' T H' => H' = H1 ∧ T.get 1 = some (.p H.nx 0) ∧ T.get 8 = some l ∧ T.get 9 = some (.i .i64 (g.l.length : Int)) ∧ T.get 10 = some (.i .i64 (j : Int)) ∧ T.get 25 = some ns ∧ T.get 26 = some (.i .i64 (hd.names.length : Int)) ∧
            ∃ i : Nat, i + k' = hd.names.length ∧ T.get 27 = some (.i .i64 (i : Int)) ∧ fewH hd = (hd.names.drop i).all fun s => !decide ((60 : Int) < s.length)) hd.names.length ?_ ?_
          · exact ⟨rfl, by simp [h1], by simp [h8], by simp [h9], by simp [h10], by simp, by simp, 0, by simp, by simp, by simp [fewH, b1, b2]⟩
          · rintro k' T' H'' ⟨rfl, g1, g8, g9, g10, g25, g26, i, hik, g27, hw⟩
            by_cases hi : i < hd.names.length
            · obtain ⟨s, hs⟩ : ∃ y, hd.names[i]? = some y := ⟨_, List.getElem?_eq_getElem hi⟩
              have hlt : (i : Int) < (hd.names.length : Int) := by omega
              rw [drop_at hs, List.all_cons] at hw
              by_cases b3 : (60 : Int) < s.length
              · have hfw : g.l.all fewH = false := by rw [hf, hw]; simp [b3]
                simp [l16_0, r16_7, r16_8, r16_9, r16_10, g25, g26, g27, hlt, sidx_at e2.len' hi, e2'.get hs, b3]
                exact ⟨he1, rfl, by simp [fewB, hfw]⟩
              · simp [l16_0, r16_7, r16_8, r16_9, r16_11, g1, g8, g9, g10, g25, g26, g27, hlt, sidx_at e2.len' hi, e2'.get hs, b3, b_inc (show i < 4611686018427387904 by omega)]
                exact ⟨k' - 1, by omega, i + 1, by omega, rfl, by simpa [b3] using hw⟩
            · have hlt : ¬ (i : Int) < (hd.names.length : Int) := by omega
              have hem : hd.names.drop i = [] := List.drop_eq_nil_of_le (by omega)
              rw [hem] at hw
              simp only [List.all_nil] at hw
              rw [hw, Bool.true_and] at hf
              simp [l16_0, r16_7, r16_12, g1, g8, g9, g10, g25, g26, g27, hlt, b_inc (show j < 4611686018427387904 by omega)]
              exact ⟨k - 1, by omega, he1, hl1, hn1, j + 1, by omega, rfl, hf⟩
    · have hlt : ¬ (j : Int) < (g.l.length : Int) := by omega
      have hem : g.l.drop j = [] := List.drop_eq_nil_of_le (by omega)
      rw [hem] at hf
      simp only [List.all_nil] at hf
      simp [l16_1, r16_2, r16_13, h1, h8, h9, h10, hlt, hl0, hl.len]
      exact ⟨he, rfl, by simp [fewB, hf]⟩


theorem b_sub {a b : Int} (h : Sm (a - b)) : aBin .sub (.i .i64 a) (.i .i64 b) = some (.i .i64 (a - b)) := by
  show some (AVal.i .i64 (wrapF .i64 (Int.sub a b))) = _
  rw [wrapF_eq, show Int.sub a b = a - b from rfl, wrap_lim]
  by_cases h0 : 0 ≤ a - b
  · exact .inl ⟨h0, by simpa [lim] using h.2⟩
  · exact .inr ⟨rfl, by simpa [lim] using h.1, by omega⟩

/-- The same slots. -/
def Keep (l : List Nat) (T T' : Tm) : Prop := ∀ t, t ∈ l → T'.get t = T.get t
theorem Keep.trans {l : List Nat} {A B C : Tm} (h : Keep l A B) (k : Keep l B C) : Keep l A C := fun t ht => (k t ht).trans (h t ht)

def kidR (n : Nat) (h : Hd) (i : Nat) (k : Int) : Bool := !(decide (k < 0) || decide ((n : Int) ≤ k) || (decide (0 < h.names.length) && decide (h.names.length ≤ i)))
def kidsR (n : Nat) (h : Hd) : Bool := (List.range h.kids.length).all fun i => kidR n h i (h.kids[i]?.getD 0)
def nmR (kind : Int) (s : List Nat) : Bool := !((kind == 8 && !nameB s) || (kind == 9 && !tagB s))
def risR (l : List (List Nat)) (i : Nat) : Bool := !(decide (0 < i) && !natsLess (l[i - 1]?.getD []) (l[i]?.getD []))
def namesR (h : Hd) : Bool := (List.range h.names.length).all fun i => risR h.names i && nmR h.kind (h.names[i]?.getD [])
/-- How many kids, and names. -/
def cntR (h : Hd) : Option (Int × Int) :=
  if h.kind == 7 then some (2, 0) else if h.kind == 8 || h.kind == 9 then some (h.names.length, h.names.length) else if decide (h.kind < 0) || decide ((6 : Int) < h.kind) then none else some (0, 0)
def formR (h : Hd) : Bool := match cntR h with
  | none => false
  | some (a, b) => !((h.kids.length : Int) != a || (h.names.length : Int) != b || (h.opn && h.kind != 9))
def headR (n : Nat) (h : Hd) : Bool := kidsR n h && namesR h && formR h
def rightB (g : Gr) : Bool := !((g.l.length : Int) == 0 || decide ((4096 : Int) < g.l.length) || decide (g.root < 0) || decide ((g.l.length : Int) ≤ g.root)) && g.l.all (headR g.l.length)

/-- What holds in a round: a copy of the head, the graph. -/
structure Cp (H : Heap) (q g0 : Nat) (n : Nat) (h : Hd) (l ns ks : AVal) : Prop where
  cp : H.get q = some (.row [.i .i64 h.kind, ns, ks, .b h.opn] true)
  gr : aLoad H (.p g0 0) 1 false = some l
  ln : slen l = some n
  nm : Strs H ns h.names
  kd : Ints H ks h.kids

theorem reg13_9 {T : Tm} {H : Heap} {Q : Post} {q g0 n : Nat} {h : Hd} {l ns ks : AVal} {i : Nat} {k : Int} (c : Cp H q g0 n h l ns ks) (h1 : T.get 1 = some (.p g0 0)) (h4 : T.get 4 = some (.p q 0)) (h5 : T.get 5 = some (.i .i64 (i : Int))) (h6 : T.get 6 = some (.i .i64 k))
    (hQ : ∀ T', Keep [1, 4, 34, 35, 36, 41, 42, 43] T T' → T'.get 69 = some (.b (!kidR n h i k)) → Q .normal T' H) : runO r13_9 T H Q := by
  have e1 := load_row (o := 1) (n := 1) c.cp
  have g := c.gr
  have hl := c.ln
  have hn := c.nm.len'
  by_cases b1 : k < 0
  · simp [r13_9, h1, h4, h5, h6, e1, g, hl, hn, b1]
    apply hQ <;> simp [Keep, kidR, b1]
  · by_cases b2 : (n : Int) ≤ k
    · simp [r13_9, h1, h4, h5, h6, e1, g, hl, hn, b1, b2]
      apply hQ <;> simp [Keep, kidR, b1, b2]
    · by_cases b3 : 0 < h.names.length
      · have b3' : (0 : Int) < h.names.length := by omega
        by_cases b4 : h.names.length ≤ i
        · have b4' : (h.names.length : Int) ≤ i := by omega
          simp [r13_9, h1, h4, h5, h6, e1, g, hl, hn, b1, b2, b3, b4, b3', b4']
          apply hQ <;> simp [Keep, kidR, b1, b2, b3, b4]
        · have b4' : ¬ (h.names.length : Int) ≤ i := by omega
          simp [r13_9, h1, h4, h5, h6, e1, g, hl, hn, b1, b2, b3, b4, b3', b4']
          apply hQ <;> simp [Keep, kidR, b1, b2, b3, b4]
      · have b3' : ¬ (0 : Int) < h.names.length := by omega
        simp [r13_9, h1, h4, h5, h6, e1, g, hl, hn, b1, b2, b3, b3']
        apply hQ <;> simp [Keep, kidR, b1, b2, b3]

theorem lp13_0 {T : Tm} {H : Heap} {Q : Post} {q g0 n : Nat} {h : Hd} {l ns ks : AVal} (c : Cp H q g0 n h l ns ks) (h1 : T.get 1 = some (.p g0 0)) (h4 : T.get 4 = some (.p q 0)) (h41 : T.get 41 = some ks) (h42 : T.get 42 = some (.i .i64 (h.kids.length : Int))) (h43 : T.get 43 = some (.i .i64 0))
    (hm : h.kids.length < 4611686018427387904)
    (hok : kidsR n h = true → ∀ T', Keep [1, 4, 34, 35, 36] T T' → Q (.exit 2) T' H) (hno : kidsR n h = false → ∀ T', T'.get 2 = some (.b false) → Q .ret T' H) : Loop l13_0 T H Q := by
  refine Loop.by (fun k T' H' => H' = H ∧ Keep [1, 4, 34, 35, 36, 41, 42] T T' ∧ ∃ j : Nat, j + k = h.kids.length ∧ T'.get 43 = some (.i .i64 (j : Int)) ∧
    kidsR n h = ((List.range h.kids.length).drop j).all fun i => kidR n h i (h.kids[i]?.getD 0)) h.kids.length ?_ ?_
  · exact ⟨rfl, fun t _ => rfl, 0, by simp, h43, by simp [kidsR]⟩
  · rintro k T1 H1 ⟨rfl, hk, j, hjk, g43, hf⟩
    have k1 := (hk 1 (by simp)).trans h1
    have k4 := (hk 4 (by simp)).trans h4
    have k41 := (hk 41 (by simp)).trans h41
    have k42 := (hk 42 (by simp)).trans h42
    have k34 := hk 34 (by simp)
    have k35 := hk 35 (by simp)
    have k36 := hk 36 (by simp)
    by_cases hj : j < h.kids.length
    · obtain ⟨x, hx⟩ : ∃ y, h.kids[j]? = some y := ⟨_, List.getElem?_eq_getElem hj⟩
      have hlt : (j : Int) < (h.kids.length : Int) := by omega
      have hr : (List.range h.kids.length)[j]? = some j := by simp [hj]
      rw [drop_at hr, List.all_cons, hx, Option.getD_some] at hf
      simp [l13_0, r13_7, r13_8, k41, k42, g43, hlt, sidx_at c.kd.len' hj, c.kd.get hx]
      refine reg13_9 (i := j) (k := x) c (by simp [k1]) (by simp [k4]) (by simp) (by simp) fun T2 hk2 h69 => ?_
      have m1 := hk2 1 (by simp)
      have m4 := hk2 4 (by simp)
      have m34 := hk2 34 (by simp)
      have m35 := hk2 35 (by simp)
      have m36 := hk2 36 (by simp)
      have m41 := hk2 41 (by simp)
      have m42 := hk2 42 (by simp)
      have m43 := hk2 43 (by simp)
      simp at m1 m4 m34 m35 m36 m41 m42 m43
      cases hb : kidR n h j x with
      | false =>
        rw [hb] at h69 hf
        simp [h69, r13_10]
        exact hno (by rw [hf]; simp) _ (by simp)
      | true =>
        rw [hb, Bool.true_and] at hf
        rw [hb] at h69
        simp [h69, r13_11, m43, g43, b_inc (show j < 4611686018427387904 by omega)]
        refine ⟨k - 1, by omega, fun t ht => ?_, j + 1, by omega, rfl, hf⟩
        simp at ht
        rcases ht with rfl | rfl | rfl | rfl | rfl | rfl | rfl <;> simp [m1, m4, m34, m35, m36, m41, m42, k1, k4, k34, k35, k36, k41, k42, h1, h4, h41, h42]
    · have hlt : ¬ (j : Int) < (h.kids.length : Int) := by omega
      have he : (List.range h.kids.length).drop j = [] := List.drop_eq_nil_of_le (by simp; omega)
      rw [he] at hf
      simp only [List.all_nil] at hf
      simp [l13_0, r13_7, k41, k42, g43, hlt]
      refine hok hf _ fun t ht => ?_
      simp at ht
      rcases ht with rfl | rfl | rfl | rfl | rfl <;> simp [k1, k4, k34, k35, k36, h1, h4]

theorem reg13_15 {T : Tm} {H : Heap} {Q : Post} {q g0 n : Nat} {h : Hd} {l ns ks : AVal} {i : Nat} (c : Cp H q g0 n h l ns ks) (h4 : T.get 4 = some (.p q 0)) (h7 : T.get 7 = some (.i .i64 (i : Int))) (hi : i < h.names.length) (hm : h.names.length < 4611686018427387904)
    (hQ : ∀ T', Keep [1, 4, 7, 34, 35, 36, 73, 74] T T' → T'.get 92 = some (.b (!risR h.names i)) → Q .normal T' H) : runQ d13_15 [] [] T H Q := by
  have e1 := load_row (o := 1) (n := 1) c.cp
  have hn := c.nm.len'
  cases i with
  | zero =>
    simp [d13_15, h4, h7, e1, hn]
    apply hQ <;> simp [Keep, risR]
  | succ j =>
    obtain ⟨a, ha⟩ : ∃ y, h.names[j]? = some y := ⟨_, List.getElem?_eq_getElem (by omega)⟩
    obtain ⟨b, hb⟩ : ∃ y, h.names[j + 1]? = some y := ⟨_, List.getElem?_eq_getElem hi⟩
    have i1 := sidx_at (k := .i64) (es := 1) hn (show j < h.names.length by omega)
    have i2 := sidx_at (k := .i64) (es := 1) hn hi
    have i3 : sidx 1 ns (.i .i64 ((j : Int) + 1)) = some (sptr 1 ns (j + 1)) := by rw [← i2]; simp
    have hs := b_sub (a := (j : Int) + 1) (b := 1) ⟨by omega, by omega⟩
    rw [show (j : Int) + 1 - 1 = j by omega] at hs
    have hpos : (0 : Int) < (j : Int) + 1 := by omega
    simp [d13_15, h4, h7, e1, hn, hpos, hs, i1, i3, c.nm.get ha, c.nm.get hb]
    apply hQ
    · simp [Keep, h4, h7]
    · simp [risR, ha, hb]

theorem reg13_17 {T : Tm} {H : Heap} {Q : Post} {q g0 n : Nat} {h : Hd} {l ns ks : AVal} {i : Nat} {s : List Nat} (c : Cp H q g0 n h l ns ks) (h4 : T.get 4 = some (.p q 0)) (h7 : T.get 7 = some (.i .i64 (i : Int))) (hs : h.names[i]? = some s) (hm : s.length < 2305843009213693952)
    (hQ : ∀ T', Keep [1, 4, 34, 35, 36, 73, 74] T T' → T'.get 118 = some (.b (!nmR h.kind s)) → Q .normal T' H) : runO r13_17 T H Q := by
  have e1 := load_row (o := 1) (n := 1) c.cp
  have e0 := load_row (o := 0) (n := 1) c.cp
  have i1 := sidx_at (k := .i64) (es := 1) c.nm.len' (List.getElem?_eq_some_iff.1 hs).1
  cases b1 : h.kind == 8 with
  | true =>
    have b2 : (h.kind == 9) = false := by rw [beq_iff_eq] at b1; rw [b1]; rfl
    simp [r13_17, h4, h7, e0, e1, b1, i1, c.nm.get hs]
    refine Call.is (call20 hm) ?_
    cases b3 : nameB s <;> simp [kC, h4, e0, b2] <;> apply hQ <;> simp [Keep, h4, nmR, b1, b2, b3]
  | false =>
    cases b2 : h.kind == 9 with
    | true =>
      simp [r13_17, h4, h7, e0, e1, b1, b2, i1, c.nm.get hs]
      refine Call.is (call21 (by omega)) ?_
      simp [kC]
      apply hQ <;> simp [Keep, h4, nmR, b1, b2]
    | false =>
      simp [r13_17, h4, h7, e0, e1, b1, b2]
      apply hQ <;> simp [Keep, h4, nmR, b1, b2]

theorem lp13_1 {T : Tm} {H : Heap} {Q : Post} {q g0 n : Nat} {h : Hd} {l ns ks : AVal} (c : Cp H q g0 n h l ns ks) (h4 : T.get 4 = some (.p q 0)) (h73 : T.get 73 = some (.i .i64 (h.names.length : Int))) (h74 : T.get 74 = some (.i .i64 0))
    (hm : h.names.length < 4611686018427387904) (hmn : ∀ s ∈ h.names, s.length < 2305843009213693952)
    (hok : namesR h = true → ∀ T', Keep [1, 4, 34, 35, 36] T T' → Q (.exit 4) T' H) (hno : namesR h = false → ∀ T', T'.get 2 = some (.b false) → Q .ret T' H) : Loop l13_1 T H Q := by
  refine Loop.by (fun k T' H' => H' = H ∧ Keep [1, 4, 34, 35, 36, 73] T T' ∧ ∃ j : Nat, j + k = h.names.length ∧ T'.get 74 = some (.i .i64 (j : Int)) ∧
    namesR h = ((List.range h.names.length).drop j).all fun i => risR h.names i && nmR h.kind (h.names[i]?.getD [])) h.names.length ?_ ?_
  · exact ⟨rfl, fun t _ => rfl, 0, by simp, h74, by simp [namesR]⟩
  · rintro k T1 H1 ⟨rfl, hk, j, hjk, g74, hf⟩
    have k1 := hk 1 (by simp)
    have k4 := (hk 4 (by simp)).trans h4
    have k73 := (hk 73 (by simp)).trans h73
    have k34 := hk 34 (by simp)
    have k35 := hk 35 (by simp)
    have k36 := hk 36 (by simp)
    by_cases hj : j < h.names.length
    · obtain ⟨x, hx⟩ : ∃ y, h.names[j]? = some y := ⟨_, List.getElem?_eq_getElem hj⟩
      have hlt : (j : Int) < (h.names.length : Int) := by omega
      have hr : (List.range h.names.length)[j]? = some j := by simp [hj]
      rw [drop_at hr, List.all_cons, hx, Option.getD_some] at hf
      simp [l13_1, r13_13, r13_14, k73, g74, hlt]
      refine reg13_15 (i := j) c (by simp [k4]) (by simp) hj hm fun T2 hk2 h92 => ?_
      have m1 := hk2 1 (by simp)
      have m4 := hk2 4 (by simp)
      have m7 := hk2 7 (by simp)
      have m34 := hk2 34 (by simp)
      have m35 := hk2 35 (by simp)
      have m36 := hk2 36 (by simp)
      have m73 := hk2 73 (by simp)
      have m74 := hk2 74 (by simp)
      simp at m1 m4 m7 m34 m35 m36 m73 m74
      cases hb : risR h.names j with
      | false =>
        rw [hb] at h92 hf
        simp [h92, r13_16]
        exact hno (by rw [hf]; simp) _ (by simp)
      | true =>
        rw [hb, Bool.true_and] at hf
        rw [hb] at h92
        simp [h92]
        refine reg13_17 (i := j) (s := x) c (by rw [m4, k4]) m7 hx (hmn x (List.mem_of_getElem? hx)) fun T3 hk3 h118 => ?_
        have n1 := hk3 1 (by simp)
        have n4 := hk3 4 (by simp)
        have n34 := hk3 34 (by simp)
        have n35 := hk3 35 (by simp)
        have n36 := hk3 36 (by simp)
        have n73 := hk3 73 (by simp)
        have n74 := hk3 74 (by simp)
        cases hb : nmR h.kind x with
        | false =>
          rw [hb] at h118 hf
          simp [h118, r13_18]
          exact hno (by rw [hf]; simp) _ (by simp)
        | true =>
          rw [hb, Bool.true_and] at hf
          rw [hb] at h118
          simp [h118, r13_19, n74, m74, g74, b_inc (show j < 4611686018427387904 by omega)]
          refine ⟨k - 1, by omega, fun t ht => ?_, j + 1, by omega, rfl, hf⟩
          simp at ht
          rcases ht with rfl | rfl | rfl | rfl | rfl | rfl <;> simp [n1, n4, n34, n35, n36, n73, m1, m4, m34, m35, m36, m73, k1, k4, k34, k35, k36, k73, h4, h73]
    · have hlt : ¬ (j : Int) < (h.names.length : Int) := by omega
      have he : (List.range h.names.length).drop j = [] := List.drop_eq_nil_of_le (by simp; omega)
      rw [he] at hf
      simp only [List.all_nil] at hf
      simp [l13_1, r13_13, k73, g74, hlt]
      refine hok hf _ fun t ht => ?_
      simp at ht
      rcases ht with rfl | rfl | rfl | rfl | rfl <;> simp [k1, k4, k34, k35, k36, h4]

theorem reg13_27 {T : Tm} {H : Heap} {Q : Post} {q g0 n : Nat} {h : Hd} {l ns ks : AVal} {a b : Int} (c : Cp H q g0 n h l ns ks) (h4 : T.get 4 = some (.p q 0)) (h8 : T.get 8 = some (.i .i64 a)) (h9 : T.get 9 = some (.i .i64 b))
    (hQ : ∀ T', Keep [1, 34, 35, 36] T T' → T'.get 168 = some (.b ((h.kids.length : Int) != a || (h.names.length : Int) != b || (h.opn && h.kind != 9))) → Q .normal T' H) : runO r13_27 T H Q := by
  have e0 := load_row (o := 0) (n := 1) c.cp
  have e1 := load_row (o := 1) (n := 1) c.cp
  have e2 := load_row (o := 2) (n := 1) c.cp
  have e3 := load_row (o := 3) (n := 1) c.cp
  cases b1 : (h.kids.length : Int) != a with
  | true =>
    simp [r13_27, h4, h8, h9, e0, e1, e2, e3, c.nm.len', c.kd.len', b1]
    apply hQ <;> simp [Keep, b1]
  | false =>
    cases b2 : (h.names.length : Int) != b with
    | true =>
      simp [r13_27, h4, h8, h9, e0, e1, e2, e3, c.nm.len', c.kd.len', b1, b2]
      apply hQ <;> simp [Keep, b1, b2]
    | false =>
      cases b3 : h.opn with
      | true =>
        simp [r13_27, h4, h8, h9, e0, e1, e2, e3, c.nm.len', c.kd.len', b1, b2, b3]
        apply hQ <;> simp [Keep, b1, b2, b3]
      | false =>
        simp [r13_27, h4, h8, h9, e0, e1, e2, e3, c.nm.len', c.kd.len', b1, b2, b3]
        apply hQ <;> simp [Keep, b1, b2, b3]

/-- The counts by kind. -/
theorem blk13 {T : Tm} {H : Heap} {Q : Post} {y : Tm → Heap → Post → Prop} {q g0 n : Nat} {h : Hd} {l ns ks : AVal} (c : Cp H q g0 n h l ns ks) (h4 : T.get 4 = some (.p q 0)) (h8 : T.get 8 = some (.i .i64 0)) (h9 : T.get 9 = some (.i .i64 0))
    (hok : ∀ a b, cntR h = some (a, b) → ∀ T', Keep [1, 4, 34, 35, 36] T T' → T'.get 8 = some (.i .i64 a) → T'.get 9 = some (.i .i64 b) → y T' H Q) (hno : cntR h = none → ∀ T', T'.get 2 = some (.b false) → Q .ret T' H) :
    run (.block 6 (.seq (.region r13_21) (.mask [1, 4, 8, 9, 34, 35, 36, 120] (.cond (.t 120) (.region r13_22) (.seq (.region r13_23) (.mask [1, 4, 8, 9, 34, 35, 36, 124] (.cond (.t 124) (.draw d13_24) (.seq (.region r13_25) (.mask [1, 4, 8, 9, 34, 35, 36, 139] (.cond (.t 139) (.seq (.region r13_26) .ret) .skip)))))))))) T H (seqK y Q) := by
  have e0 := load_row (o := 0) (n := 1) c.cp
  have e1 := load_row (o := 1) (n := 1) c.cp
  cases b7 : h.kind == 7 with
  | true =>
    simp [r13_21, r13_22, h4, e0, b7]
    apply hok 2 0 <;> simp [Keep, cntR, b7, h9]
  | false =>
    cases b8 : h.kind == 8 with
    | true =>
      simp [r13_21, r13_23, d13_24, h4, e0, e1, b7, b8, c.nm.len']
      apply hok h.names.length h.names.length <;> simp [Keep, cntR, b7, b8]
    | false =>
      cases b9 : h.kind == 9 with
      | true =>
        simp [r13_21, r13_23, d13_24, h4, e0, e1, b7, b8, b9, c.nm.len']
        apply hok h.names.length h.names.length <;> simp [Keep, cntR, b7, b8, b9]
      | false =>
        by_cases b0 : h.kind < 0
        · simp [r13_21, r13_23, r13_25, r13_26, h4, e0, e1, b7, b8, b9, b0]
          apply hno <;> simp [cntR, b7, b8, b9, b0]
        · by_cases b6 : (6 : Int) < h.kind
          · simp [r13_21, r13_23, r13_25, r13_26, h4, e0, e1, b7, b8, b9, b0, b6]
            apply hno <;> simp [cntR, b7, b8, b9, b0, b6]
          · simp [r13_21, r13_23, r13_25, h4, e0, e1, b7, b8, b9, b0, b6]
            apply hok 0 0 <;> simp [Keep, cntR, b7, b8, b9, b0, b6, h8, h9]

/-- The guard ahead. -/
theorem reg13_1 {T : Tm} {H : Heap} {Q : Post} {g0 n : Nat} {l : AVal} {root : Int} (h1 : T.get 1 = some (.p g0 0)) (hl : aLoad H (.p g0 0) 1 false = some l) (hr : aLoad H (.p g0 1) 1 false = some (.i .i64 root)) (hn : slen l = some n)
    (hQ : ∀ T', Keep [1] T T' → T'.get 32 = some (.b ((n : Int) == 0 || decide ((4096 : Int) < n) || decide (root < 0) || decide ((n : Int) ≤ root))) → Q .normal T' H) : runO r13_1 T H Q := by
  cases b1 : (n : Int) == 0 with
  | true =>
    simp [r13_1, h1, hl, hr, hn, b1]
    apply hQ <;> simp [Keep, b1]
  | false =>
    by_cases b2 : (4096 : Int) < n
    · simp [r13_1, h1, hl, hr, hn, b1, b2]
      apply hQ <;> simp [Keep, b1, b2]
    · by_cases b3 : root < 0
      · simp [r13_1, h1, hl, hr, hn, b1, b2, b3]
        apply hQ <;> simp [Keep, b1, b2, b3]
      · simp [r13_1, h1, hl, hr, hn, b1, b2, b3]
        apply hQ <;> simp [Keep, b1, b2, b3]

theorem call13 {H : Heap} {v : AVal} {g : Gr} (hg : GrOf H v g) (hm : g.l.length < 4611686018427387904) (hmn : ∀ h ∈ g.l, h.names.length < 4611686018427387904 ∧ h.kids.length < 4611686018427387904 ∧ ∀ s ∈ h.names, s.length < 2305843009213693952) :
    Call 13 [v] H fun v H' => H' = H ∧ v = .b (rightB g) := by
  refine Call.forget ?_
  obtain ⟨l, rfl, hl⟩ := hg
  refine Call.by (a := a13) rfl (by simp [a13]) ?_
  simp [a13, c13, r13_0, AVal.cells?]
  have hl0 : aLoad (H.push (.row [l, .i .i64 g.root] true)) (.p H.nx 0) 1 false = some l := by simp [aLoad, Heap.get_push]
  have hr0 : aLoad (H.push (.row [l, .i .i64 g.root] true)) (.p H.nx 1) 1 false = some (.i .i64 g.root) := by simp [aLoad, Heap.get_push]
  refine reg13_1 (by simp) hl0 hr0 hl.len fun T0 hk0 h32 => ?_
  have j1 := hk0 1 (by simp)
  simp at j1
  cases hb : ((g.l.length : Int) == 0 || decide ((4096 : Int) < g.l.length) || decide (g.root < 0) || decide ((g.l.length : Int) ≤ g.root)) with
  | true =>
    rw [hb] at h32
    have hR : rightB g = false := by simp only [rightB, hb]; rfl
    simp [h32, r13_2, hR]
    exact ⟨(Ex.refl H).push _, rfl⟩
  | false =>
    rw [hb] at h32
    have hR : rightB g = g.l.all (headR g.l.length) := by simp only [rightB, hb]; rfl
    simp [h32, r13_3, j1, hl0, hl.len]
    refine Loop.by (fun k T H' => Ex H H' ∧ T.get 1 = some (.p H.nx 0) ∧ aLoad H' (.p H.nx 0) 1 false = some l ∧ H.nx < H'.nx ∧ T.get 34 = some l ∧ T.get 35 = some (.i .i64 (g.l.length : Int)) ∧
      ∃ j : Nat, j + k = g.l.length ∧ T.get 36 = some (.i .i64 (j : Int)) ∧ rightB g = (g.l.drop j).all (headR g.l.length)) g.l.length ?_ ?_
    · exact ⟨(Ex.refl H).push _, by simp [j1], hl0, by simp, by simp, by simp, 0, by simp, by simp, by simpa using hR⟩
    · rintro k T H' ⟨he, h1, hl0, hnx, h34, h35, j, hjk, h36, hf⟩
      by_cases hj : j < g.l.length
      · obtain ⟨hd, hhd⟩ : ∃ y, g.l[j]? = some y := ⟨_, List.getElem?_eq_getElem hj⟩
        have hlt : (j : Int) < (g.l.length : Int) := by omega
        rw [drop_at hhd, List.all_cons] at hf
        obtain ⟨ns, ks, e1, e2, e3⟩ := (hl.ex he).head hhd
        obtain ⟨hmn1, hmn2, hmn3⟩ := hmn hd (List.mem_of_getElem? hhd)
        have hst : aStore (H'.push (.row [.i .i64 0, .nsl, .nsl, .b false] true)) (.p H'.nx 0) (.agg [.i .i64 hd.kind, ns, ks, .b hd.opn]) 4 = some ((H'.push (.row [.i .i64 0, .nsl, .nsl, .b false] true)).put H'.nx (.row [.i .i64 hd.kind, ns, ks, .b hd.opn] true)) := by
          simp [aStore, AVal.cells?, splice]
        have hg4 : (((H'.push (.row [.i .i64 0, .nsl, .nsl, .b false] true)).put H'.nx (.row [.i .i64 hd.kind, ns, ks, .b hd.opn] true))).get H'.nx = some (.row [.i .i64 hd.kind, ns, ks, .b hd.opn] true) := by rw [Heap.get_put, if_pos rfl]
        obtain ⟨H1, hH1⟩ : ∃ H1, H1 = ((H'.push (.row [.i .i64 0, .nsl, .nsl, .b false] true)).put H'.nx (.row [.i .i64 hd.kind, ns, ks, .b hd.opn] true)) := ⟨_, rfl⟩
        rw [← hH1] at hg4
        have he0 : Ex H' H1 := by rw [hH1]; exact ((Ex.refl H').push _).put (Nat.le_refl _) _
        have he1 : Ex H H1 := he.trans he0
        have hl1 : aLoad H1 (.p H.nx 0) 1 false = some l := load_ex he0 hnx hl0
        have hn1 : H.nx < H1.nx := Nat.lt_of_lt_of_le hnx he0.nx
        have c : Cp H1 H'.nx H.nx g.l.length hd l ns ks := ⟨hg4, hl1, hl.len, e2.ex he0, e3.ex he0⟩
        have c1 := load_row (o := 1) (n := 1) hg4
        have c2 := load_row (o := 2) (n := 1) hg4
        simp [l13_2, r13_4, r13_5, r13_6, h34, h35, h36, hlt, sidx_at hl.len hj, e1, hst]
        rw [← hH1]
        simp [c2, c.kd.len']
        refine lp13_0 c (by simp [h1]) (by simp) (by simp) (by simp) (by simp) hmn2 (fun hK T1 k1 => ?_) (fun hK T1 k1 => ?_)
        · have m1 := k1 1 (by simp)
          have m4 := k1 4 (by simp)
          have m34 := k1 34 (by simp)
          have m35 := k1 35 (by simp)
          have m36 := k1 36 (by simp)
          simp [h1, h34, h35, h36] at m1 m4 m34 m35 m36
          simp [r13_12, m4, c1, c.nm.len']
          refine lp13_1 c (by simp [m4]) (by simp) (by simp) hmn1 hmn3 (fun hN T2 k2 => ?_) (fun hN T2 k2 => ?_)
          · have n1 := k2 1 (by simp)
            have n4 := k2 4 (by simp)
            have n34 := k2 34 (by simp)
            have n35 := k2 35 (by simp)
            have n36 := k2 36 (by simp)
            simp [m1, m4, m34, m35, m36] at n1 n4 n34 n35 n36
            simp only [blkK_exit, if_true, seqK_normal, run_mask, run_seq, run_region]
            simp only [r13_20, runO_pure, p_mov', ev_c, kV_some, putO_some, runO_nil, seqK_normal, run_mask]
            refine blk13 c (by simp [n4]) (by simp) (by simp) (fun a b hab T3 k3 h8 h9 => ?_) (fun hc T3 k3 => ?_)
            · have o1 := k3 1 (by simp)
              have o4 := k3 4 (by simp)
              have o34 := k3 34 (by simp)
              have o35 := k3 35 (by simp)
              have o36 := k3 36 (by simp)
              simp [n1, n4, n34, n35, n36] at o1 o4 o34 o35 o36
              simp
              refine reg13_27 c o4 h8 h9 fun T4 k4 h168 => ?_
              have p1 := k4 1 (by simp)
              have p34 := k4 34 (by simp)
              have p35 := k4 35 (by simp)
              have p36 := k4 36 (by simp)
              cases hF : ((hd.kids.length : Int) != a || (hd.names.length : Int) != b || (hd.opn && hd.kind != 9)) with
              | true =>
                rw [hF] at h168
                have hfm : formR hd = false := by simp only [formR, hab, hF]; rfl
                simp [h168, r13_28]
                exact ⟨he1, rfl, by rw [hf]; simp [headR, hfm]⟩
              | false =>
                rw [hF] at h168
                have hfm : formR hd = true := by simp only [formR, hab, hF]; rfl
                simp [h168, r13_29, p36, o36, p1, o1, p34, o34, p35, o35, b_inc (show j < 4611686018427387904 by omega)]
                exact ⟨k - 1, by omega, he1, hl1, hn1, j + 1, by omega, rfl, by rw [hf]; simp [headR, hK, hN, hfm]⟩
            · have hfm : formR hd = false := by simp only [formR, hc]
              simp [k3]
              exact ⟨he1, rfl, by rw [hf]; simp [headR, hfm]⟩
          · simp [k2]
            exact ⟨he1, rfl, by rw [hf]; simp [headR, hN]⟩
        · simp [k1]
          exact ⟨he1, rfl, by rw [hf]; simp [headR, hK]⟩
      · have hlt : ¬ (j : Int) < (g.l.length : Int) := by omega
        have hem : g.l.drop j = [] := List.drop_eq_nil_of_le (by omega)
        rw [hem] at hf
        simp only [List.all_nil] at hf
        simp [l13_2, r13_4, r13_30, h1, h34, h35, h36, hlt, hf]
        exact ⟨he, rfl⟩


def riseB (l : List (List Nat)) : Bool := (List.range l.length).all (risR l)

theorem reg73_3 {T : Tm} {H : Heap} {Q : Post} {v : AVal} {l : List (List Nat)} {j : Nat} (hl : Strs H v l) (hm : l.length < 4611686018427387904) (h0 : T.get 0 = some v) (h3 : T.get 3 = some (.i .i64 ((j : Int) + 1))) (hj : j + 1 < l.length)
    (hQ : ∀ T', Keep [0, 3] T T' → T'.get 19 = some (.b (!risR l (j + 1))) → Q .normal T' H) : runQ d73_3 [] [] T H Q := by
  obtain ⟨a, ha⟩ : ∃ y, l[j]? = some y := ⟨_, List.getElem?_eq_getElem (by omega)⟩
  obtain ⟨b, hb⟩ : ∃ y, l[j + 1]? = some y := ⟨_, List.getElem?_eq_getElem hj⟩
  have i1 := sidx_at (k := .i64) (es := 1) hl.len' (show j < l.length by omega)
  have i2 := sidx_at (k := .i64) (es := 1) hl.len' hj
  have i3 : sidx 1 v (.i .i64 ((j : Int) + 1)) = some (sptr 1 v (j + 1)) := by rw [← i2]; simp
  have hs := b_sub (a := (j : Int) + 1) (b := 1) ⟨by omega, by omega⟩
  rw [show (j : Int) + 1 - 1 = j by omega] at hs
  simp [d73_3, h0, h3, hs, i1, i3, hl.get ha, hl.get hb]
  apply hQ
  · simp [Keep, h0, h3]
  · simp [risR, ha, hb]

theorem call73 {H : Heap} {v : AVal} {l : List (List Nat)} (hl : Strs H v l) (hm : l.length < 4611686018427387904) :
    Call 73 [v] H fun v H' => H' = H ∧ v = .b (riseB l) := by
  refine Call.by (a := a73) rfl (by simp [a73]) ?_
  simp [a73, c73, r73_0, r73_1]
  refine Loop.by (fun k T H' => H' = H ∧ T.get 0 = some v ∧ ∃ j : Nat, j + k = l.length ∧ T.get 3 = some (.i .i64 ((j : Int) + 1)) ∧ riseB l = ((List.range l.length).drop (j + 1)).all (risR l)) l.length ?_ ?_
  · refine ⟨rfl, by simp, 0, by simp, by simp, ?_⟩
    unfold riseB
    cases l with
    | nil => rfl
    | cons a r => simp [List.range_succ_eq_map, risR]
  · rintro k T H' ⟨rfl, h0, j, hjk, h3, hf⟩
    by_cases hj : j + 1 < l.length
    · have hlt : (j : Int) + 1 < (l.length : Int) := by omega
      have hr : (List.range l.length)[j + 1]? = some (j + 1) := by simp [hj]
      rw [drop_at hr, List.all_cons] at hf
      simp [l73_0, r73_2, h0, h3, hlt, hl.len']
      refine reg73_3 (j := j) hl hm (by simp [h0]) (by simp [h3]) hj fun T1 hk h19 => ?_
      have k0 := hk 0 (by simp)
      have k3 := hk 3 (by simp)
      simp [h0, h3] at k0 k3
      cases hb : risR l (j + 1) with
      | false =>
        rw [hb] at h19 hf
        simp [h19, r73_4, hf]
      | true =>
        rw [hb, Bool.true_and] at hf
        rw [hb] at h19
        have hadd := b_add (a := (j : Int) + 1) (b := 1) ⟨by omega, by omega⟩
        simp [h19, r73_5, k3, k0, hadd]
        exact ⟨k - 1, by omega, j + 1, by omega, by simp, hf⟩
    · have hlt : ¬ (j : Int) + 1 < (l.length : Int) := by omega
      have he : (List.range l.length).drop (j + 1) = [] := List.drop_eq_nil_of_le (by simp; omega)
      rw [he] at hf
      simp only [List.all_nil] at hf
      simp [l73_0, r73_2, r73_6, h0, h3, hlt, hl.len', hf]

/-! A map of strings. -/
theorem find_str_none {x : List Nat} : ∀ {ks : List (List Nat × AVal)} (n : Nat), (∀ k ∈ ks, k.1 ≠ x) → aFind .str (.s x) (ks.map fun k => (.s k.1, k.2)) n = some none
  | [], n, _ => rfl
  | k :: r, n, h => by
    have h1 : (x == k.1) = false := by simpa using fun e => h k (by simp) e.symm
    simp only [List.map_cons, aFind, aKeyEq, aEqStr, h1]
    exact find_str_none (n + 1) fun k' hk => h k' (by simp [hk])

theorem call98 {H : Heap} {v : AVal} {l : List (List Nat)} (hl : Strs H v l) (hm : l.length < 4611686018427387904) (hd : l.Nodup) :
    Call 98 [v] H fun v H' => H' = H ∧ v = .b true := by
  refine Call.forget ?_
  refine Call.by (a := a98) rfl (by simp [a98]) ?_
  simp [a98, c98, r98_0, r98_1, r98_2, hl.len']
  refine Loop.by (fun k T H' => Ex H H' ∧ T.get 3 = some (.m H.nx) ∧ T.get 7 = some v ∧ T.get 8 = some (.i .i64 (l.length : Int)) ∧ ∃ j : Nat, j + k = l.length ∧ T.get 9 = some (.i .i64 (j : Int)) ∧
    H'.get H.nx = some (.map (((l.take j).map fun x => (x, AVal.b true)).map fun k => (.s k.1, k.2)))) l.length ?_ ?_
  · exact ⟨(Ex.refl H).push _, by simp, by simp, by simp, 0, by simp, by simp, by simp⟩
  · rintro k T H' ⟨he, h3, h7, h8, j, hjk, h9, hmp⟩
    by_cases hj : j < l.length
    · obtain ⟨x, hx⟩ : ∃ y, l[j]? = some y := ⟨_, List.getElem?_eq_getElem hj⟩
      have hlt : (j : Int) < (l.length : Int) := by omega
      have hnew : ∀ k ∈ (l.take j).map fun x => (x, AVal.b true), k.1 ≠ x := by
        intro k hk
        simp only [List.mem_map] at hk
        obtain ⟨y, hy, rfl⟩ := hk
        rintro rfl
        obtain ⟨i, hi, hiy⟩ := List.getElem_of_mem hy
        simp at hi hiy
        obtain ⟨h1, h2⟩ := List.getElem?_eq_some_iff.1 hx
        exact List.pairwise_iff_getElem.1 hd i j (by omega) h1 (by omega) (by rw [hiy, h2])
      have hfind := find_str_none 0 hnew
      have hlook : aLook H' .str (.b false) false (.m H.nx) (.s x) = some (.b false) := by
        simp only [aLook, aKeyOk, isStrV, if_true, hmp, hfind]
        rfl
      have hupd : aUpd H' .str (.m H.nx) (.s x) (.b true) = some (H'.put H.nx (.map ((((l.take j).map fun x => (x, AVal.b true)).map fun k => (.s k.1, k.2)) ++ [(.s x, .b true)]))) := by
        simp only [aUpd, hmp, aKeyOk, isStrV, if_true, hfind]
      simp [r98_0, r98_1, r98_2, r98_3, r98_4, r98_5, r98_6, r98_7, r98_8, l98_0, r98_9, h3, h7, h8, h9, hlt, sidx_at hl.len' hj, (hl.ex he).get hx, hlook, hupd, b_inc (show j < 4611686018427387904 by omega)]
      refine ⟨k - 1, by omega, he.put (Nat.le_refl _) _, j + 1, by omega, rfl, ?_⟩
      rw [Heap.get_put, if_pos rfl, List.take_add_one]
      simp [hx]
    · have hlt : ¬ (j : Int) < (l.length : Int) := by omega
      simp [r98_0, r98_1, r98_2, r98_3, r98_4, r98_5, r98_6, r98_7, r98_8, l98_0, r98_9, h3, h7, h8, h9, hlt]
      exact ⟨he, rfl⟩

theorem call138 {H : Heap} {q : Nat} {f : FuncId} {own : Bool} {p : List Nat → Bool} {x : List Nat} (hq : H.get q = some (.row [.f f []] own)) (hp : Call f [.s x] H fun v H' => H' = H ∧ v = .b (p x)) :
    Call 138 [.s x, .p q 0] H fun v H' => H' = H ∧ v = .b (!p x) := by
  refine Call.by (a := a138) rfl (by simp [a138]) ?_
  simp [r138_0, r138_1, c138, a138, aLoad, hq]
  refine Call.is hp ?_
  simp [kC]

theorem call99 {H : Heap} {v : AVal} {l : List (List Nat)} {f : FuncId} {p : List Nat → Bool} (hl : Strs H v l) (hm : l.length < 4611686018427387904) (hp : ∀ H, ∀ x ∈ l, Call f [.s x] H fun v H' => H' = H ∧ v = .b (p x)) :
    Call 99 [v, .f f []] H fun v H' => H' = H ∧ v = .b (l.all p) := by
  refine Call.forget ?_
  refine Call.by (a := a99) rfl (by simp [a99]) ?_
  simp [r99_0, r99_1, c99, a99, AVal.cells?]
  refine Call.is (call137 (p := fun x => !p x) (hl.ex ((Ex.refl H).push _)) hm fun x hx => call138 (q := H.nx) (get_push_nx _ _) (hp _ x hx)) ?_
  simp [kC]
  refine ⟨(Ex.refl H).push _, rfl, ?_⟩
  rw [Bool.eq_iff_iff]; simp

theorem word_tag (s : List Nat) : tagB s = (nameB s || wordB s) := by
  cases h : wordB s with
  | false => simp [nameB, h]
  | true =>
    have : wordsL.all tagB = true := by decide
    rw [List.all_eq_true] at this
    unfold wordB at h
    rw [List.any_eq_true] at h
    obtain ⟨y, hy, he⟩ := h
    have : s = y := by simpa using he
    subst this
    simp_all

def typB (h : Hd) : Bool :=
  !(h.opn && h.kind != 9) && (if h.kind == 7 then ((h.names.length : Int) == 0) && ((h.kids.length : Int) == 2)
  else if h.kind == 8 then ((h.names.length : Int) == h.kids.length) && h.names.all nameB
  else if h.kind == 9 then ((h.names.length : Int) == h.kids.length) && h.names.all tagB
  else decide (0 ≤ h.kind) && decide (h.kind ≤ 6) && ((h.names.length : Int) + h.kids.length == 0))

theorem call64 {H : Heap} {h : Hd} {ns ks : AVal} (hn : Strs H ns h.names) (hk : Ints H ks h.kids) (hm : h.names.length < 2305843009213693952) (hmk : h.kids.length < 2305843009213693952) (hms : ∀ s ∈ h.names, s.length < 4611686018427387904) (hd : h.names.Nodup) (h10 : (h.kind == 10) = false) :
    Call 64 [.agg [.i .i64 h.kind, .i .i64 0, .s [], ns, ks, .b h.opn]] H fun v H' => H' = H ∧ v = .b (typB h) := by
  refine Call.forget ?_
  refine Call.by (a := a64) rfl (by simp [a64]) ?_
  simp [a64, c64, r64_0, AVal.cells?]
  obtain ⟨H1, hH1⟩ : ∃ H1, H1 = H.push (.row [.i .i64 h.kind, .i .i64 0, .s [], ns, ks, .b h.opn] true) := ⟨_, rfl⟩
  have hg : H1.get H.nx = some (.row [.i .i64 h.kind, .i .i64 0, .s [], ns, ks, .b h.opn] true) := by rw [hH1]; simp
  have he : Ex H H1 := by rw [hH1]; exact (Ex.refl H).push _
  rw [← hH1]
  have e0 := load_row (o := 0) (n := 1) hg
  have e2 := load_row (o := 2) (n := 1) hg
  have e3 := load_row (o := 3) (n := 1) hg
  have e4 := load_row (o := 4) (n := 1) hg
  have e5 := load_row (o := 5) (n := 1) hg
  have n1 := (hn.ex he).len'
  have k1 := (hk.ex he).len'
  cases b0 : (h.opn && h.kind != 9) with
  | true =>
    have b1 : h.opn = true := by cases ho : h.opn <;> simp_all
    have b2 : (h.kind != 9) = true := by cases ho : h.opn <;> simp_all
    simp [r64_1, r64_2, e0, e5, b1, b2]
    exact ⟨he, rfl, by simp only [typB, b0]; rfl⟩
  | false =>
    have go : ∀ T : Tm, T.get 1 = some (.p H.nx 0) → ∀ Q : Post, (∀ T', T'.get 1 = some (.p H.nx 0) → T'.get 9 = some (.b false) → Q .normal T' H1) → runO r64_1 T H1 Q := by
      intro T h1 Q hQ
      cases b1 : h.opn with
      | false =>
        simp [r64_1, h1, e0, e5, b1]
        apply hQ <;> simp [h1]
      | true =>
        have b2 : (h.kind != 9) = false := by simpa [b1] using b0
        simp [r64_1, h1, e0, e5, b1, b2]
        apply hQ <;> simp [h1]
    refine go _ (by simp) _ fun T h1 h9 => ?_
    have ht : typB h = (if h.kind == 7 then ((h.names.length : Int) == 0) && ((h.kids.length : Int) == 2)
  else if h.kind == 8 then ((h.names.length : Int) == h.kids.length) && h.names.all nameB
  else if h.kind == 9 then ((h.names.length : Int) == h.kids.length) && h.names.all tagB
  else decide (0 ≤ h.kind) && decide (h.kind ≤ 6) && ((h.names.length : Int) + h.kids.length == 0)) := by simp only [typB, b0]; rfl
    have hq : ((h.names.length : Int) + h.kids.length) = ((h.names.length + h.kids.length : Nat) : Int) := by omega
    cases b7 : h.kind == 7 with
    | true =>
      simp only [b7, if_true] at ht
      simp [h9, r64_3, r64_4, h1, e0, b7]
      cases c1 : (h.names.length : Int) == 0 with
      | true =>
        simp [r64_5, h1, e2, e3, e4, n1, k1, c1]
        exact ⟨he, rfl, by rw [ht, c1, Bool.true_and]⟩
      | false =>
        simp [r64_5, h1, e2, e3, e4, n1, k1, c1]
        exact ⟨he, rfl, by rw [ht, c1, Bool.false_and]⟩
    | false =>
      cases b8 : h.kind == 8 with
      | true =>
        simp only [b7, b8, if_true, Bool.false_eq_true, if_false] at ht
        simp [h9, r64_3, r64_4, r64_6, h1, e0, b7, b8]
        cases c1 : (h.names.length : Int) == h.kids.length with
        | true =>
          simp [r64_7, h1, e2, e3, e4, n1, k1, c1]
          refine Call.is (call98 (hn.ex he) (by omega) hd) ?_
          simp [kC, h1, e3]
          refine Call.is (call99 (p := nameB) (hn.ex he) (by omega) fun H x hx => call96 (hms x hx)) ?_
          simp [kC]
          exact ⟨he, rfl, by rw [ht, c1, Bool.true_and]⟩
        | false =>
          simp [r64_7, h1, e2, e3, e4, n1, k1, c1]
          exact ⟨he, rfl, by rw [ht, c1, Bool.false_and]⟩
      | false =>
        cases b9 : h.kind == 9 with
        | true =>
          simp only [b7, b8, b9, if_true, Bool.false_eq_true, if_false] at ht
          simp [h9, r64_3, r64_4, r64_6, r64_8, h1, e0, b7, b8, b9]
          cases c1 : (h.names.length : Int) == h.kids.length with
          | true =>
            simp [r64_9, h1, e2, e3, e4, n1, k1, c1]
            refine Call.is (call98 (hn.ex he) (by omega) hd) ?_
            simp [kC, h1, e3]
            refine Call.is (call99 (p := tagB) (hn.ex he) (by omega) fun H x hx => by rw [word_tag]; exact call100 (hms x hx)) ?_
            simp [kC]
            exact ⟨he, rfl, by rw [ht, c1, Bool.true_and]⟩
          | false =>
            simp [r64_9, h1, e2, e3, e4, n1, k1, c1]
            exact ⟨he, rfl, by rw [ht, c1, Bool.false_and]⟩
        | false =>
          simp only [b7, b8, b9, Bool.false_eq_true, if_false] at ht
          have ha := b_add (a := (h.names.length : Int)) (b := (h.kids.length : Int)) ⟨by omega, by omega⟩
          by_cases c0 : 0 ≤ h.kind
          · by_cases c6 : h.kind ≤ 6
            · simp [h9, r64_3, r64_4, r64_6, r64_8, r64_10, r64_12, h1, e0, e2, e3, e4, n1, k1, b7, b8, b9, h10, c0, c6, ha]
              exact ⟨he, rfl, by rw [ht]; simp [c0, c6]⟩
            · simp [h9, r64_3, r64_4, r64_6, r64_8, r64_10, r64_12, h1, e0, e2, e3, e4, n1, k1, b7, b8, b9, h10, c0, c6]
              exact ⟨he, rfl, by rw [ht]; simp [c0, c6]⟩
          · simp [h9, r64_3, r64_4, r64_6, r64_8, r64_10, r64_12, h1, e0, e2, e3, e4, n1, k1, b7, b8, b9, h10, c0]
            exact ⟨he, rfl, by rw [ht]; simp [c0]⟩


/-- A slice's own object is this one. -/
def sid : AVal → Option Nat
  | .sl i _ _ _ _ => some i
  | _ => none

/-- A slice of its own that grows. -/
def Buf (H : Heap) (es : Nat) (v : AVal) (n : Nat) (cells : List AVal) : Prop :=
  n * es = cells.length ∧ ((v = .nsl ∧ n = 0) ∨ (∃ i own, v = .sl i 0 0 (some 0) es ∧ n = 0 ∧ i < H.nx ∧ H.get i = some (.row [] own)) ∨ ∃ i, v = .sl i 0 n none es ∧ i < H.nx ∧ 0 < n ∧ H.get i = some (.row cells true))

theorem Buf.nil (H : Heap) (es : Nat) : Buf H es .nsl 0 [] := ⟨by simp, .inl ⟨rfl, rfl⟩⟩

theorem Buf.slen {H : Heap} {es : Nat} {v : AVal} {n : Nat} {cells : List AVal} (h : Buf H es v n cells) : AM.slen v = some n := by
  rcases h.2 with ⟨rfl, rfl⟩ | ⟨i, own, rfl, rfl, _⟩ | ⟨i, rfl, _⟩ <;> rfl

theorem Buf.zero {H : Heap} {es i : Nat} {own : Bool} (hi : i < H.nx) (hg : H.get i = some (.row [] own)) : Buf H es (.sl i 0 0 (some 0) es) 0 [] := ⟨by simp, .inr (.inl ⟨i, own, rfl, rfl, hi, hg⟩)⟩

theorem Buf.empty {H : Heap} {es : Nat} {v : AVal} {cells : List AVal} (h : Buf H es v 0 cells) : cells = [] := by
  have := h.1
  cases cells with
  | nil => rfl
  | cons => simp at this

theorem news_one {H : Heap} {X es : Nat} {k : Option Nat} {cs : List AVal} {own : Bool} (h : H.get X = some (.row cs own)) (hl : cs.length = es) : aNews H (.sl X 0 1 k es) es = some (cs, 1) := by
  simp [aNews, h, hl]
  rw [← hl, List.take_length]

theorem Buf.app {H : Heap} {es bytes n : Nat} {v x : AVal} {cells news : List AVal} (h : Buf H es v n cells) (hx : aNews H x es = some (news, 1)) (hl : news.length = es) (hb : (n + 1) * bytes ≤ 1099511627776) (hn : n + 1 ≤ 1099511627776) :
    ∃ v' H', aApp H es bytes v x = some (v', H') ∧ Buf H' es v' (n + 1) (cells ++ news) ∧ H'.nx = H.nx + 1 ∧ v' = .sl H.nx 0 (n + 1) none es ∧ (∀ i, i < H.nx → sid v ≠ some i → H'.get i = H.get i) := by
  obtain ⟨h1, h2⟩ := h
  rcases h2 with ⟨rfl, rfl⟩ | ⟨i, own, rfl, rfl, hi, hg⟩ | ⟨i, rfl, hi, h0, hg⟩
  · have hc : cells = [] := by
      cases cells with
      | nil => rfl
      | cons => simp at h1
    subst hc
    refine ⟨.sl H.nx 0 1 none es, H.push (.row news true), ?_, ⟨by simp [hl], .inr (.inr ⟨H.nx, rfl, by simp, by omega, by simp⟩)⟩, rfl, rfl, fun i hi _ => get_push_old hi⟩
    simp only [aApp, hx]
    rw [if_neg (by omega), if_pos ⟨by omega, by omega⟩]
  · have hc : cells = [] := by
      cases cells with
      | nil => rfl
      | cons => simp at h1
    subst hc
    refine ⟨.sl H.nx 0 1 none es, H.push (.row news true), ?_, ⟨by simp [hl], .inr (.inr ⟨H.nx, rfl, by simp, by omega, by simp⟩)⟩, rfl, rfl, fun i hi _ => get_push_old hi⟩
    simp only [aApp, hx, hg]
    have hb' : bytes ≤ 1099511627776 := by simpa using hb
    simp [hb']
  · refine ⟨.sl H.nx 0 (n + 1) none es, (H.push (.row (cells ++ news) true)).put i .dead, ?_, ⟨by rw [Nat.add_mul, h1, List.length_append]; omega, .inr (.inr ⟨H.nx, rfl, by simp, by omega, ?_⟩)⟩, rfl, rfl, fun j hj hs => ?_⟩
    · simp only [aApp, hx, hg]
      simp [h1, hb, hn]
    · rw [Heap.get_put, if_neg (by omega)]; simp
    · rw [Heap.get_put, if_neg (fun e => hs (by rw [e]; rfl)), get_push_old hj]

/-- What does not touch its object leaves it. -/
theorem Buf.keep {H H' : Heap} {es : Nat} {v : AVal} {n : Nat} {cells : List AVal} (h : Buf H es v n cells) (hn : H.nx ≤ H'.nx) (hk : ∀ i, sid v = some i → H'.get i = H.get i) : Buf H' es v n cells := by
  obtain ⟨h1, h2⟩ := h
  rcases h2 with ⟨rfl, rfl⟩ | ⟨i, own, rfl, rfl, hi, hg⟩ | ⟨i, rfl, hi, h0, hg⟩
  · exact ⟨h1, .inl ⟨rfl, rfl⟩⟩
  · exact ⟨h1, .inr (.inl ⟨i, own, rfl, rfl, by omega, by rw [hk i rfl]; exact hg⟩)⟩
  · exact ⟨h1, .inr (.inr ⟨i, rfl, by omega, h0, by rw [hk i rfl]; exact hg⟩)⟩

theorem Buf.sid_lt {H : Heap} {es : Nat} {v : AVal} {n : Nat} {cells : List AVal} (h : Buf H es v n cells) {i : Nat} (hi : sid v = some i) : i < H.nx := by
  rcases h.2 with ⟨rfl, _⟩ | ⟨j, own, rfl, _, hj, _⟩ | ⟨j, rfl, hj, _⟩
  · simp [sid] at hi
  · simp [sid] at hi; omega
  · simp [sid] at hi; omega

/-- Elements of one cell. -/
theorem Buf.sl1 {H : Heap} {v : AVal} {n : Nat} {cells : List AVal} (h : Buf H 1 v n cells) : Sl H 1 false v cells := by
  obtain ⟨h1, h2⟩ := h
  rcases h2 with ⟨rfl, rfl⟩ | ⟨i, own, rfl, rfl, hi, hg⟩ | ⟨i, rfl, hi, h0, hg⟩
  · have : cells = [] := by cases cells with
      | nil => rfl
      | cons => simp at h1
    subst this
    exact Sl.nil _ _ _
  · have : cells = [] := by cases cells with
      | nil => rfl
      | cons => simp at h1
    subst this
    exact Sl.all hg hi rfl
  · exact Sl.all hg hi (by omega)

/-- Elements of several cells. -/
theorem Buf.load {H : Heap} {es : Nat} {v : AVal} {n j : Nat} {cells : List AVal} (h : Buf H es v n cells) (hj : j < n) : aLoad H (sptr es v j) es true = some (.agg ((cells.drop (j * es)).take es)) := by
  obtain ⟨h1, h2⟩ := h
  rcases h2 with ⟨rfl, rfl⟩ | ⟨i, own, rfl, rfl, hi, hg⟩ | ⟨i, rfl, hi, h0, hg⟩
  · omega
  · omega
  · rw [sptr_sl, Nat.zero_add]
    refine load_agg hg ?_
    rw [← h1]
    have : (j + 1) * es ≤ n * es := Nat.mul_le_mul_right _ hj
    rw [Nat.add_mul] at this; omega

/-- One element more, laid just ahead. -/
theorem Buf.app1 {H : Heap} {es bytes n : Nat} {v : AVal} {cells news : List AVal} (h : Buf H es v n cells) (hl : news.length = es) (hb : (n + 1) * bytes ≤ 1099511627776) (hn : n + 1 ≤ 1099511627776) :
    ∃ v' H', aApp (H.push (.row news true)) es bytes v (.sl H.nx 0 1 (some 1) es) = some (v', H') ∧ Buf H' es v' (n + 1) (cells ++ news) ∧ H'.nx = H.nx + 2 ∧ v' = .sl (H.nx + 1) 0 (n + 1) none es ∧ (∀ i, i < H.nx → sid v ≠ some i → H'.get i = H.get i) := by
  have h1 : Buf (H.push (.row news true)) es v n cells := h.keep (by simp) fun i hi => get_push_old (h.sid_lt hi)
  obtain ⟨v', H', e1, e2, e3, e4, e5⟩ := h1.app (bytes := bytes) (news_one (get_push_nx _ _) hl) hl hb hn
  refine ⟨v', H', e1, e2, by rw [e3]; rfl, by rw [e4]; rfl, fun i hi hs => ?_⟩
  rw [e5 i (by simp; omega) hs, get_push_old hi]

theorem Buf.own {H : Heap} {es : Nat} {v : AVal} {n : Nat} {cells : List AVal} (h : Buf H es v n cells) (hn : 0 < n) : ∃ i, v = .sl i 0 n none es ∧ i < H.nx ∧ H.get i = some (.row cells true) := by
  rcases h.2 with ⟨rfl, rfl⟩ | ⟨i, own, rfl, rfl, hi, hg⟩ | ⟨i, rfl, hi, h0, hg⟩
  · omega
  · omega
  · exact ⟨i, rfl, hi, hg⟩



theorem call93a {H : Heap} : Call 93 [.i .i64 1] H fun v H' => H' = H ∧ v = .tup [.agg [.b false, .b true, .b false, .b false, .i .i64 0, .i .i64 0], .b true] := by
  refine Call.forget ?_
  refine Call.by (a := a93) rfl (by simp [a93]) ?_
  simp [r93_0, r93_1, r93_2, r93_3, r93_4, r93_5, r93_6, r93_7, r93_8, r93_9, r93_10, r93_11, r93_12, r93_13, r93_14, r93_15, r93_16, r93_17, r93_18, r93_19, r93_20, r93_21, r93_22, r93_23, r93_24, r93_25, r93_26, r93_27, r93_28, r93_29, r93_30, c93, a93, aFill, AVal.cells?, splice, aStore, aLoad, Heap.get_put]
  exact ⟨((Ex.refl H).push _).put (Nat.le_refl _) _, rfl⟩

theorem call93b {H : Heap} : Call 93 [.i .i64 15] H fun v H' => H' = H ∧ v = .tup [.agg [.b false, .b false, .b false, .b false, .i .i64 1, .i .i64 1], .b true] := by
  refine Call.forget ?_
  refine Call.by (a := a93) rfl (by simp [a93]) ?_
  simp [r93_0, r93_1, r93_2, r93_3, r93_4, r93_5, r93_6, r93_7, r93_8, r93_9, r93_10, r93_11, r93_12, r93_13, r93_14, r93_15, r93_16, r93_17, r93_18, r93_19, r93_20, r93_21, r93_22, r93_23, r93_24, r93_25, r93_26, r93_27, r93_28, r93_29, r93_30, c93, a93, aFill, AVal.cells?, splice, aStore, aLoad, Heap.get_put]
  exact ⟨((Ex.refl H).push _).put (Nat.le_refl _) _, rfl⟩

theorem call94 {H : Heap} {k a b c d e f g : AVal} {kind : Int} (hk : kind = 1 ∨ kind = 15) : Call 94 [.agg [.i .i64 kind, b, c, d, e, .nsl, f, g]] H fun v H' => H' = H ∧ v = .b true := by
  refine Call.forget ?_
  refine Call.by (a := a94) rfl (by simp [a94]) ?_
  rcases hk with rfl | rfl
  · simp [r94_0, r94_1, r94_2, r94_3, r94_4, r94_5, r94_6, r94_7, r94_8, r94_9, r94_10, d94_11, r94_12, c94, a94, AVal.cells?, aLoad, Heap.get_push]
    exact ⟨(Ex.refl H).push _, rfl⟩
  · simp [r94_0, r94_1, r94_2, r94_3, r94_4, r94_5, r94_6, r94_7, r94_8, r94_9, r94_10, d94_11, r94_12, c94, a94, AVal.cells?, aLoad, Heap.get_push]
    exact ⟨(Ex.refl H).push _, rfl⟩

/-- The term of an int, and one that a type is ascribed to. -/
def nodeA : List AVal := [.i .i64 1, .i .i64 0, .s [], .i .i64 0, .i .u64 0, .nsl, .nsl, .nsl]
def nodeB (x y : AVal) : List AVal := [.i .i64 15, .i .i64 0, .s [], .i .i64 0, .i .u64 0, .nsl, x, y]

theorem call62a {H : Heap} : Call 62 [.agg nodeA] H fun v H' => H' = H ∧ v = .b true := by
  refine Call.forget ?_
  refine Call.by (a := a62) rfl (by simp [a62]) ?_
  simp [a62, c62, r62_0, r62_1, nodeA, AVal.cells?, aLoad, Heap.get_push]
  refine Call.is call93a ?_
  simp [kC, aStore, AVal.cells?, splice, r62_2, aLoad, Heap.get_put, Heap.get_push]
  refine Call.is (call94 (k := .nf) (a := .nf) (.inl rfl)) ?_
  simp [kC, r62_4, r62_5, r62_8, r62_9, r62_13, d62_15, aLoad, Heap.get_put, Heap.get_push]
  exact ⟨(((Ex.refl H).push _).push _).put (by simp) _, rfl⟩

theorem call62b {H : Heap} {x y : AVal} (hx : slen x = some 1) (hy : slen y = some 1) : Call 62 [.agg (nodeB x y)] H fun v H' => H' = H ∧ v = .b true := by
  refine Call.forget ?_
  refine Call.by (a := a62) rfl (by simp [a62]) ?_
  simp [a62, c62, r62_0, r62_1, nodeB, AVal.cells?, aLoad, Heap.get_push]
  refine Call.is call93b ?_
  simp [kC, aStore, AVal.cells?, splice, r62_2, aLoad, Heap.get_put, Heap.get_push, hx, hy]
  refine Call.is (call94 (k := .nf) (a := .nf) (.inr rfl)) ?_
  simp [kC, r62_4, r62_5, r62_8, r62_9, r62_13, d62_15, aLoad, Heap.get_put, Heap.get_push]
  exact ⟨(((Ex.refl H).push _).push _).put (by simp) _, rfl⟩

/-- One object is another one now. -/
structure Turn (q : Nat) (o : AObj) (H H' : Heap) : Prop where
  nx : H'.nx = H.nx
  at' : H'.get q = some o
  old : ∀ i, i ≠ q → H'.get i = H.get i

theorem Turn.put {q : Nat} {o o' : AObj} {H H' : Heap} (h : Turn q o H H') : Turn q o' H (H'.put q o') :=
  ⟨h.nx, by rw [Heap.get_put, if_pos rfl], fun i hi => by rw [Heap.get_put, if_neg hi]; exact h.old i hi⟩

theorem Turn.load {q : Nat} {o : AObj} {H H' : Heap} (h : Turn q o H H') {i off n : Nat} {b : Bool} (hi : i ≠ q) : aLoad H' (.p i off) n b = aLoad H (.p i off) n b := by
  simp only [aLoad, h.old i hi]

theorem Turn.sl {q : Nat} {o : AObj} {H H' : Heap} (h : Turn q o H H') {es : Nat} {agg : Bool} {v : AVal} {l : List AVal} (hs : Sl H es agg v l) (hi : sid v ≠ some q) : Sl H' es agg v l := by
  refine ⟨hs.len, by rw [h.nx]; exact hs.ins, fun j x hx => ?_⟩
  have h1 := hs.at' j x hx
  have h2 := hs.ins
  have hlen := hs.len
  cases v <;> simp only [slin] at h2
  · simp at hlen
    have := (List.getElem?_eq_some_iff.1 hx).1
    omega
  · rw [sptr_sl, h.load (by simpa [sid] using hi)]
    exact h1

def incs (us : List Int) (ks : List Int) : List Int := ks.foldl (fun u k => u.set k.toNat (u.getD k.toNat 0 + 1)) us

theorem incs_length (us ks : List Int) : (incs us ks).length = us.length := by
  unfold incs
  induction ks generalizing us with
  | nil => rfl
  | cons k ks ih => rw [List.foldl_cons, ih, List.length_set]

theorem incs_snoc (us ks : List Int) (k : Int) : incs us (ks ++ [k]) = (incs us ks).set k.toNat ((incs us ks).getD k.toNat 0 + 1) := by
  simp [incs]

/-- Each count stays little. -/
theorem incs_le {B : Int} : ∀ {us : List Int} (ks : List Int), (∀ u ∈ us, 0 ≤ u ∧ u ≤ B) → ∀ u ∈ incs us ks, 0 ≤ u ∧ u ≤ B + ks.length := by
  intro us ks
  induction ks generalizing us B with
  | nil => intro h; simpa [incs] using h
  | cons k ks ih =>
    intro h u hu
    have := ih (us := us.set k.toNat (us.getD k.toNat 0 + 1)) (B := B + 1) (fun x hx => by
      rcases List.mem_or_eq_of_mem_set hx with hx | rfl
      · have := h x hx; omega
      · rw [List.getD_eq_getElem?_getD]
        cases hg : us[k.toNat]? with
        | none =>
          have : us.length ≤ k.toNat := by simpa using hg
          rw [List.set_eq_of_length_le this] at hx
          have := h _ hx
          simp [hg] at this ⊢
          omega
        | some y =>
          have := h y (List.mem_of_getElem? hg)
          simp; omega) u hu
    simp at this ⊢; omega

theorem call63 {H : Heap} {q m : Nat} {k0 : Option Nat} {kv : AVal} {us ks : List Int} {below : Nat} (hq : H.get q = some (.row (us.map (.i .i64)) true)) (hm : m = us.length) (hks : Ints H kv ks) (hid : sid kv ≠ some q)
    (hb : below ≤ us.length) (hk : ∀ k ∈ ks, 0 ≤ k ∧ k < below) (hu : ∀ u ∈ us, 0 ≤ u ∧ u ≤ 1000000) (hl : ks.length < 1000000) :
    Call 63 [.sl q 0 m k0 1, kv, .i .i64 (below : Int)] H fun v H' => v = .b true ∧ Turn q (.row ((incs us ks).map (.i .i64)) true) H H' := by
  refine Call.by (a := a63) rfl (by simp [a63]) ?_
  simp [a63, c63, r63_0, r63_1, hks.len']
  refine Loop.by (fun k T H' => T.get 0 = some (.sl q 0 m k0 1) ∧ T.get 2 = some (.i .i64 (below : Int)) ∧ T.get 9 = some kv ∧ T.get 10 = some (.i .i64 (ks.length : Int)) ∧ ∃ j : Nat, j + k = ks.length ∧ T.get 11 = some (.i .i64 (j : Int)) ∧
    Turn q (.row ((incs us (ks.take j)).map (.i .i64)) true) H H') ks.length ?_ ?_
  · refine ⟨by simp, by simp, by simp, by simp, 0, by simp, by simp, rfl, ?_, fun _ _ => rfl⟩
    simpa [incs] using hq
  · rintro k T H' ⟨h0, h2, h9, h10, j, hjk, h11, ht⟩
    by_cases hj : j < ks.length
    · obtain ⟨x, hx⟩ : ∃ y, ks[j]? = some y := ⟨_, List.getElem?_eq_getElem hj⟩
      have hlt : (j : Int) < (ks.length : Int) := by omega
      obtain ⟨hx0, hxb⟩ := hk x (List.mem_of_getElem? hx)
      obtain ⟨n, rfl⟩ : ∃ n : Nat, x = (n : Int) := ⟨x.toNat, by omega⟩
      have hn : n < us.length := by omega
      have b1 : ¬ (n : Int) < 0 := by omega
      have b2 : ¬ (below : Int) ≤ (n : Int) := by omega
      have b2n : ¬ below ≤ n := by omega
      have hks' := ht.sl hks hid
      obtain ⟨y, hy⟩ : ∃ y, (incs us (ks.take j))[n]? = some y := ⟨_, List.getElem?_eq_getElem (by rw [incs_length]; exact hn)⟩
      have hyb := incs_le (ks.take j) hu y (List.mem_of_getElem? hy)
      have hyl : (ks.take j).length = j := by simp; omega
      rw [hyl] at hyb
      have hld : aLoad H' (.p q n) 1 false = some (.i .i64 y) := by
        rw [load_row ht.at']; simp [hy]
      have hix : sidx 1 (.sl q 0 m k0 1) (.i .i64 (n : Int)) = some (.p q n) := by
        rw [sidx_at (n := m) rfl (by omega)]; simp
      have hst : aStore H' (.p q n) (.i .i64 (y + 1)) 1 = some (H'.put q (.row ((incs us (ks.take (j + 1))).map (.i .i64)) true)) := by
        have hlen : n + 1 ≤ ((incs us (ks.take j)).map (AVal.i .i64)).length := by simp [incs_length]; omega
        simp only [aStore, AVal.cells?, ht.at']
        rw [if_pos ⟨rfl, hlen⟩]
        congr 3
        rw [List.take_add_one, hx]
        simp only [Option.toList_some, incs_snoc, Int.toNat_natCast, List.getD_eq_getElem?_getD, hy, Option.getD_some]
        rw [List.map_set]
        unfold splice
        rw [List.set_eq_take_append_cons_drop, if_pos (by simp at hlen ⊢; omega)]
        simp
      have hadd := b_add (a := y) (b := 1) ⟨by omega, by omega⟩
      simp [l63_0, r63_2, r63_3, r63_4, r63_6, r63_7, h0, h2, h9, h10, h11, hlt, sidx_at hks.len' hj, hks'.get hx, b1, b2, b2n, hix, hld, hadd, hst, b_inc (show j < 4611686018427387904 by omega)]
      exact ⟨k - 1, by omega, j + 1, by omega, rfl, ht.put⟩
    · have hlt : ¬ (j : Int) < (ks.length : Int) := by omega
      simp [l63_0, r63_2, r63_8, h9, h10, h11, hlt]
      rw [List.take_of_length_le (by omega)] at ht
      exact ht

theorem mksl_int {T : Tm} {l c : AOpd} {n : Nat} (hl : ev T l = some (.i .i64 (n : Int))) (hc : ev T c = some (.i .i64 (n : Int))) (hn : n ≤ 1000000) :
    aNew T (.mksl 1 8 [(.i .i64 0)] l c) = some (.row (List.replicate n (.i .i64 0)) true, fun i => .sl i 0 n (some n) 1) := by
  simp only [aNew, hl, hc]
  rw [if_pos ⟨by omega, by omega, by omega, by omega, rfl, by omega⟩]
  simp only [Int.toNat_natCast, Nat.mul_one]
  congr 3
  apply List.ext_getElem
  · simp
  · intro i h1 h2
    simp [Nat.mod_one]

theorem Sl.sid {H : Heap} {es : Nat} {agg : Bool} {v : AVal} {l : List AVal} (h : Sl H es agg v l) {q : Nat} (hq : H.nx ≤ q) : K.sid v ≠ some q := by
  have h2 := h.ins
  cases v <;> simp only [slin] at h2 <;> simp [K.sid]
  omega

def intHd : Hd := ⟨0, [], [], false⟩
def intT : List AVal := [.i .i64 0, .i .i64 0, .s [], .nsl, .nsl, .b false]

theorem incs_range (n : Nat) : ∀ j, j ≤ n → incs (List.replicate n 0 ++ [1]) ((List.range j).map Int.ofNat) = List.replicate j 1 ++ List.replicate (n - j) 0 ++ [1]
  | 0, _ => by simp [incs]
  | j + 1, h => by
    rw [List.range_succ, List.map_append, List.map_cons, List.map_nil, incs_snoc, incs_range n j (by omega)]
    obtain ⟨d, hd⟩ : ∃ d, n - j = d + 1 := ⟨n - j - 1, by omega⟩
    rw [hd, show n - (j + 1) = d by omega]
    simp only [Int.ofNat_eq_natCast, Int.toNat_natCast]
    have hget : (List.replicate j (1 : Int) ++ List.replicate (d + 1) 0 ++ [1]).getD j 0 = 0 := by
      rw [List.getD_eq_getElem?_getD, List.append_assoc, List.getElem?_append_right (by simp)]
      simp [List.replicate_succ]
    rw [hget, List.append_assoc, List.set_append_right _ _ (by simp)]
    simp only [List.replicate_succ (n := d), List.cons_append, Nat.sub_self, List.set_cons_zero, List.length_replicate]
    rw [List.replicate_succ' (n := j)]
    simp

def tyC (h : Hd) (ns kv : AVal) : List AVal := [.i .i64 h.kind, .i .i64 0, .s [], ns, kv, .b h.opn]

/-- The tree's two slices. -/
structure Tree (H : Heap) (nodes types kx ky ns kv : AVal) (h : Hd) (n : Nat) : Prop where
  nl : slen nodes = some 2
  nd0 : sidx 8 nodes (.i .i64 0) = some (sptr 8 nodes 0)
  n0 : aLoad H (sptr 8 nodes 0) 8 true = some (.agg nodeA)
  n1 : aLoad H (sptr 8 nodes 1) 8 true = some (.agg (nodeB kx ky))
  nin : ∃ i o k, nodes = .sl i o 2 k 8 ∧ i < H.nx
  kx : Ints H kx [0]
  ky : Ints H ky [(n : Int)]
  tl : slen types = some (n + 1)
  tin : ∃ i o k, types = .sl i o (n + 1) k 6 ∧ i < H.nx
  t0 : ∀ j, j < n → aLoad H (sptr 6 types j) 6 true = some (.agg intT)
  t1 : aLoad H (sptr 6 types n) 6 true = some (.agg (tyC h ns kv))
  ns : Strs H ns h.names
  kv : Ints H kv ((List.range n).map Int.ofNat)
  hk : h.kids = (List.range n).map Int.ofNat

theorem typB_int : typB intHd = true := by decide

theorem Tree.load {H H' : Heap} {nodes types kx ky ns kv : AVal} {h : Hd} {n : Nat} (t : Tree H nodes types kx ky ns kv h n) (he : Ex H H') :
    aLoad H' (sptr 8 nodes 0) 8 true = some (.agg nodeA) ∧ aLoad H' (sptr 8 nodes 1) 8 true = some (.agg (nodeB kx ky)) ∧ (∀ j, j < n → aLoad H' (sptr 6 types j) 6 true = some (.agg intT)) ∧ aLoad H' (sptr 6 types n) 6 true = some (.agg (tyC h ns kv)) := by
  obtain ⟨i, o, k, rfl, hi⟩ := t.nin
  obtain ⟨i', o', k', rfl, hi'⟩ := t.tin
  exact ⟨load_ex he hi t.n0, load_ex he hi t.n1, fun j hj => load_ex he hi' (t.t0 j hj), load_ex he hi' t.t1⟩

theorem Turn.ex {q : Nat} {o : AObj} {A H H' : Heap} (h : Turn q o H H') (he : Ex A H) (hq : A.nx ≤ q) : Ex A H' :=
  ⟨by rw [h.nx]; exact he.nx, fun i hi ob ho => by rw [h.old i (by omega)]; exact he.get i hi ob ho⟩

def tmJ (j : Nat) : List Int := if j = 2 then [1, 0] else [0, 0]
def tyJ (n j : Nat) : List Int := if j = 2 then List.replicate n 0 ++ [1] else List.replicate n 0 ++ [0]

/-- The first loop, over the two terms. -/
theorem lp39_0 {A H : Heap} {T : Tm} {Q : Post} {nodes types kx ky ns kv : AVal} {h : Hd} {n : Nat} (t : Tree A nodes types kx ky ns kv h n) (he : Ex A H) (hn : n ≤ 100000) {q3 q4 : Nat} {k3 k4 : Option Nat} (g3 : A.nx < q3) (g4 : q3 < q4) (g5 : q4 < H.nx)
    (h1 : T.get 1 = some (.p A.nx 0)) (hg : H.get A.nx = some (.row [nodes, types, .nsl] true)) (h3 : T.get 3 = some (.sl q3 0 2 k3 1)) (h4 : T.get 4 = some (.sl q4 0 (n + 1) k4 1))
    (m3 : H.get q3 = some (.row ([(0 : Int), 0].map (.i .i64)) true)) (m4 : H.get q4 = some (.row ((List.replicate n (0 : Int) ++ [0]).map (.i .i64)) true)) (h37 : T.get 37 = some nodes) (h38 : T.get 38 = some (.i .i64 2)) (h39 : T.get 39 = some (.i .i64 0))
    (hQ : ∀ T' H', Keep [1, 3, 4] T T' → Ex A H' → H.nx ≤ H'.nx → H'.get A.nx = some (.row [nodes, types, .nsl] true) → H'.get q3 = some (.row ([(1 : Int), 0].map (.i .i64)) true) → H'.get q4 = some (.row ((List.replicate n (0 : Int) ++ [1]).map (.i .i64)) true) → Q (.exit 0) T' H') :
    Loop l39_0 T H Q := by
  refine Loop.by (fun k T' H' => Keep [1, 3, 4, 37, 38] T T' ∧ Ex A H' ∧ H.nx ≤ H'.nx ∧ H'.get A.nx = some (.row [nodes, types, .nsl] true) ∧ ∃ j : Nat, j + k = 2 ∧ T'.get 39 = some (.i .i64 (j : Int)) ∧ H'.get q3 = some (.row ((tmJ j).map (.i .i64)) true) ∧ H'.get q4 = some (.row ((tyJ n j).map (.i .i64)) true)) 2 ?_ ?_
  · exact ⟨fun t _ => rfl, he, Nat.le_refl _, hg, 0, rfl, h39, m3, m4⟩
  · rintro k T1 H1 ⟨hk, he1, hnx, hg1, j, hjk, k39, p3, p4⟩
    have k1 := (hk 1 (by simp)).trans h1
    have k3' := (hk 3 (by simp)).trans h3
    have k4' := (hk 4 (by simp)).trans h4
    have k37 := (hk 37 (by simp)).trans h37
    have k38 := (hk 38 (by simp)).trans h38
    by_cases hj : j < 2
    · have hlt : (j : Int) < 2 := by omega
      obtain ⟨l0, l1, _, _⟩ := t.load he1
      -- the node of this round
      obtain ⟨nd, x, y, hnd, hld, hx, hy⟩ : ∃ nd x y, nd = [AVal.i .i64 (if j = 0 then 1 else 15), .i .i64 0, .s [], .i .i64 0, .i .u64 0, .nsl, x, y] ∧ aLoad H1 (sptr 8 nodes j) 8 true = some (.agg nd) ∧ (x, y) = (if j = 0 then (.nsl, .nsl) else (kx, ky)) ∧ True := by
        rcases (show j = 0 ∨ j = 1 by omega) with rfl | rfl
        · exact ⟨_, .nsl, .nsl, rfl, l0, rfl, trivial⟩
        · exact ⟨_, kx, ky, rfl, l1, rfl, trivial⟩
      subst hnd
      have hst : aStore (H1.push (.row [.i .i64 0, .i .i64 0, .s [], .i .i64 0, .i .u64 0, .nsl, .nsl, .nsl] true)) (.p H1.nx 0) (.agg [AVal.i .i64 (if j = 0 then 1 else 15), .i .i64 0, .s [], .i .i64 0, .i .u64 0, .nsl, x, y]) 8 = some ((H1.push (.row [.i .i64 0, .i .i64 0, .s [], .i .i64 0, .i .u64 0, .nsl, .nsl, .nsl] true)).put H1.nx (.row [AVal.i .i64 (if j = 0 then 1 else 15), .i .i64 0, .s [], .i .i64 0, .i .u64 0, .nsl, x, y] true)) := by
        simp [aStore, AVal.cells?, splice]
      obtain ⟨H2, hH2⟩ : ∃ H2, H2 = ((H1.push (.row [.i .i64 0, .i .i64 0, .s [], .i .i64 0, .i .u64 0, .nsl, .nsl, .nsl] true)).put H1.nx (.row [AVal.i .i64 (if j = 0 then 1 else 15), .i .i64 0, .s [], .i .i64 0, .i .u64 0, .nsl, x, y] true)) := ⟨_, rfl⟩
      have hcp : H2.get H1.nx = some (.row [AVal.i .i64 (if j = 0 then 1 else 15), .i .i64 0, .s [], .i .i64 0, .i .u64 0, .nsl, x, y] true) := by rw [hH2, Heap.get_put, if_pos rfl]
      have he2 : Ex H1 H2 := by rw [hH2]; exact ((Ex.refl H1).push _).put (Nat.le_refl _) _
      have hn2 : H2.nx = H1.nx + 1 := by rw [hH2]; rfl
      have heA := he1.trans he2
      have r3 := he2.get q3 (by omega) _ p3
      have r4 := he2.get q4 (by omega) _ p4
      have rg := he2.get A.nx (by omega) _ hg1
      have hxi : Ints H2 x (if j = 0 then [] else [0]) ∧ Ints H2 y (if j = 0 then [] else [(n : Int)]) := by
        by_cases h0 : j = 0
        · simp only [h0, if_true, Prod.mk.injEq] at hx ⊢
          rw [hx.1, hx.2]; exact ⟨Sl.nil _ _ _, Sl.nil _ _ _⟩
        · simp only [h0, if_false, Prod.mk.injEq] at hx ⊢
          rw [hx.1, hx.2]; exact ⟨t.kx.ex heA, t.ky.ex heA⟩
      have hsx : sid x ≠ some q3 ∧ sid y ≠ some q4 := by
        by_cases h0 : j = 0
        · simp only [h0, if_true, Prod.mk.injEq] at hx
          rw [hx.1, hx.2]; simp [sid]
        · simp only [h0, if_false, Prod.mk.injEq] at hx
          rw [hx.1, hx.2]; exact ⟨t.kx.sid (by omega), t.ky.sid (by omega)⟩
      simp [l39_0, r39_5, r39_6, k37, k38, k39, hlt, sidx_at t.nl hj, hld, hst]
      rw [← hH2]
      have c62 : Call 62 [.agg [AVal.i .i64 (if j = 0 then 1 else 15), .i .i64 0, .s [], .i .i64 0, .i .u64 0, .nsl, x, y]] H2 fun v H' => H' = H2 ∧ v = .b true := by
        by_cases h0 : j = 0
        · simp only [h0, if_true, Prod.mk.injEq] at hx ⊢
          rw [hx.1, hx.2]; exact call62a
        · simp only [h0, if_false, Prod.mk.injEq] at hx ⊢
          rw [hx.1, hx.2]; exact call62b t.kx.len t.ky.len
      simp [r39_7, load_agg (o := 0) (n := 8) hcp]
      refine Call.is c62 ?_
      simp [kC, k3', load_row hcp]
      refine Call.mono (call63 (below := j) r3 (by simp [tmJ]; split <;> rfl) hxi.1 hsx.1 (by simp only [tmJ]; split <;> simp <;> omega) ?_ ?_ ?_) ?_
      · intro k hk
        by_cases h0 : j = 0
        · simp [h0] at hk
        · simp [h0] at hk; omega
      · intro u hu; simp only [tmJ] at hu; split at hu <;> simp at hu <;> omega
      · split <;> simp
      rintro v H3 _ ⟨rfl, t3⟩
      have ci : H3.get H1.nx = some (.row [AVal.i .i64 (if j = 0 then 1 else 15), .i .i64 0, .s [], .i .i64 0, .i .u64 0, .nsl, x, y] true) := by rw [t3.old _ (by omega)]; exact hcp
      have gi : H3.get A.nx = some (.row [nodes, types, .nsl] true) := by rw [t3.old _ (by omega)]; exact rg
      have q4i : H3.get q4 = some (.row ((tyJ n j).map (.i .i64)) true) := by rw [t3.old _ (by omega)]; exact r4
      have yi : Ints H3 y (if j = 0 then [] else [(n : Int)]) := by
        refine t3.sl hxi.2 ?_
        by_cases h0 : j = 0
        · simp only [h0, if_true, Prod.mk.injEq] at hx
          rw [hx.2]; simp [sid]
        · simp only [h0, if_false, Prod.mk.injEq] at hx
          rw [hx.2]; exact t.ky.sid (by omega)
      simp [kC, k4', load_row ci, load_row gi, k1, t.tl]
      have e1 : (n : Int) + 1 = ((n + 1 : Nat) : Int) := by simp
      rw [e1]
      refine Call.mono (call63 (below := n + 1) q4i (by simp only [tyJ]; split <;> simp) yi hsx.2 (by simp only [tyJ]; split <;> simp) ?_ ?_ ?_) ?_
      · intro k hk
        by_cases h0 : j = 0
        · simp [h0] at hk
        · simp [h0] at hk; omega
      · intro u hu; simp only [tyJ] at hu; split at hu <;> simp at hu <;> omega
      · split <;> simp
      rintro v H4 _ ⟨rfl, t4⟩
      simp [kC, r39_9, k39, k1, k3', k4', k37, k38, b_inc (show j < 4611686018427387904 by omega)]
      refine ⟨k - 1, by omega, ?_, ?_, ?_, ?_, j + 1, by omega, by simp, ?_, ?_⟩
      · intro s hs
        simp at hs
        rcases hs with rfl | rfl | rfl | rfl | rfl <;> simp [k1, k3', k4', k37, k38, h1, h3, h4, h37, h38]
      · exact t4.ex (t3.ex heA (by omega)) (by omega)
      · rw [t4.nx, t3.nx]; omega
      · rw [t4.old _ (by omega)]; exact gi
      · rw [t4.old _ (by omega), t3.at']
        rcases (show j = 0 ∨ j = 1 by omega) with rfl | rfl <;> rfl
      · rw [t4.at']
        rcases (show j = 0 ∨ j = 1 by omega) with rfl | rfl
        · rfl
        · simp [tyJ, incs]
    · have hlt : ¬ (j : Int) < 2 := by omega
      have hj2 : j = 2 := by omega
      subst hj2
      simp [l39_0, r39_5, k38, k39]
      refine hQ _ _ (fun s hs => ?_) he1 hnx hg1 p3 p4
      simp at hs
      rcases hs with rfl | rfl | rfl <;> simp [k1, k3', k4', h1, h3, h4]


theorem lp39_1 {A H : Heap} {T : Tm} {Q : Post} {nodes types kx ky ns kv : AVal} {h : Hd} {n : Nat} (t : Tree A nodes types kx ky ns kv h n) (he : Ex A H) (hn : n ≤ 100000) {q3 q4 : Nat} {k3 k4 : Option Nat} (g3 : A.nx < q3) (g4 : q3 < q4) (g5 : q4 < H.nx)
    (hnl : h.names.length < 2305843009213693952) (hms : ∀ s ∈ h.names, s.length < 4611686018427387904) (hd : h.names.Nodup) (h10 : (h.kind == 10) = false)
    (h1 : T.get 1 = some (.p A.nx 0)) (hg : H.get A.nx = some (.row [nodes, types, .nsl] true)) (h3 : T.get 3 = some (.sl q3 0 2 k3 1)) (h4 : T.get 4 = some (.sl q4 0 (n + 1) k4 1))
    (m3 : H.get q3 = some (.row ([(1 : Int), 0].map (.i .i64)) true)) (m4 : H.get q4 = some (.row ((List.replicate n (0 : Int) ++ [1]).map (.i .i64)) true)) (h67 : T.get 67 = some types) (h68 : T.get 68 = some (.i .i64 ((n : Int) + 1))) (h69 : T.get 69 = some (.i .i64 0))
    (hno : typB h = false → ∀ T' H', Ex A H' → T'.get 2 = some (.i .i64 14) → Q .ret T' H')
    (hQ : typB h = true → ∀ T' H', Keep [1, 3, 4] T T' → Ex A H' → H.nx ≤ H'.nx → H'.get A.nx = some (.row [nodes, types, .nsl] true) → H'.get q3 = some (.row ([(1 : Int), 0].map (.i .i64)) true) → H'.get q4 = some (.row ((List.replicate (n + 1) (1 : Int)).map (.i .i64)) true) → Q (.exit 2) T' H') :
    Loop l39_1 T H Q := by
  refine Loop.by (fun k T' H' => Keep [1, 3, 4, 67, 68] T T' ∧ Ex A H' ∧ H.nx ≤ H'.nx ∧ H'.get A.nx = some (.row [nodes, types, .nsl] true) ∧ H'.get q3 = some (.row ([(1 : Int), 0].map (.i .i64)) true) ∧ ∃ j : Nat, j + k = n + 1 ∧ T'.get 69 = some (.i .i64 (j : Int)) ∧
    H'.get q4 = some (.row ((if j = n + 1 then List.replicate (n + 1) (1 : Int) else List.replicate n (0 : Int) ++ [1]).map (.i .i64)) true) ∧ (j = n + 1 → typB h = true)) (n + 1) ?_ ?_
  · exact ⟨fun t _ => rfl, he, Nat.le_refl _, hg, m3, 0, by omega, h69, by rw [if_neg (by omega)]; exact m4, fun h => by omega⟩
  · rintro k T1 H1 ⟨hk, he1, hnx, hg1, p3, j, hjk, k69, p4, htb⟩
    have k1 := (hk 1 (by simp)).trans h1
    have k3' := (hk 3 (by simp)).trans h3
    have k4' := (hk 4 (by simp)).trans h4
    have k67 := (hk 67 (by simp)).trans h67
    have k68 := (hk 68 (by simp)).trans h68
    by_cases hj : j < n + 1
    · have hlt : (j : Int) < (n : Int) + 1 := by omega
      rw [if_neg (by omega)] at p4
      obtain ⟨_, _, l2, l3⟩ := t.load he1
      -- the type of this round
      obtain ⟨hd', ns', kv', hty, hld, hns, hkv, hB⟩ : ∃ (hd' : Hd) (ns' kv' : AVal), (hd'.names.length < 2305843009213693952 ∧ (∀ s ∈ hd'.names, s.length < 4611686018427387904) ∧ hd'.names.Nodup ∧ (hd'.kind == 10) = false) ∧ aLoad H1 (sptr 6 types j) 6 true = some (.agg (tyC hd' ns' kv')) ∧ Strs A ns' hd'.names ∧ Ints A kv' hd'.kids ∧ hd' = if j = n then h else intHd := by
        by_cases hjn : j = n
        · subst hjn
          exact ⟨h, ns, kv, ⟨hnl, hms, hd, h10⟩, l3, t.ns, by rw [t.hk]; exact t.kv, by simp⟩
        · exact ⟨intHd, .nsl, .nsl, ⟨by simp [intHd], by simp [intHd], by simp [intHd], by rfl⟩, l2 j (by omega), Sl.nil _ _ _, Sl.nil _ _ _, by simp [hjn]⟩
      obtain ⟨y1, y2, y3, y4⟩ := hty
      have hkl : hd'.kids.length ≤ 100000 := by
        rw [hB]; split
        · rw [t.hk]; simpa using hn
        · simp [intHd]
      have hst : aStore (H1.push (.row [.i .i64 0, .i .i64 0, .s [], .nsl, .nsl, .b false] true)) (.p H1.nx 0) (.agg (tyC hd' ns' kv')) 6 = some ((H1.push (.row [.i .i64 0, .i .i64 0, .s [], .nsl, .nsl, .b false] true)).put H1.nx (.row (tyC hd' ns' kv') true)) := by
        simp [aStore, AVal.cells?, splice, tyC]
      obtain ⟨H2, hH2⟩ : ∃ H2, H2 = ((H1.push (.row [.i .i64 0, .i .i64 0, .s [], .nsl, .nsl, .b false] true)).put H1.nx (.row (tyC hd' ns' kv') true)) := ⟨_, rfl⟩
      have hcp : H2.get H1.nx = some (.row (tyC hd' ns' kv') true) := by rw [hH2, Heap.get_put, if_pos rfl]
      have he2 : Ex H1 H2 := by rw [hH2]; exact ((Ex.refl H1).push _).put (Nat.le_refl _) _
      have hn2 : H2.nx = H1.nx + 1 := by rw [hH2]; rfl
      have heA := he1.trans he2
      have r3 := he2.get q3 (by omega) _ p3
      have r4 := he2.get q4 (by omega) _ p4
      have rg := he2.get A.nx (by omega) _ hg1
      simp [l39_1, r39_11, r39_12, k67, k68, k69, hlt, sidx_at t.tl hj, hld, hst]
      rw [← hH2]
      have ld6 : aLoad H2 (.p H1.nx 0) 6 true = some (.agg (tyC hd' ns' kv')) := by
        rw [load_agg (o := 0) (n := 6) hcp (by simp [tyC])]; simp [tyC]
      simp [r39_13, ld6]
      refine Call.is (call64 (hns.ex heA) (hkv.ex heA) y1 (by omega) y2 y3 y4) ?_
      cases hb : typB hd' with
      | false =>
        simp [kC, r39_14]
        refine hno ?_ _ _ heA (by simp)
        by_cases hjn : j = n
        · rw [if_pos hjn] at hB; rw [← hB]; exact hb
        · rw [if_neg hjn] at hB; rw [hB, typB_int] at hb; cases hb
      | true =>
        simp [kC, k4', load_row hcp, tyC]
        refine Call.mono (call63 (below := j) r4 (by simp) (hkv.ex heA) (hkv.sid (by omega)) (by simp; omega) ?_ ?_ (by omega)) ?_
        · intro x hx
          rw [hB] at hx
          by_cases hjn : j = n
          · rw [if_pos hjn, t.hk] at hx
            simp at hx
            obtain ⟨a, ha, rfl⟩ := hx
            omega
          · rw [if_neg hjn] at hx; simp [intHd] at hx
        · intro u hu
          simp at hu
          rcases hu with ⟨_, rfl⟩ | rfl <;> omega
        rintro v H3 _ ⟨rfl, t3⟩
        simp [kC, r39_15, k69, k1, k3', k4', k67, k68, b_inc (show j < 4611686018427387904 by omega)]
        refine ⟨k - 1, by omega, ?_, ?_, ?_, ?_, ?_, j + 1, by omega, by simp, ?_, ?_⟩
        · intro s hs
          simp at hs
          rcases hs with rfl | rfl | rfl | rfl | rfl <;> simp [k1, k3', k4', k67, k68, h1, h3, h4, h67, h68]
        · exact t3.ex heA (by omega)
        · rw [t3.nx]; omega
        · rw [t3.old _ (by omega)]; exact rg
        · rw [t3.old _ (by omega)]; exact r3
        · rw [t3.at']
          by_cases hjn : j = n
          · rw [if_pos hjn] at hB
            rw [if_pos (by omega), hB, t.hk, incs_range n n (Nat.le_refl _), Nat.sub_self]
            simp only [List.replicate_zero, List.append_nil, ← List.replicate_succ']
          · rw [if_neg hjn] at hB
            rw [if_neg (by omega), hB]
            simp [intHd, incs]
        · intro hjn
          rw [if_pos (by omega)] at hB
          rw [← hB]; exact hb
    · have hlt : ¬ (j : Int) < (n : Int) + 1 := by omega
      have hj2 : j = n + 1 := by omega
      rw [if_pos hj2] at p4
      simp [l39_1, r39_11, k68, k69, hlt]
      refine hQ (htb hj2) _ _ (fun s hs => ?_) he1 hnx hg1 p3 p4
      simp at hs
      rcases hs with rfl | rfl | rfl <;> simp [k1, k3', k4', h1, h3, h4]

theorem call39 {A : Heap} {nodes types kx ky ns kv : AVal} {h : Hd} {n : Nat} (t : Tree A nodes types kx ky ns kv h n) (hn : n < 60000)
    (hnl : h.names.length < 2305843009213693952) (hms : ∀ s ∈ h.names, s.length < 4611686018427387904) (hd : h.names.Nodup) (h10 : (h.kind == 10) = false) :
    Call 39 [.agg [nodes, types, .nsl]] A fun v H' => H' = A ∧ v = .i .i64 (if typB h then 0 else 14) := by
  refine Call.forget ?_
  refine Call.by (a := a39) rfl (by simp [a39]) ?_
  simp [a39, c39, r39_0, AVal.cells?]
  obtain ⟨H1, hH1⟩ : ∃ H1, H1 = A.push (.row [nodes, types, .nsl] true) := ⟨_, rfl⟩
  have hg : H1.get A.nx = some (.row [nodes, types, .nsl] true) := by rw [hH1]; simp
  have he : Ex A H1 := by rw [hH1]; exact (Ex.refl A).push _
  have hn1 : H1.nx = A.nx + 1 := by rw [hH1]; rfl
  rw [← hH1]
  have c1 : ¬ ((65536 : Int) < (n : Int) + 1) := by omega
  have c2 : (((n : Int) + 1) == 0) = false := by simp; omega
  have c3 := @mksl_int
  have e1 : (n : Int) + 1 = ((n + 1 : Nat) : Int) := by simp
  simp [r39_1, load_row hg, t.nl, t.tl, c1]
  have ms2 : ∀ T : Tm, T.get 30 = some (.i .i64 2) → aNew T (.mksl 1 8 [(.i .i64 0)] (.t 30) (.t 30)) = some (.row ([(0 : Int), 0].map (.i .i64)) true, fun i => .sl i 0 2 (some 2) 1) := by
    intro T hT
    exact mksl_int (n := 2) hT hT (by omega)
  have ms4 : ∀ T : Tm, T.get 34 = some (.i .i64 ((n : Int) + 1)) → aNew T (.mksl 1 8 [(.i .i64 0)] (.t 34) (.t 34)) = some (.row ((List.replicate n (0 : Int) ++ [0]).map (.i .i64)) true, fun i => .sl i 0 (n + 1) (some (n + 1)) 1) := by
    intro T hT
    rw [e1] at hT
    rw [mksl_int (T := T) (l := .t 34) (c := .t 34) (n := n + 1) hT hT (by omega), ← List.replicate_succ' (n := n)]
    simp
  obtain ⟨o2, ho2⟩ : ∃ o, o = AObj.row ([(0 : Int), 0].map (.i .i64)) true := ⟨_, rfl⟩
  obtain ⟨o4, ho4⟩ : ∃ o, o = AObj.row ((List.replicate n (0 : Int) ++ [0]).map (.i .i64)) true := ⟨_, rfl⟩
  rw [← ho2] at ms2
  rw [← ho4] at ms4
  have hgp : (H1.push o2).get A.nx = some (.row [nodes, types, .nsl] true) := by rw [get_push_old (by omega)]; exact hg
  simp [d39_3, load_row hg, t.nl, t.tl, ms2, load_row hgp, ms4]
  obtain ⟨H3, hH3⟩ : ∃ H3, H3 = (H1.push o2).push o4 := ⟨_, rfl⟩
  have hn3 : H3.nx = A.nx + 3 := by rw [hH3]; simp [hn1]
  have he3 : Ex A H3 := by rw [hH3]; exact (he.push _).push _
  have hg3 : H3.get A.nx = some (.row [nodes, types, .nsl] true) := by rw [hH3, get_push_old (by simp; omega)]; exact hgp
  have m3 : H3.get H1.nx = some o2 := by rw [hH3, get_push_old (by simp)]; simp
  have m4 : H3.get (H1.nx + 1) = some o4 := by rw [hH3]; exact get_push_nx _ _
  rw [← hH3]
  rw [ho2] at m3
  rw [ho4] at m4
  simp [r39_4, load_row hg3, t.nl]
  refine lp39_0 t he3 (by omega) (q3 := H1.nx) (q4 := H1.nx + 1) (by omega) (by omega) (by omega) (by simp) hg3 (by simp; rfl) (by simp; rfl) m3 m4 (by simp) (by simp) (by simp) fun T4 H4 hk4 he4 hn4 hg4 p3 p4 => ?_
  have a1 := hk4 1 (by simp)
  have a3 := hk4 3 (by simp)
  have a4 := hk4 4 (by simp)
  simp at a1 a3 a4
  simp [r39_10, a1, load_row hg4, t.tl]
  refine lp39_1 t he4 (by omega) (q3 := H1.nx) (q4 := H1.nx + 1) (by omega) (by omega) (by omega) hnl hms hd h10 (by simp [a1]) hg4 (by simp [a3]; rfl) (by simp [a4]; rfl) p3 p4 (by simp) (by simp) (by simp) (fun hb T5 H5 he5 h2 => ?_) (fun hb T5 H5 hk5 he5 hn5 hg5 r3 r4 => ?_)
  · simp [h2, hb]
    exact ⟨he5, rfl⟩
  · have b1 := hk5 1 (by simp)
    have b3 := hk5 3 (by simp)
    have b4 := hk5 4 (by simp)
    simp [a1, a3, a4] at b1 b3 b4
    simp [r39_16, b1, load_row hg5]
    refine Loop.by (fun k T' H' => H' = H5 ∧ T'.get 3 = some (.sl H1.nx 0 2 (some 2) 1) ∧ T'.get 4 = some (.sl (H1.nx + 1) 0 (n + 1) (some (n + 1)) 1) ∧ T'.get 88 = some (.i .i64 0) ∧ T'.get 89 = some (.i .i64 0)) 0 ?_ ?_
    · exact ⟨rfl, by simp [b3], by simp [b4], by simp, by simp⟩
    · rintro k T6 H6 ⟨rfl, d3, d4, d88, d89⟩
      simp [l39_2, r39_17, d88, d89]
      have hs := b_sub (a := 2) (b := 1) ⟨by omega, by omega⟩
      rw [show (2 : Int) - 1 = 1 by rfl] at hs
      have i1 : sidx 1 (.sl H1.nx 0 2 (some 2) 1) (.i .i64 1) = some (.p H1.nx 1) := rfl
      have hadd := b_add (a := 0) (b := 1) ⟨by omega, by omega⟩
      rw [show (0 : Int) + 1 = 1 by rfl] at hadd
      have hst : aStore H6 (.p H1.nx 1) (.i .i64 1) 1 = some (H6.put H1.nx (.row ([(1 : Int), 1].map (.i .i64)) true)) := by
        simp [aStore, AVal.cells?, r3, splice]
      simp [r39_22, d3, d4, hs, i1, load_row r3, hadd, hst]
      obtain ⟨H7, hH7⟩ : ∃ H7, H7 = H6.put H1.nx (.row ([(1 : Int), 1].map (.i .i64)) true) := ⟨_, rfl⟩
      have he7 : Ex A H7 := by rw [hH7]; exact he5.put (by omega) _
      have s3 : H7.get H1.nx = some (.row ([(1 : Int), 1].map (.i .i64)) true) := by rw [hH7, Heap.get_put, if_pos rfl]
      have s4 : H7.get (H1.nx + 1) = some (.row ((List.replicate (n + 1) (1 : Int)).map (.i .i64)) true) := by rw [hH7, Heap.get_put, if_neg (by omega)]; exact r4
      have hH7' : H6.put H1.nx (.row [.i .i64 1, .i .i64 1] true) = H7 := by rw [hH7]; rfl
      rw [hH7']
      have hn7 : H7.nx = H6.nx := by rw [hH7]; rfl
      simp [r39_23, r39_24, d3, d4]
      refine Call.is (call67 (l := [1, 1]) (p := fun x => x != 1) (Sl.all s3 (by omega) (by simp)) (by simp) fun x _ => call66) ?_
      simp [kC, d4]
      refine Call.is (call67 (l := List.replicate (n + 1) 1) (p := fun x => x != 1) (Sl.all s4 (by omega) (by simp)) (by simp; omega) fun x _ => call66) ?_
      simp [kC, r39_26, hb]
      exact ⟨he7, rfl⟩

end
end K
end Go.Proofs.YtlgbgbngdhhjaaaGreatDoor
