/- Go's data in the abstract memory: slices, heads, graphs. No condition. -/
import Derived.Test.YtlgbgbngdhhjaaaGreatDoorB16
set_option linter.unusedSimpArgs false
set_option linter.unusedVariables false
namespace Go.Proofs.YtlgbgbngdhhjaaaGreatDoor
namespace K
noncomputable section
open Go AM

/-- Its object lies below a bound, its elements are so long. -/
def slin (n es : Nat) : AVal → Prop
  | .nsl => True
  | .sl i _ _ _ e => i < n ∧ e = es
  | _ => False

/-- A slice of such elements. -/
structure Sl (H : Heap) (es : Nat) (agg : Bool) (v : AVal) (l : List AVal) : Prop where
  len : slen v = some l.length
  ins : slin H.nx es v
  at' : ∀ j x, l[j]? = some x → aLoad H (sptr es v j) es agg = some x

theorem load_ex {H H' : Heap} (he : Ex H H') {i o n : Nat} {b : Bool} {x : AVal} (hi : i < H.nx) (h : aLoad H (.p i o) n b = some x) : aLoad H' (.p i o) n b = some x := by
  unfold aLoad at h ⊢
  simp only at h ⊢
  cases hg : H.get i with
  | none => rw [hg] at h; simp at h
  | some ob => rw [hg] at h; rw [he.get _ hi _ hg]; exact h

theorem slin_le {n m es : Nat} (h : n ≤ m) {v : AVal} (hv : slin n es v) : slin m es v := by
  cases v <;> simp only [slin] at hv ⊢
  exact ⟨by omega, hv.2⟩

theorem Sl.ex {H H' : Heap} (he : Ex H H') {es : Nat} {agg : Bool} {v : AVal} {l : List AVal} (h : Sl H es agg v l) : Sl H' es agg v l := by
  refine ⟨h.len, slin_le he.nx h.ins, fun j x hx => ?_⟩
  have h1 := h.at' j x hx
  have h2 := h.ins
  have hlen := h.len
  cases v <;> simp only [slin] at h2
  · simp at hlen
    have := (List.getElem?_eq_some_iff.1 hx).1
    omega
  · exact load_ex he h2.1 h1

theorem Sl.inB {H : Heap} {es : Nat} {agg : Bool} {v : AVal} {l : List AVal} (h : Sl H es agg v l) : inB H.nx v = true := by
  have h2 := h.ins
  cases v <;> simp only [slin] at h2 <;> simp [AM.inB, h2]

theorem Sl.nil (H : Heap) (es : Nat) (agg : Bool) : Sl H es agg .nsl [] := ⟨rfl, trivial, fun j x hx => by simp at hx⟩

abbrev Strs (H : Heap) (v : AVal) (l : List (List Nat)) : Prop := Sl H 1 false v (l.map .s)
abbrev Ints (H : Heap) (v : AVal) (l : List Int) : Prop := Sl H 1 false v (l.map (.i .i64))
abbrev Bools (H : Heap) (v : AVal) (l : List Bool) : Prop := Sl H 1 false v (l.map .b)

theorem Sl.slen {H : Heap} {es : Nat} {agg : Bool} {v : AVal} {l : List AVal} {n : Nat} (h : Sl H es agg v l) (hn : l.length = n) : slen v = some n := hn ▸ h.len
theorem Sl.len' {α : Type} {f : α → AVal} {H : Heap} {es : Nat} {agg : Bool} {v : AVal} {l : List α} (h : Sl H es agg v (l.map f)) : AM.slen v = some l.length := h.slen (by simp)
theorem Sl.get {α : Type} {f : α → AVal} {H : Heap} {es : Nat} {agg : Bool} {v : AVal} {l : List α} (h : Sl H es agg v (l.map f)) {j : Nat} {x : α} (hx : l[j]? = some x) : aLoad H (sptr es v j) es agg = some (f x) := h.at' j _ (by simp [hx])

/-- A head's cells. -/
def HdOf (H : Heap) (c : List AVal) (h : Hd) : Prop := ∃ ns ks, c = [.i .i64 h.kind, ns, ks, .b h.opn] ∧ Strs H ns h.names ∧ Ints H ks h.kids

theorem HdOf.ex {H H' : Heap} (he : Ex H H') {c : List AVal} {h : Hd} (k : HdOf H c h) : HdOf H' c h := by
  obtain ⟨ns, ks, h1, h2, h3⟩ := k
  exact ⟨ns, ks, h1, h2.ex he, h3.ex he⟩

/-- A slice of heads. -/
structure Hds (H : Heap) (v : AVal) (l : List Hd) : Prop where
  len : slen v = some l.length
  ins : slin H.nx 4 v
  at' : ∀ j h, l[j]? = some h → ∃ c, aLoad H (sptr 4 v j) 4 true = some (.agg c) ∧ HdOf H c h

theorem Hds.ex {H H' : Heap} (he : Ex H H') {v : AVal} {l : List Hd} (h : Hds H v l) : Hds H' v l := by
  refine ⟨h.len, slin_le he.nx h.ins, fun j x hx => ?_⟩
  obtain ⟨c, h1, h3⟩ := h.at' j x hx
  refine ⟨c, ?_, h3.ex he⟩
  have h2 := h.ins
  have hlen := h.len
  cases v <;> simp only [slin] at h2
  · simp at hlen
    have := (List.getElem?_eq_some_iff.1 hx).1
    omega
  · exact load_ex he h2.1 h1

theorem load_fld {H : Heap} {i o n f : Nat} {cs : List AVal} (h : aLoad H (.p i o) n true = some (.agg cs)) (hf : f < n) : aLoad H (.p i (o + f)) 1 false = cs[f]? := by
  unfold aLoad at h ⊢
  simp only at h ⊢
  split at h <;> (try simp only [reduceCtorEq] at h)
  rename_i cs' own hg
  simp only [if_true] at h
  split at h <;> (try simp only [reduceCtorEq] at h)
  simp only [Option.some.injEq, AVal.agg.injEq] at h
  subst h
  simp [List.getElem?_take, hf]

/-- A graph. -/
structure Gr where
  l : List Hd
  root : Int
def GrOf (H : Heap) (v : AVal) (g : Gr) : Prop := ∃ l, v = .agg [l, .i .i64 g.root] ∧ Hds H l g.l
theorem GrOf.ex {H H' : Heap} (he : Ex H H') {v : AVal} {g : Gr} (h : GrOf H v g) : GrOf H' v g := by
  obtain ⟨l, h1, h2⟩ := h; exact ⟨l, h1, h2.ex he⟩

/-- Memories that come of one by operations: the usual steps. -/
@[simp] theorem nx_push' (H : Heap) (o : AObj) : (H.push o).nx = H.nx + 1 := nr rfl
@[simp] theorem nx_put' (H : Heap) (i : Nat) (o : AObj) : (H.put i o).nx = H.nx := nr rfl

end
end K
end Go.Proofs.YtlgbgbngdhhjaaaGreatDoor
