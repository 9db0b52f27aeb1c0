/- Regions, code, functions, calls of the abstract machine, and that the model does alike. No condition. -/
import Derived.Test.YtlgbgbngdhhjaaaGreatDoorB01
import Derived.LoopN
import Derived.Defers
set_option linter.unusedSimpArgs false
set_option linter.unusedVariables false
namespace Go.Proofs.YtlgbgbngdhhjaaaGreatDoor
namespace AM
noncomputable section
open Go

theorem alloc_old (w : World) (o : Obj) (i : Nat) (h : i < w.heap.size) : (w.alloc o).heap[i]? = w.heap[i]? := by
  show (w.heap.push o)[i]? = w.heap[i]?
  rw [Array.getElem?_push, if_neg (Nat.ne_of_lt h)]

theorem WRel.congrW {K : Kept} {θ : Th} {H : Heap} {w w' : World} (h : WRel K θ H w) (h1 : w'.os = w.os ∧ w'.tape = w.tape ∧ w'.output = w.output) (hb : ∀ b : Nat, w'.heap[b]? = w.heap[b]?) : WRel K θ H w' := by
  refine ⟨h1.1.trans h.os, h1.2.1.trans h.tape, h1.2.2.trans h.output, h.good, fun b o hk => by rw [hb]; exact h.kept b o hk, h.fresh, fun i l hi => ?_, h.own⟩
  obtain ⟨q1, q2⟩ := h.obj i l hi
  have : w'.heap[l.b]? = some w.heap[l.b] := by rw [hb]; exact Array.getElem?_eq_getElem q1
  exact ⟨(Array.getElem?_eq_some_iff.1 this).1, fun o ho => by rw [hb]; exact q2 o ho⟩

/-- What comes of an operation that turns the world. -/
def Turns (P : Program) (s : Sem Next) (K : Kept) (θ : Th) (n : Nat) (v : AVal) (H' : Heap) (w : World) : Prop :=
  ∃ θ' u w', θ.Up n θ' ∧ ((s.run P w = .ok (.value u) w') ∨ (s.run P w = .ok .skip w' ∧ u = undef)) ∧ VRel θ' v u ∧ WRel K θ' H' w'

theorem stb_sound {P : Program} {K : Kept} {θ : Th} {H H' : Heap} {w : World} (hw : WRel K θ H w) {src dst e : TypeId} {sd : TypeDesc} (hs : P.underlying src = some sd) (hd : P.underlying dst = some (.slice e)) (he : P.underlying e = some (.int .u8))
    {x v : AVal} {ux : Value} (hx : VRel θ x ux) (h : aStb H x = some (v, H')) : ∃ θ' uv w', θ.Up H.nx θ' ∧ (convert src dst ux).run P w = .ok uv w' ∧ VRel θ' v uv ∧ WRel K θ' H' w' := by
  unfold aStb at h
  split at h <;> (try simp only [reduceCtorEq] at h)
  rename_i l
  split at h <;> (try simp only [Option.some.injEq, Prod.mk.injEq, reduceCtorEq] at h)
  rename_i hlen
  obtain ⟨rfl, rfl⟩ := h
  simp only [VRel] at hx
  obtain ⟨s, rfl, rfl⟩ := hx
  have hsl : (s.data.toList.map UInt8.toNat).length = s.size := strNats_length s
  have hrun := Lib.run_convert_string_bytes (P := P) w src dst e s hs hd he
  have hge := grownCap_ge w s.size 0 e
  have hcs : (Lib.bytesCells w e s).size = grownCap w s.size 0 e := by
    simp [Lib.bytesCells]
    have : s.data.size = s.size := rfl
    omega
  refine ⟨θ.ext H.nx ⟨w.heap.size, 0, grownCap w s.size 0 e⟩, _, _, Th.ext_up hw _, hrun, ?_, ?_⟩
  · simp only [VRel, hsl]
    exact ⟨_, _, _, Th.ext_same _ _ _, rfl, hge, by simp, (fun k' hk' => nomatch hk'), fun _ => rfl⟩
  · have hp : WRel K (θ.ext H.nx ⟨w.heap.size, 0, grownCap w s.size 0 e⟩) (H.push (.row ((s.data.toList.map UInt8.toNat).map fun (c : Nat) => .i .u8 (Int.ofNat c)) false)) (w.drew.alloc (.cells (Lib.bytesCells w e s) e ((Lib.bytesCells w e s).size, (Lib.bytesCells w e s).size + 1))) := by
      refine (show WRel K θ H w.drew from hw.drew _).push (l := ⟨w.heap.size, 0, grownCap w s.size 0 e⟩) rfl ?_
      refine ⟨_, e, _, rfl, hcs.symm, by rw [hcs]; simp; omega, fun j x hj => ?_, fun hf => by cases hf⟩
      simp only [List.getElem?_map, Option.map_map, Option.map_eq_some_iff] at hj
      obtain ⟨b, hb, rfl⟩ := hj
      have hjl : j < s.size := by
        have := (List.getElem?_eq_some_iff.1 hb).1
        simpa using this
      refine ⟨.int .u8 b.toNat, ?_, by simp [VRel], rfl⟩
      have h0 := Lib.bytesWorld_cell w e s j hjl
      simp only [World.cell?, Lib.bytesWorld_at_new] at h0
      simp only [Nat.zero_add]
      have : s.data.toList.getD j 0 = b := by simp [List.getD_eq_getElem?_getD, hb]
      rw [this] at h0
      simpa using h0
    refine hp.congrW ⟨?_, ?_, ?_⟩ (fun b => ?_)
    · simp [Lib.bytesWorld, World.freeze, World.alloc, World.drew, -World.alloc_eq, -World.drew_eq]
    · simp [Lib.bytesWorld, World.freeze, World.alloc, World.drew, -World.alloc_eq, -World.drew_eq]
    · simp [Lib.bytesWorld, World.freeze, World.alloc, World.drew, -World.alloc_eq, -World.drew_eq]
    · rcases Nat.lt_trichotomy b w.heap.size with hb | hb | hb
      · rw [Lib.bytesWorld_at_old w e s b hb, alloc_old w.drew _ b hb]; rfl
      · subst hb
        rw [Lib.bytesWorld_at_new]
        show _ = (w.heap.push _)[w.heap.size]?
        simp
      · rw [Array.getElem?_eq_none (by rw [Lib.bytesWorld_size]; omega), Array.getElem?_eq_none (by rw [World.size_alloc, World.size_drew]; omega)]

theorem clr_sound {P : Program} {K : Kept} {θ : Th} {H H' : Heap} {w : World} (hw : WRel K θ H w) {t ty e : TypeId} {i : TypeInfo} {z : List AVal} (ht : P.underlying t = some (.slice e)) (hi : P.info? e = some i) (hz : cZero P e = some z)
    {x : AVal} {ux : Value} (hx : VRel θ x ux) (h : aClr H i.size z x = some H') : ∃ w', (Builtin.clear_ #[t] ty #[ux]).run P w = .ok (.tuple #[]) w' ∧ WRel K θ H' w' := by
  unfold aClr at h
  split at h <;> (try simp only [reduceCtorEq] at h)
  · simp only [Option.some.injEq] at h; subst h
    simp only [VRel] at hx; subst hx
    exact ⟨w, by simp [Builtin.clear_, run_underlying ht], hw⟩
  · rename_i id o n k e'
    simp only [VRel] at hx
    obtain ⟨l, a, c, hl, rfl, hnc, hsz, hk, ha⟩ := hx
    split at h
    · rename_i hn
      subst hn
      simp only [Option.some.injEq] at h; subst h
      exact ⟨w, by simp [Builtin.clear_, run_underlying ht], hw⟩
    · rename_i hn
      split at h <;> (try simp only [reduceCtorEq] at h)
      rename_i hez
      obtain ⟨rfl, hzl⟩ := hez
      split at h <;> (try simp only [reduceCtorEq] at h)
      rename_i cs hg
      split at h <;> (try simp only [Option.some.injEq, reduceCtorEq] at h)
      rename_i hlen
      subst h
      have had := ha (by omega)
      subst had
      simp only [cZero, Option.bind_eq_some_iff] at hz
      obtain ⟨zv, hz1, hz2⟩ := hz
      obtain ⟨r1, r2⟩ := absCs_rel θ hz2
      have hzs : zv.cells.size = i.size := by rw [← hzl, r1.length, Array.length_toList]
      have hbase : VRels θ ((List.range (n * i.size)).map fun j => z.getD (j % i.size) .ni) (Builtin.zeroCells zv.cells n).toList ∧ ∀ u ∈ (Builtin.zeroCells zv.cells n).toList, u.oneCell' = true := by
        unfold Builtin.zeroCells
        rw [hzs]
        by_cases h0 : i.size = 0
        · simp [h0, VRels]
        · have := range_rel r1 (n * i.size) (by omega)
          rw [hzl, hzs] at this
          exact ⟨this.1, fun u hu => r2 u (this.2 u hu)⟩
      obtain ⟨w', e1, e2, _⟩ := hw.setCells hl hg (o := o) hbase.1 hbase.2 (by simp; omega) P
      refine ⟨w', ?_, e2⟩
      obtain ⟨m, rfl⟩ : ∃ m, n = m + 1 := ⟨n - 1, by omega⟩
      simp [Builtin.clear_, run_underlying ht, run_zero? hz1, e1]

theorem aEff_sound {P : Program} {K : Kept} {θ : Th} {N : Nat} {T : Tm} {H H' : Heap} {a : Act} {o : Oper} {ao : AOp} {v : AVal} {w : World} (hc : cEff P o.op = some ao) (hT : ARel θ N T a) (hw : WRel K θ H w) (h : aEff T H ao = some (v, H')) :
    Turns P (execOp a.eval o) K θ H.nx v H' w := by
  obtain ⟨dst, op, ty, pos, aft, gd⟩ := o
  simp only at hc
  have updCase : ∀ (t : TypeId) (m k x : Operand) (o : Oper), (execOp a.eval o = (do Instr.mapUpdate t (a.eval m) (a.eval k) (a.eval x); pure .skip)) → (match cOpd m, cOpd k, cOpd x, P.underlying t with
    | some m, some k, some v, some (.map kt _) => (keyKOf P kt).map fun kk => AOp.upd kk m k v
    | _, _, _, _ => none) = some ao → Turns P (execOp a.eval o) K θ H.nx v H' w := by
    intro t m k x o ho hc
    split at hc <;> (try simp only [Option.map_eq_some_iff, reduceCtorEq] at hc)
    rename_i m' k' v' kt et hm hk hv hu
    obtain ⟨kk, hkk, rfl⟩ := hc
    simp only [aEff] at h
    split at h <;> (try simp only [Option.map_eq_some_iff, Prod.mk.injEq, reduceCtorEq] at h)
    rename_i mv kv xv hmv hkv hxv
    obtain ⟨H2, hup, rfl, rfl⟩ := h
    obtain ⟨w', e1, e2⟩ := upd_sound hw hu hkk (hT.ev hm hmv) (hT.ev hk hkv) (hT.ev hv hxv) hup
    refine ⟨θ, undef, w', Th.Up.refl _ _, .inr ⟨?_, rfl⟩, undef_rel θ, e2⟩
    rw [ho, Sem.run_bind, e1]; rfl
  cases op with
  | store t x y =>
    simp only [cEff] at hc
    split at hc <;> (try simp only [Option.some.injEq, reduceCtorEq] at hc)
    rename_i x' y' n hx hy hn
    subst hc
    simp only [aEff] at h
    split at h <;> (try simp only [Option.map_eq_some_iff, Prod.mk.injEq, reduceCtorEq] at h)
    rename_i xv yv hxv hyv
    obtain ⟨H2, hst, rfl, rfl⟩ := h
    obtain ⟨w', e1, e2⟩ := store_sound hw hn (hT.ev hx hxv) (hT.ev hy hyv) hst
    refine ⟨θ, undef, w', Th.Up.refl _ _, .inr ⟨?_, rfl⟩, undef_rel θ, e2⟩
    simp only [execOp]
    rw [Sem.run_bind, e1]; rfl
  | mapUpdate t m k x => exact updCase t m k x _ rfl hc
  | insert t m k x => exact updCase t m k x _ rfl hc
  | convert s d x =>
    simp only [cEff] at hc
    split at hc <;> (try simp only [reduceCtorEq] at hc)
    rename_i x' e hx hs hd
    split at hc <;> (try simp only [Option.some.injEq, reduceCtorEq] at hc)
    rename_i he
    subst hc
    simp only [aEff] at h
    split at h <;> (try simp only [reduceCtorEq] at h)
    rename_i xv hxv
    obtain ⟨θ', uv, w', q1, q2, q3, q4⟩ := stb_sound hw hs hd he (hT.ev hx hxv) h
    refine ⟨θ', uv, w', q1, .inl ?_, q3, q4⟩
    simp only [execOp]
    rw [Sem.run_bind, q2]; rfl
  | call c =>
    obtain ⟨callee, args, ts⟩ := c
    cases callee <;> (try (simp [cEff] at hc; done))
    rename_i bi
    cases bi <;> (try (simp [cEff] at hc; done))
    · simp only [cEff] at hc
      split at hc <;> (try simp only [reduceCtorEq] at hc)
      rename_i s x t u hx ht
      have hargs : args = #[s, x] := by rw [← Array.toArray_toList (xs := args), hx]
      have hts : ts = #[t, u] := by rw [← Array.toArray_toList (xs := ts), ht]
      subst hargs hts
      have main : ∀ e, P.underlying t = some (.slice e) → AppT P u → (match P.info? e, cZero P e, cOpd s, cOpd x with
        | some i, some z, some s, some x => if z.length = i.size ∧ 0 < i.size then some (AOp.app i.size i.bytes s x) else none
        | _, _, _, _ => none) = some ao → Turns P (execOp a.eval { dst := dst, op := .call { callee := .builtin .append, args := #[s, x], argTypes := #[t, u] }, type := ty, pos := pos, after := aft, guard := gd }) K θ H.nx v H' w := by
        intro e hte hu hc
        split at hc <;> (try simp only [reduceCtorEq] at hc)
        rename_i i z s' x' hi hz hs hx'
        split at hc <;> (try simp only [Option.some.injEq, reduceCtorEq] at hc)
        rename_i hzl
        subst hc
        simp only [aEff] at h
        split at h <;> (try simp only [reduceCtorEq] at h)
        rename_i sv xv hsv hxv
        obtain ⟨θ', uv, w', q1, q2, q3, q4⟩ := app_sound (ty := ty) hw hte hu hi hz hzl.1 hzl.2 (hT.ev hs hsv) (hT.ev hx' hxv) h
        refine ⟨θ', uv, w', q1, .inl ?_, q3, q4⟩
        simp [execOp, resolve, invoke, builtin, q2]
      split at hc <;> (try simp only [reduceCtorEq] at hc)
      · rename_i e e' hte hue
        exact main e hte (.inl ⟨e', hue⟩) hc
      · rename_i e hte hue
        exact main e hte (.inr hue) hc
    · simp only [cEff] at hc
      split at hc <;> (try simp only [reduceCtorEq] at hc)
      rename_i x t hx ht
      have hargs : args = #[x] := by rw [← Array.toArray_toList (xs := args), hx]
      have hts : ts = #[t] := by rw [← Array.toArray_toList (xs := ts), ht]
      subst hargs hts
      split at hc <;> (try simp only [reduceCtorEq] at hc)
      rename_i e hte
      split at hc <;> (try simp only [Option.some.injEq, reduceCtorEq] at hc)
      rename_i i z x' hi hz hx'
      subst hc
      simp only [aEff] at h
      split at h <;> (try simp only [Option.map_eq_some_iff, Prod.mk.injEq, reduceCtorEq] at h)
      rename_i xv hxv
      obtain ⟨H2, hcl, rfl, rfl⟩ := h
      obtain ⟨w', e1, e2⟩ := clr_sound (ty := ty) hw hte hi hz (hT.ev hx' hxv) hcl
      refine ⟨θ, .tuple #[], w', Th.Up.refl _ _, .inl ?_, undef_rel θ, e2⟩
      simp [execOp, resolve, invoke, builtin, e1]
  | _ => simp [cEff] at hc

theorem aEff_nx {T : Tm} {H H' : Heap} {ao : AOp} {v : AVal} (h : aEff T H ao = some (v, H')) : H.nx ≤ H'.nx := by
  unfold aEff at h
  split at h <;> (try simp only [reduceCtorEq] at h)
  · split at h <;> (try simp only [Option.map_eq_some_iff, Prod.mk.injEq, reduceCtorEq] at h)
    obtain ⟨H2, h, _, rfl⟩ := h
    unfold aStore at h
    (repeat' split at h) <;> (try simp only [Option.some.injEq, reduceCtorEq] at h)
    subst h; exact Nat.le_refl _
  · split at h <;> (try simp only [reduceCtorEq] at h)
    unfold aApp at h
    (repeat' split at h) <;> (try simp only [Option.some.injEq, Prod.mk.injEq, reduceCtorEq] at h) <;> obtain ⟨_, rfl⟩ := h <;> simp [Heap.nx_push, Heap.nx_put]
  · split at h <;> (try simp only [Option.map_eq_some_iff, Prod.mk.injEq, reduceCtorEq] at h)
    obtain ⟨H2, h, _, rfl⟩ := h
    unfold aUpd at h
    (repeat' split at h) <;> (try simp only [Option.some.injEq, reduceCtorEq] at h) <;> subst h <;> exact Nat.le_refl _
  · split at h <;> (try simp only [reduceCtorEq] at h)
    unfold aStb at h
    (repeat' split at h) <;> (try simp only [Option.some.injEq, Prod.mk.injEq, reduceCtorEq] at h)
    obtain ⟨_, rfl⟩ := h
    simp [Heap.nx_push]
  · split at h <;> (try simp only [Option.map_eq_some_iff, Prod.mk.injEq, reduceCtorEq] at h)
    obtain ⟨H2, h, _, rfl⟩ := h
    unfold aClr at h
    (repeat' split at h) <;> (try simp only [Option.some.injEq, reduceCtorEq] at h) <;> subst h <;> exact Nat.le_refl _

end
end AM
end Go.Proofs.YtlgbgbngdhhjaaaGreatDoor

set_option linter.unusedSimpArgs false
set_option linter.unusedVariables false
namespace Go.Proofs.YtlgbgbngdhhjaaaGreatDoor
namespace AM
noncomputable section
open Go

inductive AIn where
  | pure (o : AOp)
  | read (o : AOp)
  | new (o : AOp)
  | eff (o : AOp)
  | call (f : FuncId) (args : List AOpd)
  | callv (x : AOpd) (args : List AOpd)
  | inv (x : AOpd) (tbl : List (TypeId × FuncId)) (args : List AOpd)
  | dfr (f : FuncId) (args : List AOpd)
  | dfrv (x : AOpd) (args : List AOpd)

abbrev CallF := FuncId → List AVal → Heap → Option (AVal × Heap)

structure StepR where
  v : AVal
  H : Heap
  D : List (FuncId × List AVal)

def look (t : TypeId) : List (TypeId × FuncId) → Option FuncId
  | [] => none
  | (u, f) :: r => if u = t then some f else look t r

def stepIn (call : CallF) (T : Tm) (H : Heap) : AIn → Option StepR
  | .pure o => match aPure T o with
    | some v => some ⟨v, H, []⟩
    | none => none
  | .read o => match aRead T H o with
    | some v => some ⟨v, H, []⟩
    | none => none
  | .new o => match aNew T o with
    | some (ob, mk) => some ⟨mk H.nx, H.push ob, []⟩
    | none => none
  | .eff o => match aEff T H o with
    | some (v, H) => some ⟨v, H, []⟩
    | none => none
  | .call f args => match evs T args with
    | some vs => match call f vs H with
      | some (v, H) => some ⟨v, H, []⟩
      | none => none
    | none => none
  | .callv x args => match ev T x, evs T args with
    | some (.f f caps), some vs => match call f (vs ++ caps) H with
      | some (v, H) => some ⟨v, H, []⟩
      | none => none
    | _, _ => none
  | .inv x tbl args => match ev T x, evs T args with
    | some (.ifc t v), some vs => match look t tbl with
      | some f => match call f (v :: vs) H with
        | some (v, H) => some ⟨v, H, []⟩
        | none => none
      | none => none
    | _, _ => none
  | .dfr f args => match evs T args with
    | some vs => some ⟨.tup [], H, [(f, vs)]⟩
    | none => none
  | .dfrv x args => match ev T x, evs T args with
    | some (.f f caps), some vs => some ⟨.tup [], H, [(f, vs ++ caps)]⟩
    | _, _ => none

/-- Does a type have a method of a value, that is a function? -/
def methOk (P : Program) (name : String) (p : TypeId × FuncId) : Bool :=
  match P.info? p.1 with
  | some i => (match i.methods.find? (·.name == name) with
    | some m => m.path.toList.isEmpty && (match m.func with | some (f, false) => f == p.2 | _ => false)
    | none => false) && (match P.underlying p.1 with | some (.pointer _) => false | some _ => true | none => false)
  | none => false

def cIn (P : Program) (tbl : String → List (TypeId × FuncId)) (o : Op) : Option AIn :=
  match cPure P o with
  | some a => some (.pure a)
  | none => match cRead P o with
    | some a => some (.read a)
    | none => match cNew P o with
      | some a => some (.new a)
      | none => match cEff P o with
        | some a => some (.eff a)
        | none => match o with
          | .call { callee := .value (.func f), args := xs, argTypes := _ } => (cOpds xs.toList).map (.call f)
          | .call { callee := .value x, args := xs, argTypes := _ } => match cOpd x, cOpds xs.toList with
            | some x, some xs => some (.callv x xs)
            | _, _ => none
          | .call { callee := .invoke r name, args := xs, argTypes := _ } => match cOpd r, cOpds xs.toList with
            | some r, some xs => if (tbl name).all (methOk P name) then some (.inv r (tbl name) xs) else none
            | _, _ => none
          | .defer { callee := .value (.func f), args := xs, argTypes := _ } => (cOpds xs.toList).map (.dfr f)
          | .defer { callee := .value (.tmp t), args := xs, argTypes := _ } => (cOpds xs.toList).map (.dfrv (.t t))
          | _ => none

def DRel (θ : Th) : List (FuncId × List AVal) → List Deferred → Prop
  | [], ds => ds = []
  | x :: xs, ds => ∃ us cs ds', ds = { target := .fn (.func x.1) cs, args := us } :: ds' ∧ VRels θ x.2 (us.toList ++ cs.toList) ∧ DRel θ xs ds'

theorem DRel.mono {θ θ' : Th} (h : θ.Le θ') : ∀ {D : List (FuncId × List AVal)} {ds : List Deferred}, DRel θ D ds → DRel θ' D ds
  | [], _, r => r
  | x :: xs, _, r => by
    obtain ⟨us, cs, ds', h1, h2, h3⟩ := r
    exact ⟨us, cs, ds', h1, VRels.mono h _ _ h2, DRel.mono h h3⟩

theorem DRel.append {θ : Th} : ∀ {D D' : List (FuncId × List AVal)} {ds ds' : List Deferred}, DRel θ D ds → DRel θ D' ds' → DRel θ (D ++ D') (ds ++ ds')
  | [], D', ds, ds', h, h' => by simp only [DRel] at h; subst h; simpa using h'
  | x :: xs, D', ds, ds', h, h' => by
    obtain ⟨us, cs, ds1, rfl, h2, h3⟩ := h
    exact ⟨us, cs, ds1 ++ ds', rfl, h2, h3.append h'⟩

/-- The function can be entered. -/
def FnOk (P : Program) (f : FuncId) : Prop := ∃ fn c, P.funcs[f]? = some fn ∧ fn.name ≠ "runtime.NumGoroutine" ∧ fn.body = some c

theorem run_callFunc {P : Program} {f : FuncId} (h : FnOk P f) (args : Array Value) (w : World) : (callFunc f args).run P w = .ok (.enter f args) w := by
  obtain ⟨fn, c, h1, h2, h3⟩ := h
  simp [callFunc, h1, h2, h3]

/-- What a call comes to. -/
def CallsA (P : Program) (f : FuncId) (args : List AVal) (H : Heap) (v : AVal) (H' : Heap) : Prop :=
  ∀ (K : Kept) (θ : Th) (w : World) (us : Array Value), WRel K θ H w → VRels θ args us.toList →
    Calls P f us w fun e w' => ∃ θ' u, e = .returned u ∧ θ.Up H.nx θ' ∧ VRel θ' v u ∧ WRel K θ' H' w'

def CallOk (P : Program) (call : CallF) : Prop := ∀ f args H v H', call f args H = some (v, H') → FnOk P f ∧ H.nx ≤ H'.nx ∧ CallsA P f args H v H'

theorem run_methOk {P : Program} {name : String} {t : TypeId} {f : FuncId} (h : methOk P name (t, f) = true) (n : Nat) (u : Value) (w : World) : (method (n + 1) t u name).run P w = .ok (f, u) w := by
  unfold methOk at h
  split at h <;> (try simp only [Bool.and_eq_true, reduceCtorEq, Bool.false_eq_true] at h)
  rename_i i hi
  obtain ⟨h1, h2⟩ := h
  split at h1 <;> (try simp only [Bool.and_eq_true, reduceCtorEq, Bool.false_eq_true] at h1)
  rename_i m hm
  obtain ⟨h3, h4⟩ := h1
  split at h4 <;> (try simp only [beq_iff_eq, reduceCtorEq, Bool.false_eq_true] at h4)
  rename_i f' hf
  subst h4
  have hp : m.path.toList = [] := by simpa using h3
  split at h2 <;> (try simp only [reduceCtorEq, Bool.false_eq_true] at h2)
  rename_i d hnp hd
  simp only [method, Sem.run_bind, typeInfo, run_program, Result.andThen_ok, hi, Sem.run_pure, hm, hp, follow, hf, receiverAt, run_underlying hd]
  cases d <;> (first | (exfalso; exact hnp _ rfl) | simp [Place.get])

theorem upon_call {P : Program} {call : CallF} (hok : CallOk P call) {K : Kept} {θ : Th} {H H' : Heap} {a : Act} {w : World} (hw : WRel K θ H w) {f : FuncId} {vs : List AVal} {us : Array Value} {v : AVal} (hv : VRels θ vs us.toList) (h : call f vs H = some (v, H'))
    {o : Oper} {next : Act → World → Prop} {Q : Exit → Act → World → Prop} (hex : (execOp a.eval o).run P w = .ok (.enter f us) w)
    (hn : ∀ θ' u w', θ.Up H.nx θ' → VRel θ' v u → WRel K θ' H' w' → next (a.put o.dst u) w') : o.wp P a w next Q := by
  obtain ⟨_, _, hc⟩ := hok f vs H v H' h
  unfold Oper.wp
  rw [hex, Oper.upon_enter]
  refine (hc K θ w us hw hv).mono ?_
  rintro e w' ⟨θ', u, rfl, h1, h2, h3⟩
  exact hn θ' u w' h1 h2 h3

theorem stepIn_sound {P : Program} {tbl : String → List (TypeId × FuncId)} {call : CallF} (hok : CallOk P call) {K : Kept} {θ : Th} {N : Nat} {T : Tm} {H : Heap} {a : Act} {w : World} {o : Oper} {ao : AIn} {r : StepR}
    (hc : cIn P tbl o.op = some ao) (hT : ARel θ N T a) (hw : WRel K θ H w) (h : stepIn call T H ao = some r) {next : Act → World → Prop} {Q : Exit → Act → World → Prop}
    (hn : ∀ θ' u w' ds, θ.Up H.nx θ' → VRel θ' r.v u → WRel K θ' r.H w' → DRel θ' r.D ds → next ({ a with defers := ds ++ a.defers }.put o.dst u) w') : o.wp P a w next Q := by
  unfold cIn at hc
  split at hc
  · rename_i p hp
    simp only [Option.some.injEq] at hc; subst hc
    simp only [stepIn] at h
    split at h <;> (try simp only [Option.some.injEq, reduceCtorEq] at h)
    rename_i v hv
    subst h
    obtain ⟨u, g1, g2⟩ := aPure_sound hp hT hv w
    unfold Oper.wp; rw [g1, Oper.upon_value]
    exact hn θ u w [] (Th.Up.refl _ _) g2 hw rfl
  split at hc
  · rename_i p hp
    simp only [Option.some.injEq] at hc; subst hc
    simp only [stepIn] at h
    split at h <;> (try simp only [Option.some.injEq, reduceCtorEq] at h)
    rename_i v hv
    subst h
    obtain ⟨u, g1, g2⟩ := aRead_sound hp hT hw hv
    unfold Oper.wp; rw [g1, Oper.upon_value]
    exact hn θ u w [] (Th.Up.refl _ _) g2 hw rfl
  split at hc
  · rename_i p hp
    simp only [Option.some.injEq] at hc; subst hc
    simp only [stepIn] at h
    split at h <;> (try simp only [Option.some.injEq, reduceCtorEq] at h)
    rename_i ob mk hv
    subst h
    obtain ⟨u, c, l, g1, g2, g3, g4⟩ := aNew_sound hp hT hv w
    unfold Oper.wp; rw [g1, Oper.upon_value]
    exact hn (θ.ext H.nx l) u _ [] (Th.ext_up hw _) (g4 _ _ (Th.ext_same _ _ _)) (hw.push g2 g3) rfl
  split at hc
  · rename_i p hp
    simp only [Option.some.injEq] at hc; subst hc
    simp only [stepIn] at h
    split at h <;> (try simp only [Option.some.injEq, reduceCtorEq] at h)
    rename_i v H' hv
    subst h
    obtain ⟨θ', u, w', g1, g2, g3, g4⟩ := aEff_sound hp hT hw hv
    unfold Oper.wp
    rcases g2 with g2 | ⟨g2, rfl⟩
    · rw [g2, Oper.upon_value]
      exact hn θ' u w' [] g1 g3 g4 rfl
    · rw [g2, Oper.upon_skip]
      exact hn θ' undef w' [] g1 g3 g4 rfl
  obtain ⟨dst, op, ty, pos, aft, gd⟩ := o
  simp only at hc
  cases op with
  | call c =>
    obtain ⟨callee, args, ts⟩ := c
    cases callee with
    | builtin b => simp at hc
    | value x =>
      have vcase : ∀ {x' : AOpd} {xs' : List AOpd}, cOpd x = some x' → cOpds args.toList = some xs' → ao = .callv x' xs' → Oper.wp P { dst := dst, op := .call { callee := .value x, args := args, argTypes := ts }, type := ty, pos := pos, after := aft, guard := gd } a w next Q := by
        intro x' xs' hx hxs hao
        subst hao
        simp only [stepIn] at h
        split at h <;> (try simp only [reduceCtorEq] at h)
        rename_i f caps vs hf hvs
        split at h <;> (try simp only [Option.some.injEq, reduceCtorEq] at h)
        rename_i v H' hcall
        subst h
        have rf := hT.ev hx hf
        simp only [VRel] at rf
        obtain ⟨cs, hcs, hcr⟩ := rf
        have rv := hT.evs hxs hvs
        refine upon_call hok hw (us := args.map a.eval ++ cs) ?_ hcall ?_ (fun θ' u w' g1 g2 g3 => hn θ' u w' [] g1 g2 g3 rfl)
        · simpa using rv.append hcr
        · simp [execOp, resolve, hcs, Deferred.ofValue, invoke, run_callFunc (hok _ _ _ _ _ hcall).1]
      cases x with
      | func f =>
        simp only [Option.map_eq_some_iff] at hc
        obtain ⟨xs, hxs, rfl⟩ := hc
        simp only [stepIn] at h
        split at h <;> (try simp only [reduceCtorEq] at h)
        rename_i vs hvs
        split at h <;> (try simp only [Option.some.injEq, reduceCtorEq] at h)
        rename_i v H' hcall
        subst h
        have rv := hT.evs hxs hvs
        refine upon_call hok hw (us := args.map a.eval) (by simpa using rv) hcall ?_ (fun θ' u w' g1 g2 g3 => hn θ' u w' [] g1 g2 g3 rfl)
        simp [execOp, resolve, Act.eval, Deferred.ofValue, invoke, run_callFunc (hok _ _ _ _ _ hcall).1]
      | tmp t =>
        simp only at hc
        split at hc <;> (try simp only [Option.some.injEq, reduceCtorEq] at hc)
        rename_i x' xs' hx hxs
        exact vcase hx hxs hc.symm
      | const c =>
        simp only at hc
        split at hc <;> (try simp only [Option.some.injEq, reduceCtorEq] at hc)
        rename_i x' xs' hx hxs
        exact vcase hx hxs hc.symm
      | global g =>
        simp only at hc
        split at hc <;> (try simp only [Option.some.injEq, reduceCtorEq] at hc)
        rename_i x' xs' hx hxs
        exact vcase hx hxs hc.symm
    | invoke x name =>
      simp only at hc
      split at hc <;> (try simp only [reduceCtorEq] at hc)
      rename_i x' xs' hx hxs
      split at hc <;> (try simp only [Option.some.injEq, reduceCtorEq] at hc)
      rename_i hall
      subst hc
      simp only [stepIn] at h
      split at h <;> (try simp only [reduceCtorEq] at h)
      rename_i t vv vs hf hvs
      split at h <;> (try simp only [reduceCtorEq] at h)
      rename_i f hlook
      split at h <;> (try simp only [Option.some.injEq, reduceCtorEq] at h)
      rename_i v H' hcall
      subst h
      have rf := hT.ev hx hf
      simp only [VRel] at rf
      obtain ⟨u, hu, hur⟩ := rf
      have rv := hT.evs hxs hvs
      have hmeth : methOk P name (t, f) = true := by
        have key : ∀ l : List (TypeId × FuncId), look t l = some f → (t, f) ∈ l := by
          intro l
          induction l with
          | nil => intro h; simp [look] at h
          | cons p l ih =>
            obtain ⟨a, b⟩ := p
            intro h
            simp only [look] at h
            split at h
            · rename_i hab
              simp only [Option.some.injEq] at h; subst h hab; simp
            · exact List.mem_cons_of_mem _ (ih h)
        exact List.all_eq_true.1 hall _ (key _ hlook)
      refine upon_call hok hw (us := #[u] ++ args.map a.eval) ?_ hcall ?_ (fun θ' u w' g1 g2 g3 => hn θ' u w' [] g1 g2 g3 rfl)
      · simpa using VRels.cons hur rv
      · have hm : ∀ n, 0 < n → (method n t u name).run P w = .ok (f, u) w := fun n hn => by
          obtain ⟨m, rfl⟩ : ∃ m, n = m + 1 := ⟨n - 1, by omega⟩
          exact run_methOk hmeth m u w
        have hx1 : ((#[a.eval x] ++ args.map a.eval)[0]? : Option Value) = some (.iface t u) := by simp [hu, Array.getElem?_append]
        have hx2 : (#[a.eval x] ++ args.map a.eval).extract 1 (#[a.eval x] ++ args.map a.eval).size = args.map a.eval := by
          apply Array.ext'; simp [List.take_of_length_le]
        simp only [execOp, resolve, Sem.run_bind, Sem.run_pure, Result.andThen_ok, invoke, hx1, hx2, callMethod, run_program]
        have hpos : 0 < P.types.size + Made.depth := by simp [Made.depth]
        rw [hm _ hpos]
        simp [run_callFunc (hok _ _ _ _ _ hcall).1]
  | «defer» c =>
    obtain ⟨callee, args, ts⟩ := c
    cases callee with
    | builtin b => simp at hc
    | invoke x name => simp at hc
    | value x =>
      cases x with
      | tmp t =>
        simp only [Option.map_eq_some_iff] at hc
        obtain ⟨xs, hxs, rfl⟩ := hc
        simp only [stepIn] at h
        split at h <;> (try simp only [Option.some.injEq, reduceCtorEq] at h)
        rename_i f caps vs hf hvs
        subst h
        have rf := hT.ev (x := .tmp t) rfl hf
        simp only [VRel] at rf
        obtain ⟨cs, hcs, hcr⟩ := rf
        have rv := hT.evs hxs hvs
        unfold Oper.wp
        have hex : (execOp a.eval { dst := dst, op := .defer { callee := .value (.tmp t), args := args, argTypes := ts }, type := ty, pos := pos, after := aft, guard := gd }).run P w = .ok (.defer { target := .fn (.func f) cs, args := args.map a.eval }) w := by
          simp [execOp, resolve, hcs, Deferred.ofValue]
        rw [hex, Oper.upon_defer]
        exact hn θ undef w [{ target := .fn (.func f) cs, args := args.map a.eval }] (Th.Up.refl _ _) (undef_rel θ) hw ⟨_, _, [], rfl, by simpa using rv.append hcr, rfl⟩
      | const c => simp at hc
      | global g => simp at hc
      | func f =>
      simp only [Option.map_eq_some_iff] at hc
      obtain ⟨xs, hxs, rfl⟩ := hc
      simp only [stepIn] at h
      split at h <;> (try simp only [Option.some.injEq, reduceCtorEq] at h)
      rename_i vs hvs
      subst h
      have rv := hT.evs hxs hvs
      unfold Oper.wp
      have hex : (execOp a.eval { dst := dst, op := .defer { callee := .value (.func f), args := args, argTypes := ts }, type := ty, pos := pos, after := aft, guard := gd }).run P w = .ok (.defer { target := .fn (.func f) #[], args := args.map a.eval }) w := by
        simp [execOp, resolve, Act.eval, Deferred.ofValue]
      rw [hex, Oper.upon_defer]
      exact hn θ undef w [{ target := .fn (.func f) #[], args := args.map a.eval }] (Th.Up.refl _ _) (undef_rel θ) hw ⟨_, _, [], rfl, by simpa using rv, rfl⟩
  | _ => simp at hc

theorem stepIn_nx {P : Program} {call : CallF} (hok : CallOk P call) {T : Tm} {H : Heap} {ao : AIn} {r : StepR} (h : stepIn call T H ao = some r) : H.nx ≤ r.H.nx := by
  cases ao <;> simp only [stepIn] at h
  · split at h <;> simp only [Option.some.injEq, reduceCtorEq] at h
    subst h; exact Nat.le_refl _
  · split at h <;> simp only [Option.some.injEq, reduceCtorEq] at h
    subst h; exact Nat.le_refl _
  · split at h <;> simp only [Option.some.injEq, reduceCtorEq] at h
    subst h; simp [Heap.nx_push]
  · split at h <;> simp only [Option.some.injEq, reduceCtorEq] at h
    rename_i heq
    subst h; exact aEff_nx heq
  · (repeat' split at h) <;> simp only [Option.some.injEq, reduceCtorEq] at h
    rename_i heq
    subst h; exact (hok _ _ _ _ _ heq).2.1
  · (repeat' split at h) <;> simp only [Option.some.injEq, reduceCtorEq] at h
    rename_i heq
    subst h; exact (hok _ _ _ _ _ heq).2.1
  · (repeat' split at h) <;> simp only [Option.some.injEq, reduceCtorEq] at h
    rename_i heq
    subst h; exact (hok _ _ _ _ _ heq).2.1
  · split at h <;> simp only [Option.some.injEq, reduceCtorEq] at h
    subst h; exact Nat.le_refl _
  · split at h <;> simp only [Option.some.injEq, reduceCtorEq] at h
    subst h; exact Nat.le_refl _

end
end AM
end Go.Proofs.YtlgbgbngdhhjaaaGreatDoor

set_option linter.unusedSimpArgs false
set_option linter.unusedVariables false
namespace Go.Proofs.YtlgbgbngdhhjaaaGreatDoor
namespace AM
noncomputable section
open Go

structure AOper where
  dst : Option Nat
  op : AIn
  gd : Option (Nat × Bool)

structure St where
  T : Tm
  H : Heap
  D : List (FuncId × List AVal)

def putO (T : Tm) (d : Option Nat) (v : AVal) : Tm :=
  match d with
  | some d => T.put d v
  | none => T

def aWanted (T : Tm) (g : Option (Nat × Bool)) : Option Bool :=
  match g with
  | none => some true
  | some (t, want) => match T.get t with
    | some (.b x) => some (x == want)
    | some (.tup _) => some false
    | _ => none

def runOp (call : CallF) (o : AOper) (s : St) : Option St :=
  match aWanted s.T o.gd with
  | none => none
  | some false => some { s with T := putO s.T o.dst (.tup []) }
  | some true => match stepIn call s.T s.H o.op with
    | none => none
    | some r => some ⟨putO s.T o.dst r.v, r.H, r.D ++ s.D⟩

def runOps (call : CallF) : List AOper → St → Option St
  | [], s => some s
  | o :: os, s => match runOp call o s with
    | none => none
    | some s => runOps call os s

structure SRel (K : Kept) (θ : Th) (N : Nat) (s : St) (a : Act) (w : World) : Prop where
  W : WRel K θ s.H w
  A : ARel θ N s.T a
  D : DRel θ s.D a.defers

/-! ### Compiling an operation -/
def cGuard (N : Nat) (ops : Array Oper) : Option (Nat × Bool) → Option (Option (Nat × Bool))
  | none => some none
  | some (j, want) => match (ops[j]?).bind (·.dst) with
    | some t => some (some (t, want))
    | none => none

def dstOk (N : Nat) : Option Nat → Bool
  | some d => decide (d < N)
  | none => true

def cOper (P : Program) (tbl : String → List (TypeId × FuncId)) (N : Nat) (ops : Array Oper) (o : Oper) : Option AOper :=
  match cIn P tbl o.op, cGuard N ops o.guard with
  | some i, some g => if dstOk N o.dst then some ⟨o.dst, i, g⟩ else none
  | _, _ => none

theorem wanted_sound {N : Nat} {ops : Array Oper} {o : Oper} {g : Option (Nat × Bool)} (hc : cGuard N ops o.guard = some g) {θ : Th} {T : Tm} {a : Act} (hT : ARel θ N T a) {b : Bool} (h : aWanted T g = some b) : Region.wanted o (yielded ops a.tmps) = b := by
  unfold Region.wanted
  cases hg : o.guard with
  | none =>
    rw [hg] at hc
    simp only [cGuard, Option.some.injEq] at hc; subst hc
    simpa [aWanted] using h
  | some p =>
    obtain ⟨j, want⟩ := p
    rw [hg] at hc
    simp only [cGuard] at hc
    split at hc <;> simp only [Option.some.injEq, reduceCtorEq] at hc
    rename_i t ht
    subst hc
    simp only [aWanted] at h
    simp only [yielded, ht, Option.bind_some]
    split at h <;> simp only [Option.some.injEq, reduceCtorEq] at h
    · rename_i x hx
      have r := hT.2 t _ hx
      rw [VRel.bool] at r
      rw [Array.getD_eq_getD_getElem?] at r
      cases hh : a.tmps[t]? with
      | none => rw [hh] at r; simp [undef] at r
      | some u =>
        rw [hh] at r
        simp only [Option.getD_some] at r
        subst r
        simp only
        rw [← h]; rfl
    · rename_i vs hx
      have r := hT.2 t _ hx
      simp only [VRel] at r
      obtain ⟨us, r, _⟩ := r
      rw [Array.getD_eq_getD_getElem?] at r
      cases hh : a.tmps[t]? with
      | none => simp only; subst h; rfl
      | some u =>
        rw [hh] at r
        simp only [Option.getD_some] at r
        subst r
        simp only; subst h; rfl

theorem ARel.putO {θ : Th} {N : Nat} {T : Tm} {a : Act} (h : ARel θ N T a) {d : Option Nat} (hd : dstOk N d = true) {v : AVal} {u : Value} (hv : VRel θ v u) : ARel θ N (AM.putO T d v) (a.put d u) := by
  cases d with
  | none => exact h
  | some d => exact h.put (by simpa [dstOk] using hd) hv

theorem Act.put_defers (a : Act) (d : Option Nat) (u : Value) : (a.put d u).defers = a.defers := by cases d <;> rfl

/-! ### In the order of the text -/
def cOpers (P : Program) (tbl : String → List (TypeId × FuncId)) (N : Nat) (ops : Array Oper) : List Oper → Option (List AOper)
  | [] => some []
  | o :: os => match cOper P tbl N ops o, cOpers P tbl N ops os with
    | some a, some as => some (a :: as)
    | _, _ => none

theorem runOp_sound {P : Program} {tbl : String → List (TypeId × FuncId)} {call : CallF} (hok : CallOk P call) {K : Kept} {N : Nat} {ops : Array Oper} {i : Nat} {o : Oper} (hi : ops[i]? = some o) {ao : AOper} (hc : cOper P tbl N ops o = some ao)
    {θ : Th} {s s' : St} {a : Act} {w : World} (hs : SRel K θ N s a w) (h : runOp call ao s = some s') {Q : Exit → Act → World → Prop} {next : Act → World → Prop}
    (hn : ∀ θ' a' w', θ.Up s.H.nx θ' → s.H.nx ≤ s'.H.nx → SRel K θ' N s' a' w' → next a' w') : wpOp P ops Q i next a w := by
  unfold wpOp
  rw [hi]
  simp only
  unfold cOper at hc
  split at hc <;> (try simp only [reduceCtorEq] at hc)
  rename_i ai g hai hg
  split at hc <;> (try simp only [Option.some.injEq, reduceCtorEq] at hc)
  rename_i hd
  subst hc
  unfold runOp at h
  split at h <;> (try simp only [Option.some.injEq, reduceCtorEq] at h)
  · rename_i hwt
    subst h
    rw [wanted_sound hg hs.A hwt]
    simp only [Bool.false_eq_true, if_false]
    exact hn θ _ w (Th.Up.refl _ _) (Nat.le_refl _) ⟨hs.W, hs.A.putO hd (undef_rel θ), by rw [Act.put_defers]; exact hs.D⟩
  · rename_i hwt
    split at h <;> (try simp only [Option.some.injEq, reduceCtorEq] at h)
    rename_i r hr
    subst h
    rw [wanted_sound hg hs.A hwt]
    simp only [if_true]
    refine .inl (stepIn_sound hok hai hs.A hs.W hr fun θ' u w' ds h1 h2 h3 h4 => ?_)
    refine hn θ' _ w' h1 (stepIn_nx hok hr) ⟨h3, ?_, ?_⟩
    · exact ((hs.A.mono h1.1).defers _).putO hd h2
    · rw [Act.put_defers]
      exact h4.append (hs.D.mono h1.1)

theorem runOps_sound {P : Program} {tbl : String → List (TypeId × FuncId)} {call : CallF} (hok : CallOk P call) {K : Kept} {N : Nat} {ops : Array Oper} {Q : Exit → Act → World → Prop} : ∀ (l : List Oper) (al : List AOper) (i : Nat) (θ : Th) (s s' : St) (a : Act) (w : World),
    (∀ j o, l[j]? = some o → ops[i + j]? = some o) → cOpers P tbl N ops l = some al → SRel K θ N s a w → runOps call al s = some s' →
    (∀ θ' a' w', θ.Up s.H.nx θ' → s.H.nx ≤ s'.H.nx → SRel K θ' N s' a' w' → Q .normal a' w') → wpOps P ops Q (List.range' i l.length) a w
  | [], al, i, θ, s, s', a, w, hl, hc, hs, h, hq => by
    simp only [cOpers, Option.some.injEq] at hc; subst hc
    simp only [runOps, Option.some.injEq] at h; subst h
    exact hq θ a w (Th.Up.refl _ _) (Nat.le_refl _) hs
  | o :: l, al, i, θ, s, s', a, w, hl, hc, hs, h, hq => by
    simp only [cOpers] at hc
    split at hc <;> (try simp only [Option.some.injEq, reduceCtorEq] at hc)
    rename_i ao al' hao hal
    subst hc
    simp only [runOps] at h
    split at h <;> (try simp only [reduceCtorEq] at h)
    rename_i s1 hs1
    simp only [List.length_cons, List.range'_succ]
    rw [wpOps_cons]
    refine runOp_sound hok (hl 0 o (by simp)) hao hs hs1 fun θ' a' w' h1 h2 h3 => ?_
    exact runOps_sound hok l al' (i + 1) θ' s1 s' a' w' (fun j o' hj => by have := hl (j + 1) o' (by simpa using hj); rwa [show i + (j + 1) = i + 1 + j by omega] at this) hal h3 h
      fun θ'' a'' w'' k1 k2 k3 => hq θ'' a'' w'' (h1.trans h2 k1) (Nat.le_trans h2 k2) k3

/-! ### In any order -/
/-- Only some of the slots. -/
def Tr.only {α : Type} (T : Tr α) (l : List Nat) : Tr α :=
  l.foldl (fun t k => match T.get k with | some v => t.put k v | none => t) .e

theorem only_congr {α : Type} {T T' : Tr α} : ∀ {l : List Nat}, (∀ k ∈ l, T.get k = T'.get k) → T.only l = T'.only l := by
  intro l h
  unfold Tr.only
  suffices ∀ (l : List Nat) (z : Tr α), (∀ k ∈ l, T.get k = T'.get k) → l.foldl (fun t k => match T.get k with | some v => t.put k v | none => t) z = l.foldl (fun t k => match T'.get k with | some v => t.put k v | none => t) z from this l .e h
  intro l
  induction l with
  | nil => intro z _; rfl
  | cons k l ih =>
    intro z h
    simp only [List.foldl_cons]
    rw [h k (by simp)]
    exact ih _ fun q hq => h q (List.mem_cons_of_mem _ hq)

theorem only_get {α : Type} {T : Tr α} {l : List Nat} {k : Nat} {v : α} (h : (T.only l).get k = some v) : k ∈ l ∧ T.get k = some v := by
  unfold Tr.only at h
  suffices ∀ (l : List Nat) (z : Tr α), (l.foldl (fun t k => match T.get k with | some v => t.put k v | none => t) z).get k = some v → (k ∈ l ∧ T.get k = some v) ∨ z.get k = some v by
    rcases this l .e h with q | q
    · exact q
    · cases q
  intro l
  induction l with
  | nil => intro z h; exact .inr h
  | cons j l ih =>
    intro z h
    simp only [List.foldl_cons] at h
    rcases ih _ h with ⟨q1, q2⟩ | q
    · exact .inl ⟨List.mem_cons_of_mem _ q1, q2⟩
    · split at q
      · rename_i u hu
        rw [Tr.get_put] at q
        split at q
        · subst_vars
          exact .inl ⟨by simp, by rw [hu, q]⟩
        · exact .inr q
      · exact .inr q

def AIn.isEff : AIn → Bool
  | .pure _ | .read _ | .new _ => false
  | _ => true

structure DItem where
  i : Nat
  op : AOper
  slots : List Nat
  pend : List Nat

def esame : List (AVal × AVal) → List (AVal × AVal) → Bool
  | [], [] => true
  | x :: xs, y :: ys => AVal.same x.1 y.1 && AVal.same x.2 y.2 && esame xs ys
  | _, _ => false
theorem esame_eq : ∀ {x y : List (AVal × AVal)}, esame x y = true → x = y
  | [], [], _ => rfl
  | [], _ :: _, h => by simp [esame] at h
  | _ :: _, [], h => by simp [esame] at h
  | x :: xs, y :: ys, h => by
    simp [esame] at h
    rw [Prod.ext (AVal.same_eq _ _ h.1.1) (AVal.same_eq _ _ h.1.2), esame_eq h.2]
theorem esame_refl : ∀ (x : List (AVal × AVal)), esame x x = true
  | [] => rfl
  | x :: xs => by simp [esame, AVal.same_refl, esame_refl xs]

def osame : Option AObj → Option AObj → Bool
  | some (.row cs o), some (.row cs' o') => AVal.sames cs cs' && o == o'
  | some (.map e), some (.map e') => esame e e'
  | some .dead, some .dead => true
  | none, none => true
  | _, _ => false
theorem osame_eq {x y : Option AObj} (h : osame x y = true) : x = y := by
  unfold osame at h
  split at h <;> (try simp at h)
  · rw [AVal.sames_eq _ _ h.1, h.2]
  · rw [esame_eq h]
  · rfl
  · rfl
theorem osame_refl (x : Option AObj) : osame x x = true := by
  cases x with
  | none => rfl
  | some o => cases o <;> simp [osame, AVal.sames_refl, esame_refl]

/-- May what was done be done behind the turn as well? -/
def stillOk (T : Tm) (H H' : Heap) (d : DItem × Option Nat) : Bool :=
  match aWanted (T.only d.1.slots) d.1.op.gd with
  | some true => match d.1.op.op with
    | .read ao => match aRead (T.only d.1.slots) H ao, aRead (T.only d.1.slots) H' ao with
      | some v, some v' => AVal.same v v'
      | _, _ => false
    | .new _ => match d.2 with
      | some id => osame (H.get id) (H'.get id)
      | none => false
    | _ => true
  | _ => true

def newId : AIn → Nat → Option Nat
  | .new _, n => some n
  | _, _ => none

def runD (call : CallF) : List DItem → List (DItem × Option Nat) → St → Option St
  | [], _, s => some s
  | it :: rest, done, s =>
    match aWanted (s.T.only it.slots) it.op.gd with
    | none => none
    | some false => runD call rest ((it, none) :: done) { s with T := putO s.T it.op.dst (.tup []) }
    | some true => match stepIn call (s.T.only it.slots) s.H it.op.op with
      | none => none
      | some r =>
        if it.op.op.isEff && !(done.all fun d => !(it.pend.contains d.1.i) || stillOk s.T s.H r.H d) then none
        else runD call rest ((it, newId it.op.op s.H.nx) :: done) ⟨putO s.T it.op.dst r.v, r.H, r.D ++ s.D⟩

/-! #### What is asked of the order -/
def preds (o : Oper) : List Nat := (o.after.toList.filter (Region.binds .any ·)).map (·.on)

/-- From where each comes to: a row an operation. -/
def ancs (ops : List Oper) : List (List Nat) :=
  ops.foldl (fun acc o => acc ++ [(preds o ++ (preds o).flatMap fun j => acc.getD j []).eraseDups]) []

structure DStat (P : Program) (tbl : String → List (TypeId × FuncId)) (N : Nat) (ops : Array Oper) (anc : Nat → List Nat) (items : List DItem) : Prop where
  size : items.length = ops.size
  all : ∀ k, k < ops.size → ∃ it ∈ items, it.i = k
  op : ∀ it ∈ items, ∃ o, ops[it.i]? = some o ∧ cOper P tbl N ops o = some it.op
  /-- Distinct numbers; an effect is ahead of all that come later, or they are asked again. -/
  ord : ∀ (pre : List DItem) (p : DItem) (mid : List DItem) (q : DItem) (post : List DItem), items = pre ++ p :: mid ++ q :: post →
    p.i ≠ q.i ∧ (p.op.op.isEff = true → p.i ∈ anc q.i) ∧ (p.op.op.isEff = false → q.op.op.isEff = true → p.i ∈ anc q.i ∨ p.i ∈ q.pend)
  /-- A slot that one writes is written by no other, and read by those alone that come behind it. -/
  slot : ∀ p ∈ items, ∀ q ∈ items, p.i ≠ q.i → ∀ t, p.op.dst = some t → q.op.dst ≠ some t ∧ (t ∈ q.slots → p.i ∈ anc q.i)
  own : ∀ p ∈ items, ∀ t, p.op.dst = some t → t ∉ p.slots
  /-- What one needs comes ahead of it. -/
  first : ∀ (pre : List DItem) (q : DItem) (post : List DItem), items = pre ++ q :: post → ∀ o, ops[q.i]? = some o → ∀ j ∈ preds o, ∃ p ∈ pre, p.i = j
  anc : ∀ (L : Nat → Prop), (∀ i o j, L i → ops[i]? = some o → j ∈ preds o → L j) → ∀ i o, ops[i]? = some o → (∀ j ∈ preds o, L j) → ∀ j ∈ anc i, L j

end
end AM
end Go.Proofs.YtlgbgbngdhhjaaaGreatDoor

set_option linter.unusedSimpArgs false
set_option linter.unusedVariables false
namespace Go.Proofs.YtlgbgbngdhhjaaaGreatDoor
namespace AM
noncomputable section
open Go

theorem Th.Up.less {θ θ' : Th} {n m : Nat} (h : θ.Up n θ') (hm : m ≤ n) : θ.Up m θ' := ⟨h.1, fun j hj => h.2 j (by omega)⟩

theorem cIn_new {P : Program} {tbl : String → List (TypeId × FuncId)} {o : Op} {ao : AOp} (h : cIn P tbl o = some (.new ao)) : cNew P o = some ao := by
  unfold cIn at h
  split at h
  · simp at h
  split at h
  · simp at h
  split at h
  · rename_i p hp
    simp only [Option.some.injEq, AIn.new.injEq] at h
    rw [hp, h]
  split at h
  · simp at h
  (repeat' split at h) <;> simp at h

/-- What was computed, and may be done still. -/
def POk (s : St) (θ : Th) (it : DItem) (id? : Option Nat) : Prop :=
  (aWanted (s.T.only it.slots) it.op.gd = some false ∧ ∀ t, it.op.dst = some t → s.T.get t = some (.tup [])) ∨
  (aWanted (s.T.only it.slots) it.op.gd = some true ∧
    ((∃ ao v, it.op.op = .pure ao ∧ aPure (s.T.only it.slots) ao = some v ∧ ∀ t, it.op.dst = some t → s.T.get t = some v) ∨
     (∃ ao v, it.op.op = .read ao ∧ aRead (s.T.only it.slots) s.H ao = some v ∧ ∀ t, it.op.dst = some t → s.T.get t = some v) ∨
     (∃ ao ob mk id, it.op.op = .new ao ∧ id? = some id ∧ aNew (s.T.only it.slots) ao = some (ob, mk) ∧ s.H.get id = some ob ∧ θ id = none ∧ ∀ t, it.op.dst = some t → s.T.get t = some (mk id))))

theorem POk.keep {s s' : St} {θ θ' : Th} {it : DItem} {id? : Option Nat} (h : POk s θ it id?) (hs : ∀ t ∈ it.slots, s'.T.get t = s.T.get t) (hd : ∀ t, it.op.dst = some t → s'.T.get t = s.T.get t)
    (hr : aWanted (s.T.only it.slots) it.op.gd = some true → ∀ ao v, it.op.op = .read ao → aRead (s.T.only it.slots) s.H ao = some v → aRead (s.T.only it.slots) s'.H ao = some v)
    (hn : aWanted (s.T.only it.slots) it.op.gd = some true → ∀ ao id, it.op.op = .new ao → id? = some id → θ id = none → s'.H.get id = s.H.get id ∧ θ' id = none) : POk s' θ' it id? := by
  have ho : s'.T.only it.slots = s.T.only it.slots := only_congr hs
  unfold POk
  rw [ho]
  rcases h with ⟨h1, h2⟩ | ⟨h1, h2⟩
  · exact .inl ⟨h1, fun t ht => by rw [hd t ht]; exact h2 t ht⟩
  · refine .inr ⟨h1, ?_⟩
    rcases h2 with ⟨ao, v, e1, e2, e3⟩ | ⟨ao, v, e1, e2, e3⟩ | ⟨ao, ob, mk, id, e1, e2, e3, e4, e5, e6⟩
    · exact .inl ⟨ao, v, e1, e2, fun t ht => by rw [hd t ht]; exact e3 t ht⟩
    · exact .inr (.inl ⟨ao, v, e1, hr h1 ao v e1 e2, fun t ht => by rw [hd t ht]; exact e3 t ht⟩)
    · obtain ⟨q1, q2⟩ := hn h1 ao id e1 e2 e5
      exact .inr (.inr ⟨ao, ob, mk, id, e1, e2, e3, by rw [q1]; exact e4, q2, fun t ht => by rw [hd t ht]; exact e6 t ht⟩)

theorem aRead_push {T : Tm} {H : Heap} (hf : H.get H.nx = none) (ob : AObj) {ao : AOp} {v : AVal} (h : aRead T H ao = some v) : aRead T (H.push ob) ao = some v := by
  have hg : ∀ i x, H.get i = some x → (H.push ob).get i = some x := by
    intro i x hx
    rw [Heap.get_push, if_neg]
    · exact hx
    · intro e; subst e; rw [hf] at hx; cases hx
  unfold aRead at h ⊢
  split at h <;> (try simp only [reduceCtorEq] at h)
  · split at h <;> (try simp only [reduceCtorEq] at h)
    rename_i n agg a x hx
    unfold aLoad at h ⊢
    split at h <;> (try simp only [reduceCtorEq] at h)
    split at h <;> (try simp only [reduceCtorEq] at h)
    rename_i cs own hgi
    rw [hg _ _ hgi]; exact h
  · split at h <;> (try simp only [reduceCtorEq] at h)
    unfold aLook at h ⊢
    split at h <;> (try simp only [reduceCtorEq] at h)
    rename_i hk
    rw [if_pos hk]
    split at h <;> (try simp only [reduceCtorEq] at h)
    rename_i es hes
    split at hes <;> (try simp only [reduceCtorEq] at hes)
    · simp only [Option.some.injEq] at hes; subst hes
      exact h
    · split at hes <;> (try simp only [Option.some.injEq, reduceCtorEq] at hes)
      rename_i es' hgi
      subst hes
      simp only [hg _ _ hgi]
      exact h
  · split at h <;> (try simp only [reduceCtorEq] at h)
    unfold aBts at h ⊢
    split at h <;> (try simp only [reduceCtorEq] at h)
    · exact h
    · split at h <;> (try simp only [reduceCtorEq] at h)
      rename_i he
      simp only [he, if_true]
      split at h <;> (try simp only [reduceCtorEq] at h)
      rename_i cs own hgi
      rw [hg _ _ hgi]; exact h
  · split at h <;> (try simp only [reduceCtorEq] at h)
    · exact h
    · split at h <;> (try simp only [reduceCtorEq] at h)
      rename_i es hgi
      rw [hg _ _ hgi]; exact h

section
variable {P : Program} {tbl : String → List (TypeId × FuncId)} {call : CallF} {N : Nat} {ops : Array Oper} {anc : Nat → List Nat} {items : List DItem} {sf : St} {n0 : Nat}

structure DInv0 (call : CallF) (N : Nat) (ops : Array Oper) (items : List DItem) (sf : St) (n0 : Nat) (K : Kept) (listed : Array Bool) (pre rest : List DItem) (done : List (DItem × Option Nat)) (s : St) (θ : Th) (a : Act) (w : World) : Prop where
  split : items = pre ++ rest
  run : runD call rest done s = some sf
  lsize : listed.size = ops.size
  down : ∀ i o j, listed.getD i false = true → ops[i]? = some o → j ∈ preds o → listed.getD j false = true
  later : ∀ it ∈ rest, listed.getD it.i false = false
  pend : ∀ it ∈ pre, listed.getD it.i false = false → it.op.op.isEff = false ∧ ∃ id?, (it, id?) ∈ done ∧ POk s θ it id?
  base : n0 ≤ s.H.nx
  ids : ∀ d ∈ done, d.1 ∈ pre ∧ ∀ id, d.2 = some id → n0 ≤ id ∧ id < s.H.nx
  idne : ∀ d ∈ done, ∀ d' ∈ done, d.1.i ≠ d'.1.i → ∀ id, d.2 = some id → d'.2 ≠ some id
  idun : ∀ d ∈ done, ∀ d' ∈ done, d.1.i = d'.1.i → d = d'
  slots : ∀ t v, s.T.get t = some v → VRel θ v (a.tmps.getD t undef) ∨ ∃ it ∈ pre, listed.getD it.i false = false ∧ it.op.dst = some t
  asize : a.tmps.size = N
  heap : WRel K θ s.H w
  defs : DRel θ s.D a.defers

/-- What one comes from lies ahead of it. -/
theorem DStat.anc_first (hst : DStat P tbl N ops anc items) {pre : List DItem} {q : DItem} {post : List DItem} (h : items = pre ++ q :: post) : ∀ j ∈ anc q.i, ∃ p ∈ pre, p.i = j := by
  obtain ⟨o, ho, _⟩ := hst.op q (by rw [h]; simp)
  refine hst.anc (fun j => ∃ p ∈ pre, p.i = j) ?_ q.i o ho (hst.first pre q post h o ho)
  rintro i o' j ⟨p, hp, rfl⟩ ho' hj
  obtain ⟨p1, p2, rfl⟩ := List.append_of_mem hp
  obtain ⟨x, hx, hxj⟩ := hst.first p1 p (p2 ++ q :: post) (by rw [h]; simp) o' ho' j hj
  exact ⟨x, by simp [hx], hxj⟩

theorem DStat.ne (hst : DStat P tbl N ops anc items) {pre : List DItem} {q : DItem} {post : List DItem} (h : items = pre ++ q :: post) : ∀ p ∈ pre, p.i ≠ q.i := by
  intro p hp
  obtain ⟨p1, p2, rfl⟩ := List.append_of_mem hp
  exact (hst.ord p1 p p2 q post (by rw [h])).1

/-- Slots that a later one writes are no concern of an earlier one that is no forerunner. -/
theorem DStat.later_slot (hst : DStat P tbl N ops anc items) {pre : List DItem} {q : DItem} {post : List DItem} (h : items = pre ++ q :: post) {p : DItem} (hp : p ∈ pre) {t : Nat} (ht : q.op.dst = some t) : p.op.dst ≠ some t ∧ t ∉ p.slots := by
  have hne := hst.ne h p hp
  obtain ⟨h1, h2⟩ := hst.slot q (by rw [h]; simp) p (by rw [h]; simp [hp]) (Ne.symm hne) t ht
  refine ⟨h1, fun hs => ?_⟩
  obtain ⟨p1, p2, rfl⟩ := List.append_of_mem hp
  have h' : items = p1 ++ p :: (p2 ++ q :: post) := by rw [h]; simp
  obtain ⟨x, hx, hxi⟩ := hst.anc_first h' _ (h2 hs)
  exact hst.ne h x (by simp [hx]) hxi

theorem putO_get (T : Tm) (d : Option Nat) (v : AVal) (t : Nat) : (putO T d v).get t = if d = some t then some v else T.get t := by
  cases d with
  | none => simp [putO]
  | some d =>
    simp only [putO, Tr.get_put, Option.some.injEq]
    by_cases h : t = d
    · subst h; simp
    · rw [if_neg h, if_neg (fun e => h e.symm)]

/-- One that is no effect is computed ahead. -/
theorem DInv0.ahead (hst : DStat P tbl N ops anc items) {K : Kept} {listed : Array Bool} {pre : List DItem} {it : DItem} {rest : List DItem} {done : List (DItem × Option Nat)} {s : St} {θ : Th} {a : Act} {w : World}
    (h : DInv0 call N ops items sf n0 K listed pre (it :: rest) done s θ a w) (he : it.op.op.isEff = false) : ∃ done' s', DInv0 call N ops items sf n0 K listed (pre ++ [it]) rest done' s' θ a w ∧ s.H.nx ≤ s'.H.nx := by
  have hsp := h.split
  have hrun := h.run
  have hsp' : items = pre ++ [it] ++ rest := by rw [hsp]; simp
  have hunl : listed.getD it.i false = false := h.later it (by simp)
  have hnew : ∀ d ∈ done, d.1.i ≠ it.i := fun d hd => hst.ne hsp d.1 (h.ids d hd).1
  simp only [runD] at hrun
  -- the common part
  have fin : ∀ (v : AVal) (H' : Heap) (id? : Option Nat), runD call rest ((it, id?) :: done) ⟨putO s.T it.op.dst v, H', s.D⟩ = some sf → s.H.nx ≤ H'.nx → WRel K θ H' w → POk ⟨putO s.T it.op.dst v, H', s.D⟩ θ it id? →
      (∀ T ao v, aRead T s.H ao = some v → aRead T H' ao = some v) → (∀ id, id < s.H.nx → H'.get id = s.H.get id) → (∀ id, id? = some id → s.H.nx ≤ id ∧ id < H'.nx) →
      ∃ done' s', DInv0 call N ops items sf n0 K listed (pre ++ [it]) rest done' s' θ a w ∧ s.H.nx ≤ s'.H.nx := by
    intro v H' id? hr hnx hW hP hread hget hid
    refine ⟨_, _, ⟨hsp', hr, h.lsize, h.down, fun x hx => h.later x (by simp [hx]), ?_, Nat.le_trans h.base hnx, ?_, ?_, ?_, ?_, h.asize, hW, h.defs⟩, hnx⟩
    · intro p hp hpl
      rcases List.mem_append.1 hp with hp | hp
      · obtain ⟨q1, idp, q2, q3⟩ := h.pend p hp hpl
        refine ⟨q1, idp, List.mem_cons_of_mem _ q2, q3.keep ?_ ?_ ?_ ?_⟩
        · intro t ht
          simp only [putO_get]
          rw [if_neg]
          intro hd
          exact (hst.later_slot hsp hp hd).2 ht
        · intro t ht
          simp only [putO_get]
          rw [if_neg]
          intro hd
          exact (hst.later_slot hsp hp hd).1 ht
        · intro _ ao v' _ hv'; exact hread _ _ _ hv'
        · intro _ ao id _ hid' hθ
          exact ⟨hget id ((h.ids _ q2).2 id hid').2, hθ⟩
      · obtain rfl : p = it := by simpa using hp
        exact ⟨he, id?, by simp, hP⟩
    · intro d hd
      rcases List.mem_cons.1 hd with rfl | hd
      · exact ⟨by simp, fun id hid' => ⟨Nat.le_trans h.base (hid id hid').1, (hid id hid').2⟩⟩
      · exact ⟨by simp [(h.ids d hd).1], fun id hid' => ⟨((h.ids d hd).2 id hid').1, Nat.lt_of_lt_of_le ((h.ids d hd).2 id hid').2 hnx⟩⟩
    · intro d hd d' hd' hne id hid' hid''
      rcases List.mem_cons.1 hd with rfl | hd <;> rcases List.mem_cons.1 hd' with rfl | hd'
      · exact hne rfl
      · have := (hid id hid').1
        have := ((h.ids d' hd').2 id hid'').2
        omega
      · have := (hid id hid'').1
        have := ((h.ids d hd).2 id hid').2
        omega
      · exact h.idne d hd d' hd' hne id hid' hid''
    · intro d hd d' hd' heq
      rcases List.mem_cons.1 hd with rfl | hd <;> rcases List.mem_cons.1 hd' with rfl | hd'
      · rfl
      · exact absurd heq.symm (hnew d' hd')
      · exact absurd heq (hnew d hd)
      · exact h.idun d hd d' hd' heq
    · intro t v' ht
      simp only [putO_get] at ht
      split at ht
      · rename_i hd
        exact .inr ⟨it, by simp, hunl, hd⟩
      · rcases h.slots t v' ht with q | ⟨x, hx1, hx2, hx3⟩
        · exact .inl q
        · exact .inr ⟨x, by simp [hx1], hx2, hx3⟩
  -- its own slots stay
  have own : ∀ v, (putO s.T it.op.dst v).only it.slots = s.T.only it.slots := by
    intro v
    refine only_congr fun t ht => ?_
    rw [putO_get, if_neg]
    intro hd
    exact hst.own it (by rw [hsp]; simp) t hd ht
  have dst : ∀ v t, it.op.dst = some t → (putO s.T it.op.dst v).get t = some v := by
    intro v t ht
    rw [putO_get, if_pos ht]
  split at hrun <;> (try simp only [reduceCtorEq] at hrun)
  · rename_i hw
    exact fin (.tup []) s.H none hrun (Nat.le_refl _) h.heap (.inl ⟨by rw [own]; exact hw, dst _⟩) (fun _ _ _ hv => hv) (fun _ _ => rfl) (fun _ hi => nomatch hi)
  · rename_i hw
    split at hrun <;> (try simp only [reduceCtorEq] at hrun)
    rename_i r hr
    rw [he] at hrun
    simp only [Bool.false_and, Bool.false_eq_true, if_false] at hrun
    cases hop : it.op.op with
    | pure ao =>
      rw [hop] at hr hrun
      simp only [stepIn] at hr
      split at hr <;> simp only [Option.some.injEq, reduceCtorEq] at hr
      rename_i v hv
      subst hr
      exact fin v s.H none hrun (Nat.le_refl _) h.heap (.inr ⟨by rw [own]; exact hw, .inl ⟨ao, v, hop, by rw [own]; exact hv, dst _⟩⟩) (fun _ _ _ hv => hv) (fun _ _ => rfl) (fun _ hi => nomatch hi)
    | read ao =>
      rw [hop] at hr hrun
      simp only [stepIn] at hr
      split at hr <;> simp only [Option.some.injEq, reduceCtorEq] at hr
      rename_i v hv
      subst hr
      exact fin v s.H none hrun (Nat.le_refl _) h.heap (.inr ⟨by rw [own]; exact hw, .inr (.inl ⟨ao, v, hop, by rw [own]; exact hv, dst _⟩)⟩) (fun _ _ _ hv => hv) (fun _ _ => rfl) (fun _ hi => nomatch hi)
    | new ao =>
      rw [hop] at hr hrun
      simp only [stepIn] at hr
      split at hr <;> simp only [Option.some.injEq, reduceCtorEq] at hr
      rename_i ob mk hv
      subst hr
      have hfr := h.heap.fresh s.H.nx (Nat.le_refl _)
      refine fin (mk s.H.nx) (s.H.push ob) (some s.H.nx) hrun (by simp [Heap.nx_push]) (h.heap.vague ob) (.inr ⟨by rw [own]; exact hw, .inr (.inr ⟨ao, ob, mk, s.H.nx, hop, rfl, by rw [own]; exact hv, ?_, hfr.1, dst _⟩)⟩) ?_ ?_ ?_
      · simp [Heap.get_push]
      · intro T ao' v' hv'; exact aRead_push hfr.2 ob hv'
      · intro id hid; rw [Heap.get_push, if_neg (by omega)]
      · intro id hid; simp only [Option.some.injEq] at hid; subst hid; exact ⟨Nat.le_refl _, by simp [Heap.nx_push]⟩
    | _ => rw [hop] at he; simp [AIn.isEff] at he

/-- All that are no effects are computed ahead, up to the next effect. -/
theorem DInv0.advance (hst : DStat P tbl N ops anc items) {K : Kept} {listed : Array Bool} : ∀ {rest pre : List DItem} {done : List (DItem × Option Nat)} {s : St} {θ : Th} {a : Act} {w : World},
    DInv0 call N ops items sf n0 K listed pre rest done s θ a w → ∃ pre' rest' done' s', DInv0 call N ops items sf n0 K listed pre' rest' done' s' θ a w ∧ (rest' = [] ∨ ∃ e r, rest' = e :: r ∧ e.op.op.isEff = true) ∧ s.H.nx ≤ s'.H.nx
  | [], pre, done, s, θ, a, w, h => ⟨pre, [], done, s, h, .inl rfl, Nat.le_refl _⟩
  | it :: rest, pre, done, s, θ, a, w, h => by
    cases he : it.op.op.isEff with
    | true => exact ⟨pre, it :: rest, done, s, h, .inr ⟨it, rest, rfl, he⟩, Nat.le_refl _⟩
    | false =>
      obtain ⟨done', s', h', hn⟩ := h.ahead hst he
      obtain ⟨p, r, d, s2, q1, q2, q3⟩ := DInv0.advance hst h'
      exact ⟨p, r, d, s2, q1, q2, Nat.le_trans hn q3⟩

/-- What is ready. -/
theorem mem_ready {listed : Array Bool} {i : Nat} (hs : listed.size = ops.size) : i ∈ Region.ready .any ops listed ↔ i < ops.size ∧ listed.getD i false = false ∧ ∀ o, ops[i]? = some o → ∀ j ∈ preds o, listed.getD j false = true := by
  simp only [Region.ready, List.mem_filter, List.mem_range, Bool.and_eq_true, Bool.not_eq_true']
  constructor
  · rintro ⟨h1, h2, h3⟩
    refine ⟨h1, ?_, fun o ho j hj => ?_⟩
    · rw [Array.getD_eq_getD_getElem?] at h2 ⊢
      rw [Array.getElem?_eq_getElem (by omega)] at h2 ⊢
      simpa using h2
    · rw [ho] at h3
      simp only [Option.map_some, Option.getD_some, Array.all_eq_true_iff_forall_mem] at h3
      simp only [preds, List.mem_map, List.mem_filter] at hj
      obtain ⟨e, ⟨he, hb⟩, rfl⟩ := hj
      have := h3 e (by simpa using he)
      simpa [hb] using this
  · rintro ⟨h1, h2, h3⟩
    refine ⟨h1, ?_, ?_⟩
    · rw [Array.getD_eq_getD_getElem?] at h2 ⊢
      rw [Array.getElem?_eq_getElem (by omega)] at h2 ⊢
      simpa using h2
    · have ho : ops[i]? = some ops[i] := Array.getElem?_eq_getElem h1
      rw [ho]
      simp only [Option.map_some, Option.getD_some, Array.all_eq_true_iff_forall_mem]
      intro e he
      cases hb : Region.binds .any e with
      | false => simp
      | true =>
        have := h3 _ ho e.on (by simp only [preds, List.mem_map, List.mem_filter]; exact ⟨e, ⟨by simpa using he, hb⟩, rfl⟩)
        simpa using this

theorem getD_set {listed : Array Bool} {i : Nat} (hi : i < listed.size) (j : Nat) : (listed.setIfInBounds i true).getD j false = if j = i then true else listed.getD j false := by
  rw [Array.getD_eq_getD_getElem?, Array.getD_eq_getD_getElem?, Array.getElem?_setIfInBounds]
  by_cases h : i = j
  · subst h; simp [hi]
  · simp [h, Ne.symm h]

/-- One operation done. -/
theorem DInv0.step (hst : DStat P tbl N ops anc items) (hok : CallOk P call) {Q : Exit → Act → World → Prop} {K : Kept} {listed : Array Bool} {pre rest : List DItem} {done : List (DItem × Option Nat)} {s : St} {θ : Th} {a : Act} {w : World}
    (h : DInv0 call N ops items sf n0 K listed pre rest done s θ a w) (hhead : rest = [] ∨ ∃ e r, rest = e :: r ∧ e.op.op.isEff = true) {i : Nat} (hi : i ∈ Region.ready .any ops listed) {next : Act → World → Prop}
    (hn : ∀ pre' rest' done' s' θ' a' w', DInv0 call N ops items sf n0 K (listed.setIfInBounds i true) pre' rest' done' s' θ' a' w' → (rest' = [] ∨ ∃ e r, rest' = e :: r ∧ e.op.op.isEff = true) → θ.Up n0 θ' → next a' w') :
    wpOp P ops Q i next a w := by
  obtain ⟨hi1, hi2, hi3⟩ := (mem_ready h.lsize).1 hi
  obtain ⟨it, hit, rfl⟩ := hst.all i hi1
  obtain ⟨o, ho, hco⟩ := hst.op it hit
  have hpreds := hi3 o ho
  have hancl : ∀ j ∈ anc it.i, listed.getD j false = true := hst.anc (fun j => listed.getD j false = true) (fun i o j h1 h2 h3 => h.down i o j h1 h2 h3) it.i o ho hpreds
  have hilt : it.i < listed.size := by rw [h.lsize]; exact hi1
  have hdown' : ∀ i' o' j, (listed.setIfInBounds it.i true).getD i' false = true → ops[i']? = some o' → j ∈ preds o' → (listed.setIfInBounds it.i true).getD j false = true := by
    intro i' o' j h1 h2 h3
    rw [getD_set hilt] at h1 ⊢
    split
    · rfl
    · split at h1
      · subst_vars
        rw [ho] at h2
        obtain rfl := Option.some.inj h2
        exact hpreds j h3
      · exact h.down i' o' j h1 h2 h3
  -- the slots that it looks at
  have hT : ARel θ N (s.T.only it.slots) a := by
    refine ⟨h.asize, fun t v ht => ?_⟩
    obtain ⟨hts, htv⟩ := only_get ht
    rcases h.slots t v htv with q | ⟨p, hp, hpl, hpd⟩
    · exact q
    · exfalso
      by_cases hpi : p.i = it.i
      · have hpit : p = it := by
          rw [h.split] at hit
          rcases List.mem_append.1 hit with hit | hit
          · obtain ⟨_, idp, q2, _⟩ := h.pend p hp hpl
            obtain ⟨_, idi, q4, _⟩ := h.pend it hit hi2
            have := h.idun _ q2 _ q4 hpi
            exact (Prod.mk.inj this).1
          · obtain ⟨r1, r2, hr⟩ := List.append_of_mem hit
            exact absurd hpi (hst.ne (pre := pre ++ r1) (q := it) (post := r2) (by rw [h.split, hr]; simp) p (by simp [hp]))
        subst hpit
        exact hst.own p (by rw [h.split]; simp [hp]) t hpd hts
      · have := (hst.slot p (by rw [h.split]; simp [hp]) it hit hpi t hpd).2 hts
        rw [hancl _ this] at hpl
        cases hpl
  unfold cOper at hco
  split at hco <;> (try simp only [reduceCtorEq] at hco)
  rename_i ai g hai hg
  split at hco <;> (try simp only [Option.some.injEq, reduceCtorEq] at hco)
  rename_i hd
  have hop : it.op.op = ai := by rw [← hco]
  have hgd : it.op.gd = g := by rw [← hco]
  have hdst : it.op.dst = o.dst := by rw [← hco]
  unfold wpOp
  rw [ho]
  simp only
  rw [h.split] at hit
  rcases List.mem_append.1 hit with hit | hit
  · -- computed ahead already
    obtain ⟨heff, id?, hdone, hP⟩ := h.pend it hit hi2
    have others : ∀ p ∈ pre, (listed.setIfInBounds it.i true).getD p.i false = false → listed.getD p.i false = false ∧ p.i ≠ it.i := by
      intro p hp hpl
      rw [getD_set hilt] at hpl
      split at hpl
      · cases hpl
      · rename_i hne; exact ⟨hpl, hne⟩
    have later' : ∀ p ∈ rest, (listed.setIfInBounds it.i true).getD p.i false = false := by
      intro p hp
      rw [getD_set hilt, if_neg]
      · exact h.later p hp
      · intro e
        obtain ⟨r1, r2, hr⟩ := List.append_of_mem hp
        exact hst.ne (pre := pre ++ r1) (q := p) (post := r2) (by rw [h.split, hr]; simp) it (by simp [hit]) e.symm
    have fin : ∀ (θ' : Th) (u : Value) (v : AVal) (w' : World), (∀ t, it.op.dst = some t → s.T.get t = some v) → VRel θ' v u → WRel K θ' s.H w' →
        (∀ p ∈ pre, p.i ≠ it.i → ∀ idp, (p, idp) ∈ done → POk s θ p idp → POk s θ' p idp) → (θ.Le θ') →
        DInv0 call N ops items sf n0 K (listed.setIfInBounds it.i true) pre rest done s θ' (a.put o.dst u) w' := by
      intro θ' u v w' hv hvu hW hPk hle
      refine ⟨h.split, h.run, by simp [h.lsize], hdown', later', ?_, h.base, h.ids, h.idne, h.idun, ?_, by cases o.dst <;> simp [Act.put, h.asize], hW, by rw [Act.put_defers]; exact h.defs.mono hle⟩
      · intro p hp hpl
        obtain ⟨q1, q2⟩ := others p hp hpl
        obtain ⟨e1, idp, e2, e3⟩ := h.pend p hp q1
        exact ⟨e1, idp, e2, hPk p hp q2 idp e2 e3⟩
      · intro t v' ht
        by_cases htd : it.op.dst = some t
        · left
          rw [hv t htd] at ht
          obtain rfl := Option.some.inj ht
          rw [hdst] at htd
          rw [htd]
          have htN : t < a.tmps.size := by
            rw [h.asize]
            rw [htd] at hd
            simpa [dstOk] using hd
          simp only [Act.put, Array.getD_eq_getD_getElem?, Array.getElem?_setIfInBounds]
          simpa [htN] using hvu
        · rcases h.slots t v' ht with q | ⟨p, hp, hpl, hpd⟩
          · left
            have : (a.put o.dst u).tmps.getD t undef = a.tmps.getD t undef := by
              rw [← hdst]
              cases hdd : it.op.dst with
              | none => rfl
              | some d =>
                rw [hdd] at htd
                simp only [Act.put, Array.getD_eq_getD_getElem?, Array.getElem?_setIfInBounds]
                rw [if_neg (fun e => htd (by rw [e]))]
            rw [this]
            exact q.mono hle
          · right
            refine ⟨p, hp, ?_, hpd⟩
            rw [getD_set hilt, if_neg]
            · exact hpl
            · intro e
              have : (p, _) = _ := h.idun _ (h.pend p hp hpl).2.choose_spec.1 _ hdone e
              obtain rfl := (Prod.mk.inj this).1
              exact htd hpd
    rcases hP with ⟨hw0, hv⟩ | ⟨hw1, hP⟩
    · rw [hgd] at hw0
      rw [wanted_sound hg hT hw0]
      simp only [Bool.false_eq_true, if_false]
      exact hn pre rest done s θ _ w (fin θ undef (.tup []) w hv (undef_rel θ) h.heap (fun _ _ _ _ _ h => h) (Th.Le.refl _)) hhead (Th.Up.refl _ _)
    · rw [hgd] at hw1
      rw [wanted_sound hg hT hw1]
      simp only [if_true]
      left
      rcases hP with ⟨ao, v, e1, e2, e3⟩ | ⟨ao, v, e1, e2, e3⟩ | ⟨ao, ob, mk, id, e1, e2, e3, e4, e5, e6⟩
      · refine stepIn_sound (call := call) hok hai hT h.heap (r := ⟨v, s.H, []⟩) (by rw [← hop, e1]; simp only [stepIn, e2]) fun θ' u w' ds g1 g2 g3 g4 => ?_
        simp only [DRel] at g4; subst g4
        have hP' : ∀ p ∈ pre, p.i ≠ it.i → ∀ idp, (p, idp) ∈ done → POk s θ p idp → POk s θ' p idp := fun p hp _ idp hpd hpo => hpo.keep (fun _ _ => rfl) (fun _ _ => rfl) (fun _ _ _ _ hv => hv) fun _ _ id' _ hid' hz => ⟨rfl, by rw [g1.2 id' ((h.ids _ hpd).2 id' hid').2]; exact hz⟩
        exact hn pre rest done s θ' _ w' (fin θ' u v w' e3 g2 g3 hP' g1.1) hhead (g1.less h.base)
      · refine stepIn_sound (call := call) hok hai hT h.heap (r := ⟨v, s.H, []⟩) (by rw [← hop, e1]; simp only [stepIn, e2]) fun θ' u w' ds g1 g2 g3 g4 => ?_
        simp only [DRel] at g4; subst g4
        have hP' : ∀ p ∈ pre, p.i ≠ it.i → ∀ idp, (p, idp) ∈ done → POk s θ p idp → POk s θ' p idp := fun p hp _ idp hpd hpo => hpo.keep (fun _ _ => rfl) (fun _ _ => rfl) (fun _ _ _ _ hv => hv) fun _ _ id' _ hid' hz => ⟨rfl, by rw [g1.2 id' ((h.ids _ hpd).2 id' hid').2]; exact hz⟩
        exact hn pre rest done s θ' _ w' (fin θ' u v w' e3 g2 g3 hP' g1.1) hhead (g1.less h.base)
      · have hcn := cIn_new (by rw [← e1, hop]; exact hai)
        obtain ⟨u, c, l, g1, g2, g3, g4⟩ := aNew_sound hcn hT e3 w
        obtain ⟨_, hidr⟩ := h.ids _ hdone
        obtain ⟨hid0, hid1⟩ := hidr id e2
        unfold Oper.wp
        rw [g1, Oper.upon_value]
        have hW : WRel K (θ.ext id l) s.H (w.alloc c) := h.heap.place e5 hid1 g2 fun o' ho' => by
          rw [e4] at ho'
          obtain rfl := Option.some.inj ho'
          exact g3
        refine hn pre rest done s (θ.ext id l) _ _ (fin (θ.ext id l) u (mk id) _ e6 (g4 _ _ (Th.ext_same _ _ _)) hW ?_ (Th.ext_le e5)) hhead ⟨Th.ext_le e5, fun j hj => Th.ext_other (by omega)⟩
        intro p hp hne idp hpd hpo
        refine hpo.keep (fun _ _ => rfl) (fun _ _ => rfl) (fun _ _ _ _ hv => hv) fun _ _ id' _ hid' hz => ⟨rfl, ?_⟩
        rw [Th.ext_other]
        · exact hz
        · intro e
          subst e
          exact h.idne _ hpd _ hdone hne id' hid' e2
  · -- the next effect
    obtain ⟨e, r, hr, heff⟩ : ∃ e r, rest = e :: r ∧ e.op.op.isEff = true := by
      rcases hhead with q | q
      · rw [q] at hit; simp at hit
      · exact q
    have hite : it = e := by
      rw [hr] at hit
      rcases List.mem_cons.1 hit with q | q
      · exact q
      · exfalso
        obtain ⟨r1, r2, hr'⟩ := List.append_of_mem q
        have hord := hst.ord pre e r1 it r2 (by rw [h.split, hr, hr']; simp)
        have h1 := hancl _ (hord.2.1 heff)
        rw [h.later e (by rw [hr]; simp)] at h1
        cases h1
    subst hite
    subst hr
    have hsp := h.split
    have hsp' : items = pre ++ [it] ++ r := by rw [hsp]; simp
    have hrun := h.run
    simp only [runD] at hrun
    have hnew : ∀ d ∈ done, d.1.i ≠ it.i := fun d hd => hst.ne hsp d.1 (h.ids d hd).1
    have later' : ∀ p ∈ r, (listed.setIfInBounds it.i true).getD p.i false = false := by
      intro p hp
      rw [getD_set hilt, if_neg]
      · exact h.later p (by simp [hp])
      · intro e
        obtain ⟨r1, r2, hr⟩ := List.append_of_mem hp
        exact hst.ne (pre := pre ++ it :: r1) (q := p) (post := r2) (by rw [h.split, hr]; simp) it (by simp) e.symm
    have fin : ∀ (θ' : Th) (u : Value) (v : AVal) (H' : Heap) (D' : List (FuncId × List AVal)) (ds : List Deferred) (w' : World), runD call r ((it, none) :: done) ⟨putO s.T it.op.dst v, H', D'⟩ = some sf → VRel θ' v u → θ.Up s.H.nx θ' → s.H.nx ≤ H'.nx → WRel K θ' H' w' → DRel θ' D' ds →
        (∀ p ∈ pre, p.op.op.isEff = false → listed.getD p.i false = false → ∀ idp, (p, idp) ∈ done → aWanted (s.T.only p.slots) p.op.gd = some true → (∀ ao v, p.op.op = .read ao → aRead (s.T.only p.slots) s.H ao = some v → aRead (s.T.only p.slots) H' ao = some v) ∧ (∀ ao id, p.op.op = .new ao → idp = some id → H'.get id = s.H.get id)) →
        next ({ a with defers := ds }.put o.dst u) w' := by
      intro θ' u v H' D' ds w' hrun' hvu hup hnx hW hD hstill
      have hinv : DInv0 call N ops items sf n0 K (listed.setIfInBounds it.i true) (pre ++ [it]) r ((it, none) :: done) ⟨putO s.T it.op.dst v, H', D'⟩ θ' ({ a with defers := ds }.put o.dst u) w' := by
        refine ⟨hsp', hrun', by simp [h.lsize], hdown', later', ?_, Nat.le_trans h.base hnx, ?_, ?_, ?_, ?_, by cases o.dst <;> simp [Act.put, h.asize], hW, by rw [Act.put_defers]; exact hD⟩
        · intro p hp hpl
          rw [getD_set hilt] at hpl
          split at hpl
          · cases hpl
          · rename_i hne
            rcases List.mem_append.1 hp with hp | hp
            · obtain ⟨q1, idp, q2, q3⟩ := h.pend p hp hpl
              refine ⟨q1, idp, List.mem_cons_of_mem _ q2, q3.keep ?_ ?_ ?_ ?_⟩
              · intro t ht
                simp only [putO_get]
                rw [if_neg]
                intro hd'
                exact (hst.later_slot hsp hp hd').2 ht
              · intro t ht
                simp only [putO_get]
                rw [if_neg]
                intro hd'
                exact (hst.later_slot hsp hp hd').1 ht
              · intro hw' ao v' hop' hv'
                exact (hstill p hp q1 hpl idp q2 hw').1 ao v' hop' hv'
              · intro hw' ao id hop' hid' hz
                exact ⟨(hstill p hp q1 hpl idp q2 hw').2 ao id hop' hid', by rw [hup.2 id ((h.ids _ q2).2 id hid').2]; exact hz⟩
            · obtain rfl : p = it := by simpa using hp
              exact absurd rfl hne
        · intro d hd'
          rcases List.mem_cons.1 hd' with rfl | hd'
          · exact ⟨by simp, fun id hid' => nomatch hid'⟩
          · exact ⟨by simp [(h.ids d hd').1], fun id hid' => ⟨((h.ids d hd').2 id hid').1, Nat.lt_of_lt_of_le ((h.ids d hd').2 id hid').2 hnx⟩⟩
        · intro d hd1 d' hd2 hne id hid' hid''
          rcases List.mem_cons.1 hd1 with rfl | hd1 <;> rcases List.mem_cons.1 hd2 with rfl | hd2
          · exact hne rfl
          · cases hid'
          · cases hid''
          · exact h.idne d hd1 d' hd2 hne id hid' hid''
        · intro d hd1 d' hd2 heq
          rcases List.mem_cons.1 hd1 with rfl | hd1 <;> rcases List.mem_cons.1 hd2 with rfl | hd2
          · rfl
          · exact absurd heq.symm (hnew d' hd2)
          · exact absurd heq (hnew d hd1)
          · exact h.idun d hd1 d' hd2 heq
        · intro t v' ht
          simp only [putO_get] at ht
          split at ht
          · rename_i htd
            left
            obtain rfl := Option.some.inj ht
            rw [hdst] at htd
            rw [htd]
            have htN : t < a.tmps.size := by
              rw [h.asize]
              rw [htd] at hd
              simpa [dstOk] using hd
            simp only [Act.put, Array.getD_eq_getD_getElem?, Array.getElem?_setIfInBounds]
            simpa [htN] using hvu
          · rename_i htd
            rcases h.slots t v' ht with q | ⟨p, hp, hpl, hpd⟩
            · left
              have : (({ a with defers := ds } : Act).put o.dst u).tmps.getD t undef = a.tmps.getD t undef := by
                rw [← hdst]
                cases hdd : it.op.dst with
                | none => rfl
                | some d =>
                  rw [hdd] at htd
                  simp only [Act.put, Array.getD_eq_getD_getElem?, Array.getElem?_setIfInBounds]
                  rw [if_neg (fun e => htd (by rw [e]))]
              rw [this]
              exact q.mono hup.1
            · right
              refine ⟨p, by simp [hp], ?_, hpd⟩
              rw [getD_set hilt, if_neg (hst.ne hsp p hp)]
              exact hpl
      obtain ⟨p', r', d', s', k1, k2, k3⟩ := hinv.advance hst
      exact hn p' r' d' s' θ' _ w' k1 k2 (hup.less h.base)
    split at hrun <;> (try simp only [reduceCtorEq] at hrun)
    · rename_i hw0
      rw [hgd] at hw0
      rw [wanted_sound hg hT hw0]
      simp only [Bool.false_eq_true, if_false]
      exact fin θ undef (.tup []) s.H s.D a.defers w hrun (undef_rel θ) (Th.Up.refl _ _) (Nat.le_refl _) h.heap h.defs (fun p _ _ _ idp _ _ => ⟨fun _ _ _ hv => hv, fun _ _ _ _ => rfl⟩)
    · rename_i hw1
      rw [hgd] at hw1
      rw [wanted_sound hg hT hw1]
      simp only [if_true]
      left
      split at hrun <;> (try simp only [reduceCtorEq] at hrun)
      rename_i rr hrr
      split at hrun <;> (try simp only [reduceCtorEq] at hrun)
      rename_i hall
      rw [heff] at hall
      simp only [Bool.true_and, Bool.not_eq_true, Bool.not_eq_false', List.all_eq_true, Bool.or_eq_true] at hall
      have hnid : newId it.op.op s.H.nx = none := by
        cases hoo : it.op.op <;> simp [newId]
        rw [hoo] at heff; simp [AIn.isEff] at heff
      rw [hnid] at hrun
      refine stepIn_sound hok hai hT h.heap (by rw [← hop]; exact hrr) fun θ' u w' ds g1 g2 g3 g4 => ?_
      refine fin θ' u rr.v rr.H (rr.D ++ s.D) (ds ++ a.defers) w' hrun g2 g1 (stepIn_nx hok hrr) g3 (g4.append (h.defs.mono g1.1)) ?_
      intro p hp hpe hpl idp hpd hpw
      have hso : stillOk s.T s.H rr.H (p, idp) = true := by
        have hin : p.i ∈ it.pend := by
          obtain ⟨p1, p2, hp12⟩ := List.append_of_mem hp
          have hord := hst.ord p1 p p2 it r (by rw [hsp, hp12])
          rcases hord.2.2 hpe heff with q | q
          · rw [hancl _ q] at hpl; cases hpl
          · exact q
        rcases hall (p, idp) hpd with q | q
        · simp [hin] at q
        · exact q
      unfold stillOk at hso
      simp only [hpw] at hso
      constructor
      · intro ao v hpo hv
        rw [hpo] at hso
        simp only [hv] at hso
        split at hso
        · rename_i v1 v2 e1 e2
          obtain rfl := Option.some.inj e1
          rw [e2, AVal.same_eq _ _ hso]
        · cases hso
      · intro ao id hpo hid'
        rw [hpo] at hso
        simp only [hid'] at hso
        exact (osame_eq hso).symm

end
end
end AM
end Go.Proofs.YtlgbgbngdhhjaaaGreatDoor

set_option linter.unusedSimpArgs false
set_option linter.unusedVariables false
namespace Go.Proofs.YtlgbgbngdhhjaaaGreatDoor
namespace AM
noncomputable section
open Go

section
variable {P : Program} {tbl : String → List (TypeId × FuncId)} {call : CallF} {N : Nat} {ops : Array Oper} {anc : Nat → List Nat} {items : List DItem} {sf : St} {n0 : Nat}

theorem all_listed (hst : DStat P tbl N ops anc items) {listed : Array Bool} (hs : listed.size = ops.size) (hr : Region.ready .any ops listed = []) : ∀ it ∈ items, listed.getD it.i false = true := by
  have key : ∀ (pre post : List DItem), items = pre ++ post → (∀ it ∈ pre, listed.getD it.i false = true) → ∀ it ∈ post, listed.getD it.i false = true := by
    intro pre post
    induction post generalizing pre with
    | nil => intro _ _ it h; simp at h
    | cons q post ih =>
      intro hsp hpre
      have hq : listed.getD q.i false = true := by
        obtain ⟨o, ho, _⟩ := hst.op q (by rw [hsp]; simp)
        cases hl : listed.getD q.i false with
        | true => rfl
        | false =>
          have : q.i ∈ Region.ready .any ops listed := (mem_ready hs).2 ⟨(Array.getElem?_eq_some_iff.1 ho).1, hl, fun o' ho' j hj => by
            obtain ⟨p, hp, rfl⟩ := hst.first pre q post hsp o' ho' j hj
            exact hpre p hp⟩
          rw [hr] at this
          simp at this
      intro it hit
      rcases List.mem_cons.1 hit with rfl | hit
      · exact hq
      · refine ih (pre ++ [q]) (by rw [hsp]; simp) (fun x hx => ?_) it hit
        rcases List.mem_append.1 hx with hx | hx
        · exact hpre x hx
        · obtain rfl : x = q := by simpa using hx
          exact hq
  exact key [] items rfl (by simp)

theorem draw_any (hst : DStat P tbl N ops anc items) (hok : CallOk P call) {Q : Exit → Act → World → Prop} {K : Kept} {θ0 : Th} (hQ : ∀ θ' a' w', θ0.Up n0 θ' → n0 ≤ sf.H.nx → SRel K θ' N sf a' w' → Q .normal a' w') :
    ∀ (fuel : Nat) (U : List Nat) {listed : Array Bool} {pre rest : List DItem} {done : List (DItem × Option Nat)} {s : St} {θ : Th} {a : Act} {w : World},
    DInv0 call N ops items sf n0 K listed pre rest done s θ a w → (rest = [] ∨ ∃ e r, rest = e :: r ∧ e.op.op.isEff = true) → θ0.Up n0 θ → (∀ i, i < ops.size → listed.getD i false = false → i ∈ U) → U.length ≤ fuel → wpAny P .any ops Q fuel listed a w := by
  have ending : ∀ {listed : Array Bool} {pre rest : List DItem} {done : List (DItem × Option Nat)} {s : St} {θ : Th} {a : Act} {w : World}, DInv0 call N ops items sf n0 K listed pre rest done s θ a w → θ0.Up n0 θ → Region.ready .any ops listed = [] → Q .normal a w := by
    intro listed pre rest done s θ a w h hup hr
    have hall := all_listed hst h.lsize hr
    have hrest : rest = [] := by
      cases rest with
      | nil => rfl
      | cons e r =>
        have h1 := h.later e (by simp)
        rw [hall e (by rw [h.split]; simp)] at h1
        cases h1
    subst hrest
    have hrun := h.run
    simp only [runD, Option.some.injEq] at hrun
    subst hrun
    refine hQ θ a w hup h.base ⟨h.heap, ⟨h.asize, fun t v ht => ?_⟩, h.defs⟩
    rcases h.slots t v ht with q | ⟨p, hp, hpl, _⟩
    · exact q
    · rw [hall p (by rw [h.split]; simp [hp])] at hpl
      cases hpl
  intro fuel
  induction fuel with
  | zero =>
    intro U listed pre rest done s θ a w h hhead hup hU hl
    have hr : Region.ready .any ops listed = [] := by
      rw [List.eq_nil_iff_forall_not_mem]
      intro i hi
      obtain ⟨h1, h2, _⟩ := (mem_ready h.lsize).1 hi
      have := hU i h1 h2
      have hU0 : U = [] := List.eq_nil_of_length_eq_zero (by omega)
      rw [hU0] at this; simp at this
    exact ⟨hr, ending h hup hr⟩
  | succ fuel ih =>
    intro U listed pre rest done s θ a w h hhead hup hU hl
    refine ⟨fun hr => ending h hup hr, fun i hi => ?_⟩
    obtain ⟨h1, h2, _⟩ := (mem_ready h.lsize).1 hi
    refine h.step hst hok hhead hi fun pre' rest' done' s' θ' a' w' k1 k2 k3 => ?_
    refine ih (U.erase i) k1 k2 (hup.trans (Nat.le_refl _) k3) (fun j hj hjl => ?_) ?_
    · rw [getD_set (by rw [h.lsize]; exact h1)] at hjl
      split at hjl
      · cases hjl
      · rename_i hne
        exact (List.mem_erase_of_ne hne).2 (hU j hj hjl)
    · have := List.length_erase_of_mem (hU i h1 h2)
      omega

theorem draw_sound (hst : DStat P tbl N ops anc items) (hok : CallOk P call) (hm : P.follows .mixedOrders = true) {Q : Exit → Act → World → Prop} {K : Kept} {θ : Th} {s : St} {a : Act} {w : World} (id : Nat)
    (hs : SRel K θ N s a w) (h : runD call items [] s = some sf) (hQ : ∀ θ' a' w', θ.Up s.H.nx θ' → s.H.nx ≤ sf.H.nx → SRel K θ' N sf a' w' → Q .normal a' w') : (Code.region id ops true).wp P Q a w := by
  refine wp_region_any hm ?_
  have h0 : DInv0 call N ops items sf s.H.nx K (Array.replicate ops.size false) [] items [] s θ a { w with drawn := w.drawn + 1 } := by
    have hf : ∀ i, (Array.replicate ops.size false).getD i false = false := by
      intro i
      rw [Array.getD_eq_getD_getElem?, Array.getElem?_replicate]
      split <;> rfl
    refine ⟨rfl, h, by simp, (fun i o j hi => by rw [hf] at hi; cases hi), fun it _ => hf _, (fun it hit => by simp at hit), Nat.le_refl _, (fun d hd => by simp at hd), (fun d hd => by simp at hd), (fun d hd => by simp at hd), fun t v ht => .inl (hs.A.2 t v ht), hs.A.1, hs.W.drew _, hs.D⟩
  obtain ⟨p', r', d', s', k1, k2, k3⟩ := h0.advance hst
  exact draw_any hst hok hQ ops.size (List.range ops.size) k1 k2 (Th.Up.refl _ _) (fun i hi _ => List.mem_range.2 hi) (by simp)

end

/-! ### Compiling -/
def AOpd.sl : AOpd → List Nat
  | .t n => [n]
  | .c _ => []
def oSl : Option AOpd → List Nat
  | some x => x.sl
  | none => []

def AOp.sl : AOp → List Nat
  | .mov x | .nilck x | .not x | .convI _ x | .convSS x | .convIS x | .mkifc _ x | .len x | .lenS x | .lenM x | .fieldA _ x | .field _ _ _ x | .ext _ x | .load _ _ x | .bts x | .box x | .stb x | .clr _ _ x => x.sl
  | .pick a b c | .upd _ a b c => a.sl ++ b.sl ++ c.sl
  | .bin _ a b | .eqt _ _ a b | .idxA _ a b | .idxS a b | .look _ _ _ a b | .mksl _ _ _ a b | .store _ a b | .app _ _ a b => a.sl ++ b.sl
  | .mkfn _ l | .call _ l => l.flatMap AOpd.sl
  | .callv x l | .inv x _ l => x.sl ++ l.flatMap AOpd.sl
  | .dfr _ l => l.flatMap AOpd.sl
  | .build _ ps => ps.flatMap fun p => p.2.2.sl
  | .bsl _ _ _ ps => ps.flatMap fun p => p.2.sl
  | .slcS x a b => x.sl ++ oSl a ++ oSl b
  | .slc _ x a b c => x.sl ++ oSl a ++ oSl b ++ oSl c
  | .alloc _ | .mkmap => []

def AIn.sl : AIn → List Nat
  | .pure o | .read o | .new o | .eff o => o.sl
  | .call _ l | .dfr _ l => l.flatMap AOpd.sl
  | .callv x l | .inv x _ l | .dfrv x l => x.sl ++ l.flatMap AOpd.sl

def AOper.sl (o : AOper) : List Nat := (o.op.sl ++ (match o.gd with | some (t, _) => [t] | none => [])).eraseDups

def asapGo (n : Nat) (pr : Nat → List Nat) (eff : Nat → Bool) : Nat → List Nat → List Nat
  | 0, done => done.reverse
  | k + 1, done =>
    match (List.range n).find? fun i => !eff i && !done.contains i && (pr i).all done.contains with
    | some i => asapGo n pr eff k (i :: done)
    | none => match (List.range n).find? fun i => !done.contains i && (pr i).all done.contains with
      | some i => asapGo n pr eff k (i :: done)
      | none => done.reverse

def mkItems (anc : Nat → List Nat) (aops : List AOper) : List Nat → List DItem → List DItem
  | [], _ => []
  | i :: r, before =>
    match aops[i]? with
    | none => []
    | some o =>
      let it : DItem := ⟨i, o, o.sl, if o.op.isEff then (before.filter fun p => !p.op.op.isEff && !(anc i).contains p.i).map (·.i) else []⟩
      it :: mkItems anc aops r (it :: before)

def ordOk (anc : Nat → List Nat) : List DItem → Bool
  | [] => true
  | p :: r => (r.all fun q => p.i != q.i && (if p.op.op.isEff then (anc q.i).contains p.i else (!q.op.op.isEff || (anc q.i).contains p.i || q.pend.contains p.i))) && ordOk anc r

def slotOk1 (anc : Nat → List Nat) (p q : DItem) : Bool :=
  match p.op.dst with
  | none => true
  | some t => p.i == q.i || (!(q.op.dst == some t) && (!(q.slots.contains t) || (anc q.i).contains p.i))

def ownOk1 (p : DItem) : Bool :=
  match p.op.dst with
  | none => true
  | some t => !(p.slots.contains t)

def firstOk (ops : Array Oper) : List Nat → List DItem → Bool
  | _, [] => true
  | before, q :: r => (match ops[q.i]? with | some o => (preds o).all before.contains | none => false) && firstOk ops (q.i :: before) r

def statOk (n : Nat) (ops : Array Oper) (aops : List AOper) (anc : Nat → List Nat) (items : List DItem) : Bool :=
  items.length == n && (List.range n).all (fun k => items.any fun it => it.i == k) && ordOk anc items && items.all (fun p => items.all fun q => slotOk1 anc p q) && items.all ownOk1 && firstOk ops [] items

def cDraw (P : Program) (tbl : String → List (TypeId × FuncId)) (N : Nat) (ops : Array Oper) : Option (List DItem) :=
  match cOpers P tbl N ops ops.toList with
  | none => none
  | some aops =>
    let anc := fun i => (ancs ops.toList).getD i []
    let eff := fun i => match aops[i]? with | some o => o.op.isEff | none => false
    let pr := fun i => match ops[i]? with | some o => preds o | none => []
    let items := mkItems anc aops (asapGo ops.size pr eff ops.size []) []
    if statOk ops.size ops aops anc items then some items else none

theorem mkItems_op {anc : Nat → List Nat} {aops : List AOper} : ∀ {l : List Nat} {before : List DItem} {it : DItem}, it ∈ mkItems anc aops l before → aops[it.i]? = some it.op
  | [], _, it, h => by simp [mkItems] at h
  | i :: r, before, it, h => by
    simp only [mkItems] at h
    split at h
    · simp at h
    · rename_i o ho
      rcases List.mem_cons.1 h with rfl | h
      · exact ho
      · exact mkItems_op h

theorem cOpers_get {P : Program} {tbl : String → List (TypeId × FuncId)} {N : Nat} {ops : Array Oper} : ∀ {l : List Oper} {al : List AOper}, cOpers P tbl N ops l = some al → ∀ (i : Nat) (ao : AOper), al[i]? = some ao → ∃ o, l[i]? = some o ∧ cOper P tbl N ops o = some ao
  | [], al, h, i, ao, hi => by simp [cOpers] at h; subst h; simp at hi
  | o :: l, al, h, i, ao, hi => by
    simp only [cOpers] at h
    split at h <;> (try simp only [Option.some.injEq, reduceCtorEq] at h)
    rename_i a as ha has
    subst h
    cases i with
    | zero => simp at hi; subst hi; exact ⟨o, by simp, ha⟩
    | succ i => simpa using cOpers_get has i ao (by simpa using hi)

theorem ordOk_spec {anc : Nat → List Nat} : ∀ {items : List DItem}, ordOk anc items = true → ∀ (pre : List DItem) (p : DItem) (mid : List DItem) (q : DItem) (post : List DItem), items = pre ++ p :: mid ++ q :: post →
    p.i ≠ q.i ∧ (p.op.op.isEff = true → p.i ∈ anc q.i) ∧ (p.op.op.isEff = false → q.op.op.isEff = true → p.i ∈ anc q.i ∨ p.i ∈ q.pend)
  | [], _, pre, p, mid, q, post, h => by cases pre <;> simp at h
  | x :: items, hok, pre, p, mid, q, post, h => by
    simp only [ordOk, Bool.and_eq_true] at hok
    cases pre with
    | cons y pre =>
      simp only [List.cons_append, List.cons.injEq] at h
      exact ordOk_spec hok.2 pre p mid q post h.2
    | nil =>
      simp only [List.nil_append, List.cons_append, List.cons.injEq] at h
      obtain ⟨rfl, h⟩ := h
      have := List.all_eq_true.1 hok.1 q (by rw [h]; simp)
      simp only [Bool.and_eq_true, bne_iff_ne] at this
      obtain ⟨h1, h2⟩ := this
      refine ⟨h1, fun he => ?_, fun he hq => ?_⟩
      · rw [he] at h2; simpa using h2
      · rw [he, hq] at h2; simpa using h2

theorem firstOk_spec {ops : Array Oper} : ∀ {items : List DItem} {before : List Nat}, firstOk ops before items = true → ∀ (pre : List DItem) (q : DItem) (post : List DItem), items = pre ++ q :: post → ∀ o, ops[q.i]? = some o → ∀ j ∈ preds o, j ∈ before ∨ ∃ p ∈ pre, p.i = j
  | [], _, _, pre, q, post, h => by cases pre <;> simp at h
  | x :: items, before, hok, pre, q, post, h => by
    simp only [firstOk, Bool.and_eq_true] at hok
    cases pre with
    | nil =>
      simp only [List.nil_append, List.cons.injEq] at h
      obtain ⟨rfl, _⟩ := h
      intro o ho j hj
      rw [ho] at hok
      have := List.all_eq_true.1 hok.1 j hj
      exact .inl (by simpa using this)
    | cons y pre =>
      simp only [List.cons_append, List.cons.injEq] at h
      obtain ⟨rfl, h⟩ := h
      intro o ho j hj
      rcases firstOk_spec hok.2 pre q post h o ho j hj with q1 | ⟨p, hp, rfl⟩
      · rcases List.mem_cons.1 q1 with rfl | q1
        · exact .inr ⟨x, by simp, rfl⟩
        · exact .inl q1
      · exact .inr ⟨p, by simp [hp], rfl⟩

theorem ancs_spec {ops : List Oper} (L : Nat → Prop) (hL : ∀ i o j, L i → ops[i]? = some o → j ∈ preds o → L j) : ∀ i o, ops[i]? = some o → (∀ j ∈ preds o, L j) → ∀ j ∈ (ancs ops).getD i [], L j := by
  have key : ∀ (l pre : List Oper) (acc : List (List Nat)), ops = pre ++ l → acc.length = pre.length → (∀ i o, ops[i]? = some o → (∀ j ∈ preds o, L j) → ∀ j ∈ acc.getD i [], L j) →
      ∀ i o, ops[i]? = some o → (∀ j ∈ preds o, L j) → ∀ j ∈ (l.foldl (fun acc o => acc ++ [(preds o ++ (preds o).flatMap fun j => acc.getD j []).eraseDups]) acc).getD i [], L j := by
    intro l
    induction l with
    | nil => intro pre acc _ _ h; exact h
    | cons x l ih =>
      intro pre acc hop hlen hacc
      simp only [List.foldl_cons]
      refine ih (pre ++ [x]) _ (by rw [hop]; simp) (by simp [hlen]) ?_
      intro i o ho hp j hj
      rw [List.getD_eq_getElem?_getD] at hj
      by_cases hi : i < acc.length
      · rw [List.getElem?_append_left hi] at hj
        exact hacc i o ho hp j (by rw [List.getD_eq_getElem?_getD]; exact hj)
      · by_cases hi2 : i = acc.length
        · subst hi2
          simp only [List.getElem?_concat_length, Option.getD_some, List.mem_eraseDups, List.mem_append, List.mem_flatMap] at hj
          have hox : o = x := by
            rw [hop, hlen, List.getElem?_append_right (Nat.le_refl _)] at ho
            simpa using ho.symm
          subst hox
          rcases hj with hj | ⟨p, hp1, hp2⟩
          · exact hp j hj
          · have hLp := hp p hp1
            cases hpo : ops[p]? with
            | none =>
              have hge : acc.length ≤ p := by
                have : ops.length ≤ p := List.getElem?_eq_none_iff.1 hpo
                have : acc.length ≤ ops.length := by rw [hlen, hop]; simp
                omega
              rw [List.getD_eq_getElem?_getD, List.getElem?_eq_none hge] at hp2
              simp at hp2
            | some op' => exact hacc p op' hpo (fun j' hj' => hL p op' j' hLp hpo hj') j hp2
        · rw [List.getElem?_eq_none (by simp; omega)] at hj
          simp at hj
  exact key ops [] [] rfl rfl (fun i o _ _ j hj => by simp at hj)

theorem cDraw_stat {P : Program} {tbl : String → List (TypeId × FuncId)} {N : Nat} {ops : Array Oper} {items : List DItem} (h : cDraw P tbl N ops = some items) : DStat P tbl N ops (fun i => (ancs ops.toList).getD i []) items := by
  unfold cDraw at h
  split at h <;> (try simp only [reduceCtorEq] at h)
  rename_i aops haops
  split at h <;> (try simp only [Option.some.injEq, reduceCtorEq] at h)
  rename_i hok
  rw [h] at hok
  simp only [statOk, Bool.and_eq_true, beq_iff_eq] at hok
  obtain ⟨⟨⟨⟨⟨h1, h2⟩, h3⟩, h4⟩, h5⟩, h6⟩ := hok
  refine ⟨h1, fun k hk => ?_, fun it hit => ?_, ordOk_spec h3, fun p hp q hq hne t ht => ?_, fun p hp t ht hs => ?_, fun pre q post hs o ho j hj => ?_, fun L hL => ?_⟩
  · have := List.all_eq_true.1 h2 k (List.mem_range.2 hk)
    simp only [List.any_eq_true, beq_iff_eq] at this
    exact this
  · rw [← h] at hit
    obtain ⟨o, ho1, ho2⟩ := cOpers_get haops _ _ (mkItems_op hit)
    exact ⟨o, by simpa using ho1, ho2⟩
  · have := List.all_eq_true.1 (List.all_eq_true.1 h4 p hp) q hq
    simp only [slotOk1, ht, Bool.or_eq_true, Bool.and_eq_true, beq_iff_eq, Bool.not_eq_true', beq_eq_false_iff_ne] at this
    rcases this with q1 | ⟨q1, q2⟩
    · exact absurd q1 hne
    · refine ⟨q1, fun hts => ?_⟩
      rcases q2 with q2 | q2
      · simp [hts] at q2
      · simpa using q2
  · have := List.all_eq_true.1 h5 p hp
    simp only [ownOk1, ht, Bool.not_eq_true'] at this
    simp [hs] at this
  · rcases firstOk_spec h6 pre q post hs o ho j hj with q1 | q1
    · simp at q1
    · exact q1
  · intro i o ho
    exact ancs_spec L (fun i o j h1 h2 h3 => hL i o j h1 (by simpa using h2) h3) i o (by simpa using ho)

end
end AM
end Go.Proofs.YtlgbgbngdhhjaaaGreatDoor

set_option linter.unusedSimpArgs false
set_option linter.unusedVariables false
namespace Go.Proofs.YtlgbgbngdhhjaaaGreatDoor
namespace AM
noncomputable section
open Go

theorem get_only {α : Type} {T : Tr α} {l : List Nat} {k : Nat} (h : k ∈ l) : (T.only l).get k = T.get k := by
  cases hg : T.get k with
  | none =>
    cases ho : (T.only l).get k with
    | none => rfl
    | some v => rw [(only_get ho).2] at hg; cases hg
  | some v =>
    unfold Tr.only
    suffices ∀ (l : List Nat) (z : Tr α), (k ∈ l ∨ z.get k = some v) → (l.foldl (fun t k => match T.get k with | some v => t.put k v | none => t) z).get k = some v from this l .e (.inl h)
    intro l
    induction l with
    | nil => intro z h; simpa using h
    | cons j l ih =>
      intro z h
      simp only [List.foldl_cons]
      refine ih _ ?_
      by_cases hj : j = k
      · subst hj
        right; rw [hg]; simp [Tr.get_put]
      · rcases h with h | h
        · rcases List.mem_cons.1 h with h | h
          · exact absurd h.symm hj
          · exact .inl h
        · right
          split
          · rw [Tr.get_put, if_neg (fun e => hj e.symm)]; exact h
          · exact h

/-- The same slots, as far as they are named. -/
def Alike (l : List Nat) (T T' : Tm) : Prop := ∀ k ∈ l, T'.get k = T.get k

theorem Alike.ev {T T' : Tm} {x : AOpd} (h : Alike x.sl T T') : AM.ev T' x = AM.ev T x := by
  cases x with
  | t n => exact h n (by simp [AOpd.sl])
  | c v => rfl

theorem Alike.left {l l' : List Nat} {T T' : Tm} (h : Alike (l ++ l') T T') : Alike l T T' := fun k hk => h k (by simp [hk])
theorem Alike.right {l l' : List Nat} {T T' : Tm} (h : Alike (l ++ l') T T') : Alike l' T T' := fun k hk => h k (by simp [hk])

theorem Alike.evs {T T' : Tm} : ∀ {l : List AOpd}, Alike (l.flatMap AOpd.sl) T T' → AM.evs T' l = AM.evs T l
  | [], _ => rfl
  | x :: l, h => by
    simp only [List.flatMap_cons] at h
    simp only [AM.evs, h.left.ev, Alike.evs h.right]

theorem Alike.evO {T T' : Tm} : ∀ {x : Option AOpd}, Alike (oSl x) T T' → AM.evO T' x = AM.evO T x
  | none, _ => rfl
  | some x, h => by simp only [AM.evO, h.ev]

theorem Alike.evParts {T T' : Tm} : ∀ {l : List (Nat × Nat × AOpd)}, Alike (l.flatMap fun p => p.2.2.sl) T T' → AM.evParts T' l = AM.evParts T l
  | [], _ => rfl
  | (a, b, x) :: l, h => by
    simp only [List.flatMap_cons] at h
    simp only [AM.evParts, h.left.ev, Alike.evParts h.right]

theorem Alike.pure {T T' : Tm} {o : AOp} (h : Alike o.sl T T') : aPure T' o = aPure T o := by
  cases o <;> simp only [AOp.sl] at h <;> simp only [aPure]
  case mov x => rw [h.ev]
  case pick c a b => rw [h.left.left.ev, h.left.right.ev, h.right.ev]
  case nilck x => rw [h.ev]
  case bin op x y => rw [h.left.ev, h.right.ev]
  case eqt k n x y => rw [h.left.ev, h.right.ev]
  case not x => rw [h.ev]
  case convI k x => rw [h.ev]
  case convSS x => rw [h.ev]
  case convIS x => rw [h.ev]
  case mkifc t x => rw [h.ev]
  case mkfn f l => rw [h.evs]
  case build z ps => rw [h.evParts]
  case len x => rw [h.ev]
  case lenS x => rw [h.ev]
  case fieldA o x => rw [h.ev]
  case field o n b x => rw [h.ev]
  case idxA n x i => rw [h.left.ev, h.right.ev]
  case idxS x i => rw [h.left.ev, h.right.ev]
  case slcS x a b => rw [h.left.left.ev, h.left.right.evO, h.right.evO]
  case slc n x a b c => rw [h.left.left.left.ev, h.left.left.right.evO, h.left.right.evO, h.right.evO]
  case ext n x => rw [h.ev]

theorem Alike.read {T T' : Tm} {H : Heap} {o : AOp} (h : Alike o.sl T T') : aRead T' H o = aRead T H o := by
  cases o <;> simp only [AOp.sl] at h <;> simp only [aRead]
  case load n b a => rw [h.ev]
  case look k z ok m x => rw [h.left.ev, h.right.ev]
  case bts x => rw [h.ev]
  case lenM x => rw [h.ev]

theorem flatMap_map_parts (es : Nat) (l : List (Nat × AOpd)) : ((l.map fun p => (p.1 * es, es, p.2)).flatMap fun p => p.2.2.sl) = l.flatMap fun p => p.2.sl := by
  induction l with
  | nil => rfl
  | cons x l ih => simp only [List.map_cons, List.flatMap_cons, ih]

theorem Alike.new {T T' : Tm} {o : AOp} (h : Alike o.sl T T') : aNew T' o = aNew T o := by
  cases o <;> simp only [AOp.sl] at h <;> simp only [aNew]
  case box x => rw [h.ev]
  case mksl e b z l c => rw [h.left.ev, h.right.ev]
  case bsl e n z ps => rw [Alike.evParts (T := T) (by rw [flatMap_map_parts]; exact h)]

theorem Alike.eff {T T' : Tm} {H : Heap} {o : AOp} (h : Alike o.sl T T') : aEff T' H o = aEff T H o := by
  cases o <;> simp only [AOp.sl] at h <;> simp only [aEff]
  case store n a v => rw [h.left.ev, h.right.ev]
  case app e b s x => rw [h.left.ev, h.right.ev]
  case upd k m x v => rw [h.left.left.ev, h.left.right.ev, h.right.ev]
  case stb x => rw [h.ev]
  case clr e z x => rw [h.ev]

theorem Alike.step {call : CallF} {T T' : Tm} {H : Heap} {o : AIn} (h : Alike o.sl T T') : stepIn call T' H o = stepIn call T H o := by
  cases o <;> simp only [AIn.sl] at h <;> simp only [stepIn]
  case pure o => rw [h.pure]
  case read o => rw [h.read]
  case new o => rw [h.new]
  case eff o => rw [h.eff]
  case call f l => rw [h.evs]
  case callv x l => rw [h.left.ev, h.right.evs]
  case inv x t l => rw [h.left.ev, h.right.evs]
  case dfr f l => rw [h.evs]
  case dfrv x l => rw [h.left.ev, h.right.evs]

theorem AOper.sl_op {o : AOper} {k : Nat} (h : k ∈ o.op.sl) : k ∈ o.sl := by simp [AOper.sl, h]
theorem AOper.sl_gd {o : AOper} {t : Nat} {b : Bool} (h : o.gd = some (t, b)) : t ∈ o.sl := by simp [AOper.sl, h]

theorem wanted_only {T : Tm} {o : AOper} {l : List Nat} (h : ∀ k ∈ o.sl, k ∈ l) : aWanted (T.only l) o.gd = aWanted T o.gd := by
  cases hg : o.gd with
  | none => rfl
  | some p =>
    obtain ⟨t, b⟩ := p
    simp only [aWanted]
    rw [get_only (h t (o.sl_gd hg))]

theorem step_only {call : CallF} {T : Tm} {H : Heap} {o : AOper} {l : List Nat} (h : ∀ k ∈ o.sl, k ∈ l) : stepIn call (T.only l) H o.op = stepIn call T H o.op :=
  Alike.step fun k hk => get_only (h k (AOper.sl_op hk))

def stillOk' (T : Tm) (H H' : Heap) (d : DItem × Option Nat) : Bool :=
  match aWanted T d.1.op.gd with
  | some true => match d.1.op.op with
    | .read ao => match aRead T H ao, aRead T H' ao with
      | some v, some v' => AVal.same v v'
      | _, _ => false
    | .new _ => match d.2 with
      | some id => osame (H.get id) (H'.get id)
      | none => false
    | _ => true
  | _ => true

def runD' (call : CallF) : List DItem → List (DItem × Option Nat) → St → Option St
  | [], _, s => some s
  | it :: rest, done, s =>
    match aWanted s.T it.op.gd with
    | none => none
    | some false => runD' call rest ((it, none) :: done) { s with T := putO s.T it.op.dst (.tup []) }
    | some true => match stepIn call s.T s.H it.op.op with
      | none => none
      | some r =>
        if it.op.op.isEff && !(done.all fun d => !(it.pend.contains d.1.i) || stillOk' s.T s.H r.H d) then none
        else runD' call rest ((it, newId it.op.op s.H.nx) :: done) ⟨putO s.T it.op.dst r.v, r.H, r.D ++ s.D⟩

def SlotsOk (it : DItem) : Prop := ∀ k ∈ it.op.sl, k ∈ it.slots

theorem stillOk_eq {T : Tm} {H H' : Heap} {d : DItem × Option Nat} (h : SlotsOk d.1) : stillOk T H H' d = stillOk' T H H' d := by
  unfold stillOk stillOk'
  rw [wanted_only h]
  cases hw : aWanted T d.1.op.gd with
  | none => rfl
  | some b =>
    cases b with
    | false => rfl
    | true =>
      simp only
      cases ho : d.1.op.op with
      | read ao =>
        have hk : Alike ao.sl T (T.only d.1.slots) := fun k hk => get_only (h k (AOper.sl_op (by rw [ho]; exact hk)))
        simp only
        rw [hk.read, hk.read] <;> rfl
      | _ => rfl

theorem runD_eq {call : CallF} : ∀ {its : List DItem} {done : List (DItem × Option Nat)} {s : St}, (∀ it ∈ its, SlotsOk it) → (∀ d ∈ done, SlotsOk d.1) → runD call its done s = runD' call its done s
  | [], _, _, _, _ => rfl
  | it :: its, done, s, h, hd => by
    have h0 := h it (by simp)
    have h1 : ∀ it ∈ its, SlotsOk it := fun x hx => h x (List.mem_cons_of_mem _ hx)
    have h2 : ∀ o : Option Nat, ∀ d ∈ (it, o) :: done, SlotsOk d.1 := by
      intro o d hd'
      rcases List.mem_cons.1 hd' with rfl | hd'
      · exact h0
      · exact hd d hd'
    simp only [runD, runD', wanted_only h0, step_only h0]
    have hall : ∀ r : StepR, (done.all fun d => !(it.pend.contains d.1.i) || stillOk s.T s.H r.H d) = (done.all fun d => !(it.pend.contains d.1.i) || stillOk' s.T s.H r.H d) := by
      intro r
      rw [Bool.eq_iff_iff]
      simp only [List.all_eq_true]
      constructor
      · intro q d hd'
        rw [← stillOk_eq (hd d hd')]; exact q d hd'
      · intro q d hd'
        rw [stillOk_eq (hd d hd')]; exact q d hd'
    cases aWanted s.T it.op.gd with
    | none => rfl
    | some b =>
      cases b with
      | false => exact runD_eq h1 (h2 _)
      | true =>
        simp only
        cases stepIn call s.T s.H it.op.op with
        | none => rfl
        | some r =>
          simp only [hall r]
          split
          · rfl
          · exact runD_eq h1 (h2 _)

theorem mkItems_slots {anc : Nat → List Nat} {aops : List AOper} : ∀ {l : List Nat} {before : List DItem} {it : DItem}, it ∈ mkItems anc aops l before → SlotsOk it
  | [], _, it, h => by simp [mkItems] at h
  | i :: r, before, it, h => by
    simp only [mkItems] at h
    split at h
    · simp at h
    · rename_i o ho
      rcases List.mem_cons.1 h with rfl | h
      · exact fun k hk => hk
      · exact mkItems_slots h

theorem cDraw_slots {P : Program} {tbl : String → List (TypeId × FuncId)} {N : Nat} {ops : Array Oper} {items : List DItem} (h : cDraw P tbl N ops = some items) : ∀ it ∈ items, SlotsOk it := by
  unfold cDraw at h
  split at h <;> (try simp only [reduceCtorEq] at h)
  rename_i aops haops
  split at h <;> (try simp only [Option.some.injEq, reduceCtorEq] at h)
  intro it hit
  rw [← h] at hit
  exact mkItems_slots hit

theorem runD'_sound {P : Program} {tbl : String → List (TypeId × FuncId)} {N : Nat} {ops : Array Oper} {items : List DItem} (h : cDraw P tbl N ops = some items) {call : CallF} {s sf : St} (hr : runD' call items [] s = some sf) : runD call items [] s = some sf := by
  rw [runD_eq (cDraw_slots h) (by simp)]; exact hr

/-- Nothing is asked again: one by one. -/
theorem runD'_ops {call : CallF} : ∀ {its : List DItem} {done : List (DItem × Option Nat)} {s : St}, (∀ it ∈ its, it.pend = []) → runD' call its done s = runOps call (its.map (·.op)) s
  | [], _, _, _ => rfl
  | it :: its, done, s, h => by
    have h0 := h it (by simp)
    have h1 : ∀ it ∈ its, it.pend = [] := fun x hx => h x (List.mem_cons_of_mem _ hx)
    simp only [runD', List.map_cons, runOps, runOp]
    cases aWanted s.T it.op.gd with
    | none => rfl
    | some b =>
      cases b with
      | false => simp only; exact runD'_ops h1
      | true =>
        simp only
        cases stepIn call s.T s.H it.op.op with
        | none => rfl
        | some r =>
          have : (done.all fun d => !(it.pend.contains d.1.i) || stillOk' s.T s.H r.H d) = true := by
            rw [h0]; simp
          simp only [this, Bool.not_true, Bool.and_false, Bool.false_eq_true, if_false]
          exact runD'_ops h1

end
end AM
end Go.Proofs.YtlgbgbngdhhjaaaGreatDoor

set_option linter.unusedSimpArgs false
set_option linter.unusedVariables false
namespace Go.Proofs.YtlgbgbngdhhjaaaGreatDoor
namespace AM
noncomputable section
open Go

inductive ACode where
  | skip
  | region (ops : List AOper)
  | draw (its : List DItem)
  | seq (x y : ACode)
  | cond (c : AOpd) (x y : ACode)
  | block (id : Nat) (c : ACode)
  | loop (c : ACode)
  | exit (id : Nat)
  | ret
  | mask (l : List Nat) (c : ACode)
  | stuck

def ACode.erase : ACode → ACode
  | .seq x y => .seq x.erase y.erase
  | .cond c x y => .cond c x.erase y.erase
  | .block id c => .block id c.erase
  | .loop c => .loop c.erase
  | .mask _ c => c.erase
  | c => c

def cCode (P : Program) (tbl : String → List (TypeId × FuncId)) (N : Nat) : Code → Option ACode
  | .skip => some .skip
  | .region _ ops false => match cOpers P tbl N ops ops.toList with
    | some l => some (.region l)
    | none => some .stuck
  | .region _ ops true => match cDraw P tbl N ops with
    | some l => some (.draw l)
    | none => some .stuck
  | .seq x y => match cCode P tbl N x, cCode P tbl N y with
    | some x, some y => some (.seq x y)
    | _, _ => none
  | .cond c x y => match cOpd c, cCode P tbl N x, cCode P tbl N y with
    | some c, some x, some y => some (.cond c x y)
    | _, _, _ => none
  | .block id c => match cCode P tbl N c with
    | some c => some (.block id c)
    | none => none
  | .loop c => match cCode P tbl N c with
    | some c => some (.loop c)
    | none => none
  | .exit id => some (.exit id)
  | .ret => some .ret
  | .label _ => some .skip
  | _ => some .stuck

inductive AEx where
  | normal
  | exit (id : Nat)
  | ret

def AEx.to : AEx → Exit
  | .normal => .normal
  | .exit id => .exit id
  | .ret => .ret

def loopN (f : St → Option (AEx × St)) : Nat → St → Option (AEx × St)
  | 0, _ => none
  | n + 1, s => match f s with
    | some (.normal, s) => loopN f n s
    | r => r

def evalC (call : CallF) (m : Bool) (n : Nat) : ACode → St → Option (AEx × St)
  | .skip, s => some (.normal, s)
  | .region ops, s => match runOps call ops s with
    | some s => some (.normal, s)
    | none => none
  | .draw its, s => match runD' call its [] s with
    | some s => some (.normal, s)
    | none => none
  | .seq x y, s => match evalC call m n x s with
    | some (.normal, s) => evalC call m n y s
    | r => r
  | .cond c x y, s => match ev s.T c with
    | some (.b true) => evalC call m n x s
    | some (.b false) => evalC call m n y s
    | _ => none
  | .block id c, s => match evalC call m n c s with
    | some (.exit j, s) => some (if j = id then .normal else .exit j, s)
    | r => r
  | .loop c, s => loopN (evalC call m n c) n s
  | .exit id, s => some (.exit id, s)
  | .ret, s => some (.ret, s)
  | .stuck, _ => none
  | .mask l c, s => evalC call m n c (cond m { s with T := s.T.only l } s)

theorem SRel.mask {K : Kept} {θ : Th} {N : Nat} {s : St} {a : Act} {w : World} (h : SRel K θ N s a w) (l : List Nat) : SRel K θ N { s with T := s.T.only l } a w :=
  ⟨h.W, ⟨h.A.1, fun t v ht => h.A.2 t v (only_get ht).2⟩, h.D⟩

section
variable {P : Program} {tbl : String → List (TypeId × FuncId)} {call : CallF} {N : Nat} {K : Kept}

theorem evalC_sound (hok : CallOk P call) (hm : P.follows .mixedOrders = true) (m : Bool) (n : Nat) : ∀ (ac : ACode) (c : Code), cCode P tbl N c = some ac.erase →
    ∀ {Q : Exit → Act → World → Prop} {θ : Th} {s s' : St} {a : Act} {w : World} {ex : AEx}, SRel K θ N s a w → evalC call m n ac s = some (ex, s') →
    (∀ θ' a' w', θ.Up s.H.nx θ' → s.H.nx ≤ s'.H.nx → SRel K θ' N s' a' w' → Q ex.to a' w') → c.wp P Q a w := by
  intro ac
  induction ac with
  | stuck => intro c hc Q θ s s' a w ex hs h hQ; simp [evalC] at h
  | mask l x ih =>
    intro c hc Q θ s s' a w ex hs h hQ
    cases m with
    | true => exact ih c hc (hs.mask l) h hQ
    | false => exact ih c hc hs h hQ
  | skip =>
    intro c hc Q θ s s' a w ex hs h hQ
    simp only [evalC, Option.some.injEq, Prod.mk.injEq] at h
    obtain ⟨rfl, rfl⟩ := h
    have hq := hQ θ a w (Th.Up.refl _ _) (Nat.le_refl _) hs
    cases c <;> (try simp only [cCode, ACode.erase, Option.some.injEq, reduceCtorEq, Option.map_eq_some_iff, and_false, exists_false] at hc)
    · exact wp_skip hq
    · rename_i id ops draw
      cases draw <;> simp only [cCode] at hc <;> split at hc <;> simp at hc
    · split at hc <;> simp at hc
    · split at hc <;> simp at hc
    · split at hc <;> simp at hc
    · split at hc <;> simp at hc
    · exact wp_label hq
  | exit id =>
    intro c hc Q θ s s' a w ex hs h hQ
    simp only [evalC, Option.some.injEq, Prod.mk.injEq] at h
    obtain ⟨rfl, rfl⟩ := h
    have hq := hQ θ a w (Th.Up.refl _ _) (Nat.le_refl _) hs
    cases c <;> (try simp only [cCode, ACode.erase, Option.some.injEq, reduceCtorEq, Option.map_eq_some_iff, and_false, exists_false] at hc)
    · rename_i id ops draw
      cases draw <;> simp only [cCode] at hc <;> split at hc <;> simp at hc
    · split at hc <;> simp at hc
    · split at hc <;> simp at hc
    · split at hc <;> simp at hc
    · split at hc <;> simp at hc
    · simp only [ACode.exit.injEq] at hc; subst hc; exact wp_exit hq
  | ret =>
    intro c hc Q θ s s' a w ex hs h hQ
    simp only [evalC, Option.some.injEq, Prod.mk.injEq] at h
    obtain ⟨rfl, rfl⟩ := h
    have hq := hQ θ a w (Th.Up.refl _ _) (Nat.le_refl _) hs
    cases c <;> (try simp only [cCode, ACode.erase, Option.some.injEq, reduceCtorEq, Option.map_eq_some_iff, and_false, exists_false] at hc)
    · rename_i id ops draw
      cases draw <;> simp only [cCode] at hc <;> split at hc <;> simp at hc
    · split at hc <;> simp at hc
    · split at hc <;> simp at hc
    · split at hc <;> simp at hc
    · split at hc <;> simp at hc
    · exact wp_ret hq
  | region ops =>
    intro c hc Q θ s s' a w ex hs h hQ
    simp only [evalC] at h
    split at h <;> (try simp only [Option.some.injEq, reduceCtorEq, Prod.mk.injEq] at h)
    rename_i s1 hs1
    obtain ⟨rfl, rfl⟩ := h
    cases c <;> (try simp only [cCode, ACode.erase, Option.some.injEq, reduceCtorEq, Option.map_eq_some_iff, and_false, exists_false] at hc)
    · rename_i id ops' draw
      cases draw
      · simp only [cCode] at hc
        split at hc <;> (try simp only [Option.some.injEq, ACode.region.injEq, reduceCtorEq] at hc)
        rename_i al hal
        subst hc
        refine wp_region ?_
        rw [List.range_eq_range']
        have := runOps_sound (Q := Q) hok ops'.toList al 0 θ s s1 a w (fun j o hj => by simpa using hj) hal hs hs1 hQ
        simpa using this
      · simp only [cCode] at hc
        split at hc <;> simp at hc
    · split at hc <;> simp at hc
    · split at hc <;> simp at hc
    · split at hc <;> simp at hc
    · split at hc <;> simp at hc
  | draw its =>
    intro c hc Q θ s s' a w ex hs h hQ
    simp only [evalC] at h
    split at h <;> (try simp only [Option.some.injEq, reduceCtorEq, Prod.mk.injEq] at h)
    rename_i s1 hs1
    obtain ⟨rfl, rfl⟩ := h
    cases c <;> (try simp only [cCode, ACode.erase, Option.some.injEq, reduceCtorEq, Option.map_eq_some_iff, and_false, exists_false] at hc)
    · rename_i id ops' draw
      cases draw
      · simp only [cCode] at hc
        split at hc <;> simp at hc
      · simp only [cCode] at hc
        split at hc <;> (try simp only [Option.some.injEq, ACode.draw.injEq, reduceCtorEq] at hc)
        rename_i al hal
        subst hc
        exact draw_sound (cDraw_stat hal) hok hm id hs (runD'_sound hal hs1) hQ
    · split at hc <;> simp at hc
    · split at hc <;> simp at hc
    · split at hc <;> simp at hc
    · split at hc <;> simp at hc
  | seq x y ihx ihy =>
    intro c hc Q θ s s' a w ex hs h hQ
    cases c <;> (try simp only [cCode, ACode.erase, Option.some.injEq, reduceCtorEq, Option.map_eq_some_iff, and_false, exists_false] at hc)
    · rename_i id ops' draw
      cases draw <;> simp only [cCode] at hc <;> split at hc <;> simp at hc
    · rename_i cx cy
      split at hc <;> (try simp only [Option.some.injEq, reduceCtorEq, ACode.seq.injEq] at hc)
      rename_i ex' ey' hx hy
      obtain ⟨rfl, rfl⟩ := hc
      refine wp_seq ?_
      simp only [evalC] at h
      cases h1 : evalC call m n x s with
      | none => rw [h1] at h; simp at h
      | some r =>
        obtain ⟨e1, s1⟩ := r
        rw [h1] at h
        refine ihx cx hx hs h1 fun θ' a' w' k1 k2 k3 => ?_
        cases e1 with
        | normal =>
          simp only at h
          exact ihy cy hy k3 h fun θ'' a'' w'' j1 j2 j3 => hQ θ'' a'' w'' (k1.trans k2 j1) (Nat.le_trans k2 j2) j3
        | exit id =>
          simp only [Option.some.injEq, Prod.mk.injEq] at h
          obtain ⟨rfl, rfl⟩ := h
          exact hQ θ' a' w' k1 k2 k3
        | ret =>
          simp only [Option.some.injEq, Prod.mk.injEq] at h
          obtain ⟨rfl, rfl⟩ := h
          exact hQ θ' a' w' k1 k2 k3
    · split at hc <;> simp at hc
    · split at hc <;> simp at hc
    · split at hc <;> simp at hc
  | cond b x y ihx ihy =>
    intro c hc Q θ s s' a w ex hs h hQ
    cases c <;> (try simp only [cCode, ACode.erase, Option.some.injEq, reduceCtorEq, Option.map_eq_some_iff, and_false, exists_false] at hc)
    · rename_i id ops' draw
      cases draw <;> simp only [cCode] at hc <;> split at hc <;> simp at hc
    · split at hc <;> simp at hc
    · rename_i cb cx cy
      split at hc <;> (try simp only [Option.some.injEq, reduceCtorEq, ACode.cond.injEq] at hc)
      rename_i b' ex' ey' hb hx hy
      obtain ⟨rfl, rfl, rfl⟩ := hc
      simp only [evalC] at h
      split at h <;> (try simp only [reduceCtorEq] at h)
      · rename_i hbv
        have := hs.A.ev hb hbv
        rw [VRel.bool] at this
        exact wp_cond_true this (ihx cx hx hs h hQ)
      · rename_i hbv
        have := hs.A.ev hb hbv
        rw [VRel.bool] at this
        exact wp_cond_false this (ihy cy hy hs h hQ)
    · split at hc <;> simp at hc
    · split at hc <;> simp at hc
  | block id x ih =>
    intro c hc Q θ s s' a w ex hs h hQ
    cases c <;> (try simp only [cCode, ACode.erase, Option.some.injEq, reduceCtorEq, Option.map_eq_some_iff, and_false, exists_false] at hc)
    · rename_i id ops' draw
      cases draw <;> simp only [cCode] at hc <;> split at hc <;> simp at hc
    · split at hc <;> simp at hc
    · split at hc <;> simp at hc
    · rename_i id' cx
      split at hc <;> (try simp only [Option.some.injEq, reduceCtorEq, ACode.block.injEq] at hc)
      rename_i ex' hx
      obtain ⟨rfl, rfl⟩ := hc
      refine wp_block ?_
      simp only [evalC] at h
      cases h1 : evalC call m n x s with
      | none => rw [h1] at h; simp at h
      | some r =>
        obtain ⟨e1, s1⟩ := r
        rw [h1] at h
        refine ih cx hx hs h1 fun θ' a' w' k1 k2 k3 => ?_
        cases e1 with
        | normal =>
          simp only [Option.some.injEq, Prod.mk.injEq] at h
          obtain ⟨rfl, rfl⟩ := h
          exact hQ θ' a' w' k1 k2 k3
        | exit j =>
          simp only [Option.some.injEq, Prod.mk.injEq] at h
          obtain ⟨rfl, rfl⟩ := h
          have := hQ θ' a' w' k1 k2 k3
          simp only [AEx.to, Exit.inBlock]
          split
          · rename_i hj
            rw [if_pos hj] at this
            exact this
          · rename_i hj
            rw [if_neg hj] at this
            exact this
        | ret =>
          simp only [Option.some.injEq, Prod.mk.injEq] at h
          obtain ⟨rfl, rfl⟩ := h
          exact hQ θ' a' w' k1 k2 k3
    · split at hc <;> simp at hc
  | loop x ih =>
    intro c hc Q θ s s' a w ex hs h hQ
    cases c <;> (try simp only [cCode, ACode.erase, Option.some.injEq, reduceCtorEq, Option.map_eq_some_iff, and_false, exists_false] at hc)
    · rename_i id ops' draw
      cases draw <;> simp only [cCode] at hc <;> split at hc <;> simp at hc
    · split at hc <;> simp at hc
    · split at hc <;> simp at hc
    · split at hc <;> simp at hc
    · rename_i cx
      split at hc <;> (try simp only [Option.some.injEq, reduceCtorEq, ACode.loop.injEq] at hc)
      rename_i ex' hx
      subst hc
      simp only [evalC] at h
      refine wp_loop_rounds n ?_
      suffices ∀ (q : Nat) (θ : Th) (s : St) (a : Act) (w : World), SRel K θ N s a w → loopN (evalC call m n x) q s = some (ex, s') →
          (∀ θ' a' w', θ.Up s.H.nx θ' → s.H.nx ≤ s'.H.nx → SRel K θ' N s' a' w' → Q ex.to a' w') → Code.rounds P cx Q q a w from this n θ s a w hs h hQ
      intro q
      induction q with
      | zero => intro θ s a w hs h hQ; simp [loopN] at h
      | succ q ihm =>
        intro θ s a w hs h hQ
        rw [rounds_succ]
        simp only [loopN] at h
        cases h1 : evalC call m n x s with
        | none => rw [h1] at h; simp at h
        | some r =>
          obtain ⟨e1, s1⟩ := r
          rw [h1] at h
          refine ih cx hx hs h1 fun θ' a' w' k1 k2 k3 => ?_
          cases e1 with
          | normal =>
            simp only at h
            exact ihm θ' s1 a' w' k3 h fun θ'' a'' w'' j1 j2 j3 => hQ θ'' a'' w'' (k1.trans k2 j1) (Nat.le_trans k2 j2) j3
          | exit id =>
            simp only [Option.some.injEq, Prod.mk.injEq] at h
            obtain ⟨rfl, rfl⟩ := h
            exact hQ θ' a' w' k1 k2 k3
          | ret =>
            simp only [Option.some.injEq, Prod.mk.injEq] at h
            obtain ⟨rfl, rfl⟩ := h
            exact hQ θ' a' w' k1 k2 k3

end

end
end AM
end Go.Proofs.YtlgbgbngdhhjaaaGreatDoor

set_option linter.unusedSimpArgs false
set_option linter.unusedVariables false
namespace Go.Proofs.YtlgbgbngdhhjaaaGreatDoor
namespace AM
noncomputable section
open Go

inductive ARes where
  | tmp (t : Nat)
  | cell (t n : Nat) (agg : Bool)

structure AFunc where
  N : Nat
  body : ACode
  res : List ARes

def cRes (P : Program) : ResultVar → Option ARes
  | .tmp t => some (.tmp t)
  | .cell a t => match sizeOf? P t, aggOf P t with
    | some n, some b => some (.cell a n b)
    | _, _ => none

def cRess (P : Program) : List ResultVar → Option (List ARes)
  | [] => some []
  | r :: rs => match cRes P r, cRess P rs with
    | some r, some rs => some (r :: rs)
    | _, _ => none

/-- Is it this function, compiled? -/
def FuncOk (P : Program) (tbl : String → List (TypeId × FuncId)) (fn : Func) (a : AFunc) : Prop :=
  fn.name ≠ "runtime.NumGoroutine" ∧ fn.ntmps = a.N ∧ (∃ c, fn.body = some c ∧ cCode P tbl a.N c = some a.body.erase) ∧ cRess P fn.results.toList = some a.res

def evalRes (T : Tm) (H : Heap) : ARes → Option AVal
  | .tmp t => T.get t
  | .cell t n b => match T.get t with
    | some v => aLoad H v n b
    | none => none

def evalRess (T : Tm) (H : Heap) : List ARes → Option (List AVal)
  | [] => some []
  | r :: rs => match evalRes T H r, evalRess T H rs with
    | some v, some vs => some (v :: vs)
    | _, _ => none

def oneOf : List AVal → AVal
  | [v] => v
  | vs => .tup vs

def putArgs : List AVal → Nat → Tm → Tm
  | [], _, T => T
  | v :: vs, i, T => putArgs vs (i + 1) (T.put i v)

/-- What was put off, the last first. -/
def evalDfr (dcall : CallF) : List (FuncId × List AVal) → Heap → Option Heap
  | [], H => some H
  | x :: xs, H => match dcall x.1 x.2 H with
    | some (_, H) => evalDfr dcall xs H
    | none => none

def evalF (call dcall : CallF) (m : Bool) (n : Nat) (fn : AFunc) (args : List AVal) (H : Heap) : Option (AVal × Heap) :=
  if args.length ≤ fn.N then
    match evalC call m n fn.body ⟨putArgs args 0 .e, H, []⟩ with
    | some (.exit _, _) => none
    | some (_, s) => match evalDfr dcall s.D s.H with
      | some H => match evalRess s.T H fn.res with
        | some vs => some (oneOf vs, H)
        | none => none
      | none => none
    | none => none
  else none

/-- A function that puts nothing off. -/
def evalF0 (call : CallF) (m : Bool) (n : Nat) (fn : AFunc) (args : List AVal) (H : Heap) : Option (AVal × Heap) :=
  evalF call (fun _ _ _ => none) m n fn args H

mutual
def evalCall (tab : Nat → Option AFunc) (summ dsumm : CallF) (m : Bool) (n : Nat) : Nat → CallF
  | 0, _, _, _ => none
  | k + 1, f, args, H => match tab f with
    | some a => evalF (evalCall tab summ dsumm m n k) (evalD tab summ dsumm m n k) m n a args H
    | none => summ f args H
def evalD (tab : Nat → Option AFunc) (summ dsumm : CallF) (m : Bool) (n : Nat) : Nat → CallF
  | 0, _, _, _ => none
  | k + 1, f, args, H => match tab f with
    | some a => evalF0 (evalCall tab summ dsumm m n k) m n a args H
    | none => dsumm f args H
end

/-! ### Soundness -/
theorem aLoad_sound {P : Program} {K : Kept} {θ : Th} {H : Heap} {w : World} (hw : WRel K θ H w) {t : TypeId} {n : Nat} {b : Bool} (hn : sizeOf? P t = some n) (hb : aggOf P t = some b) {x : AVal} {u : Value} (hx : VRel θ x u) {v : AVal} (h : aLoad H x n b = some v) :
    ∃ ad u', u = .pointer (some ad) ∧ (loadVar t ad).run P w = .ok u' w ∧ VRel θ v u' := by
  unfold aLoad at h
  split at h <;> (try simp only [reduceCtorEq] at h)
  rename_i i o'
  simp only [VRel] at hx
  obtain ⟨l, hl, hr⟩ := hx
  split at h <;> (try simp only [reduceCtorEq] at h)
  rename_i cs own hg
  cases b
  · simp only [Bool.false_eq_true, if_false] at h
    obtain ⟨u', hu, hv, _⟩ := hw.cellAt hl hg h
    exact ⟨_, u', hr, by simp [loadVar, run_isAgg_of hb, hu], hv⟩
  · simp only [if_true] at h
    split at h <;> (try simp only [Option.some.injEq, reduceCtorEq] at h)
    rename_i hlen
    subst h
    obtain ⟨us, hul, hrun, hv, h1⟩ := hw.cellsAt hl hg hlen P
    exact ⟨_, .agg us.toArray, hr, by simp [loadVar, run_isAgg_of hb, run_sizeOf? hn, hrun], by simp only [VRel]; exact ⟨_, rfl, by simpa using hv, by simpa using h1⟩⟩

theorem evalRes_sound {P : Program} {g : ResultVar → Sem Value} {a : Act} (hg1 : ∀ t, g (.tmp t) = pure (a.tmps.getD t undef)) (hg2 : ∀ ad t, g (.cell ad t) = (do loadVar t (← asAddr (a.tmps.getD ad undef)))) {K : Kept} {θ : Th} {N : Nat} {T : Tm} {H : Heap} {w : World} (hT : ARel θ N T a) (hw : WRel K θ H w) {r : ResultVar} {ar : ARes} (hc : cRes P r = some ar) {v : AVal} (h : evalRes T H ar = some v) :
    ∃ u, (g r).run P w = .ok u w ∧ VRel θ v u := by
  cases r with
  | tmp t =>
    simp only [cRes, Option.some.injEq] at hc; subst hc
    exact ⟨_, by rw [hg1]; rfl, hT.2 t v h⟩
  | cell ad t =>
    simp only [cRes] at hc
    split at hc <;> (try simp only [Option.some.injEq, reduceCtorEq] at hc)
    rename_i n b hn hb
    subst hc
    simp only [evalRes] at h
    split at h <;> (try simp only [reduceCtorEq] at h)
    rename_i x hx
    obtain ⟨p, u', h1, h2, h3⟩ := aLoad_sound hw hn hb (hT.2 ad x hx) h
    exact ⟨u', by simp only [hg2, h1, asAddr, Sem.run_bind, Sem.run_pure, Result.andThen_ok, h2], h3⟩

theorem evalRess_sound {P : Program} {g : ResultVar → Sem Value} {a : Act} (hg1 : ∀ t, g (.tmp t) = pure (a.tmps.getD t undef)) (hg2 : ∀ ad t, g (.cell ad t) = (do loadVar t (← asAddr (a.tmps.getD ad undef)))) {K : Kept} {θ : Th} {N : Nat} {T : Tm} {H : Heap} {w : World} (hT : ARel θ N T a) (hw : WRel K θ H w) : ∀ {l : List ResultVar} {al : List ARes}, cRess P l = some al → ∀ {vs : List AVal}, evalRess T H al = some vs →
    ∃ us, (l.mapM g).run P w = .ok us w ∧ VRels θ vs us
  | [], al, hc, vs, h => by
    simp only [cRess, Option.some.injEq] at hc; subst hc
    simp only [evalRess, Option.some.injEq] at h; subst h
    exact ⟨[], rfl, by simp [VRels]⟩
  | r :: l, al, hc, vs, h => by
    simp only [cRess] at hc
    split at hc <;> (try simp only [Option.some.injEq, reduceCtorEq] at hc)
    rename_i ar al' har hal
    subst hc
    simp only [evalRess] at h
    split at h <;> (try simp only [Option.some.injEq, reduceCtorEq] at h)
    rename_i v vs' hv hvs
    subst h
    obtain ⟨u, h1, h2⟩ := evalRes_sound hg1 hg2 hT hw har hv
    obtain ⟨us, h3, h4⟩ := evalRess_sound hg1 hg2 hT hw hal hvs
    refine ⟨u :: us, ?_, VRels.cons h2 h4⟩
    rw [List.mapM_cons]
    simp only [Sem.run_bind, h1, Result.andThen_ok, h3, Sem.run_pure]

theorem results_sound {P : Program} {K : Kept} {θ : Th} {N : Nat} {T : Tm} {H : Heap} {a : Act} {w : World} (hT : ARel θ N T a) (hw : WRel K θ H w) {fn : Func} {al : List ARes} (hc : cRess P fn.results.toList = some al) {vs : List AVal} (h : evalRess T H al = some vs) :
    ∃ u, (results fn a.tmps).run P w = .ok u w ∧ VRel θ (oneOf vs) u := by
  unfold results
  generalize hgd : (fun x : ResultVar => (match x with
    | .tmp t => pure (a.tmps.getD t undef)
    | .cell ad t => do loadVar t (← asAddr (a.tmps.getD ad undef)) : Sem Value)) = g
  obtain ⟨us, h1, h2⟩ := evalRess_sound (g := g) (P := P) (a := a) (fun t => by subst hgd; rfl) (fun ad t => by subst hgd; rfl) hT hw hc h
  have hm : ∀ (f : ResultVar → Sem Value), (fn.results.mapM f).run P w = (do let l ← fn.results.toList.mapM f; pure l.toArray : Sem (Array Value)).run P w := by
    intro f
    rw [Array.mapM_eq_mapM_toList]
    rw [map_eq_pure_bind]
  refine ⟨if h : us.toArray.size = 1 then us.toArray[0] else .tuple us.toArray, ?_, ?_⟩
  · have h1' : Sem.run P (fn.results.mapM g) w = .ok us.toArray w := by
      rw [hm, Sem.run_bind, h1]; simp only [Result.andThen_ok, Sem.run_pure]
    subst hgd
    rw [Sem.run_bind]
    refine Eq.trans (congrArg (fun x => Result.andThen x _) h1') ?_
    simp only [Result.andThen_ok, Sem.run_pure]
  · have hl := VRels.length h2
    cases vs with
    | nil =>
      cases us with
      | nil => simp only [oneOf, VRel]; exact ⟨#[], by simp, by simp [VRels]⟩
      | cons u us => simp at hl
    | cons v vs =>
      cases us with
      | nil => simp at hl
      | cons u us =>
        cases vs with
        | nil =>
          cases us with
          | nil =>
            simp only [VRels] at h2
            obtain ⟨u', us', he, h3, _⟩ := h2
            simp only [List.cons.injEq] at he
            obtain ⟨rfl, _⟩ := he
            simpa [oneOf] using h3
          | cons u' us => simp at hl
        | cons v' vs =>
          cases us with
          | nil => simp at hl
          | cons u' us =>
            simp only [oneOf, VRel]
            exact ⟨(u :: u' :: us).toArray, by simp, h2⟩

theorem putArgs_get : ∀ (vs : List AVal) (i : Nat) (T : Tm) (t : Nat) (v : AVal), (putArgs vs i T).get t = some v → (i ≤ t ∧ vs[t - i]? = some v) ∨ T.get t = some v
  | [], i, T, t, v, h => .inr h
  | x :: vs, i, T, t, v, h => by
    simp only [putArgs] at h
    rcases putArgs_get vs (i + 1) _ t v h with ⟨h1, h2⟩ | h1
    · refine .inl ⟨by omega, ?_⟩
      rw [show t - i = (t - (i + 1)) + 1 by omega]
      simpa using h2
    · rw [Tr.get_put] at h1
      split at h1
      · rename_i ht
        subst ht
        exact .inl ⟨Nat.le_refl _, by simpa using h1⟩
      · exact .inr h1

theorem enter_rel {θ : Th} {N : Nat} {args : List AVal} {us : Array Value} (h : VRels θ args us.toList) (hN : args.length ≤ N) :
    ARel θ N (putArgs args 0 .e) { tmps := us ++ Array.replicate (N - us.size) undef, defers := [] } := by
  have hl := VRels.length h
  simp only [Array.length_toList] at hl
  refine ⟨by simp; omega, fun t v ht => ?_⟩
  rcases putArgs_get args 0 .e t v ht with ⟨_, h1⟩ | h1
  · simp only [Nat.sub_zero] at h1
    obtain ⟨u, h2, h3⟩ := VRels.get h _ _ h1
    have ht : t < us.size := by
      have := (List.getElem?_eq_some_iff.1 h2).1
      simpa using this
    rw [Array.getD_eq_getD_getElem?, Array.getElem?_append_left ht]
    simp only [Array.getElem?_toList] at h2
    rw [h2]
    exact h3
  · cases h1

theorem runOp_nx {P : Program} {call : CallF} (hok : CallOk P call) {o : AOper} {s s' : St} (h : runOp call o s = some s') : s.H.nx ≤ s'.H.nx := by
  unfold runOp at h
  split at h <;> (try simp only [Option.some.injEq, reduceCtorEq] at h)
  · subst h; exact Nat.le_refl _
  · split at h <;> (try simp only [Option.some.injEq, reduceCtorEq] at h)
    rename_i r hr
    subst h
    exact stepIn_nx hok hr

theorem runOps_nx {P : Program} {call : CallF} (hok : CallOk P call) : ∀ {l : List AOper} {s s' : St}, runOps call l s = some s' → s.H.nx ≤ s'.H.nx
  | [], s, s', h => by simp only [runOps, Option.some.injEq] at h; subst h; exact Nat.le_refl _
  | o :: l, s, s', h => by
    simp only [runOps] at h
    split at h <;> (try simp only [reduceCtorEq] at h)
    rename_i s1 hs1
    exact Nat.le_trans (runOp_nx hok hs1) (runOps_nx hok h)

theorem runD_nx {P : Program} {call : CallF} (hok : CallOk P call) : ∀ {l : List DItem} {done : List (DItem × Option Nat)} {s s' : St}, runD' call l done s = some s' → s.H.nx ≤ s'.H.nx
  | [], done, s, s', h => by simp only [runD', Option.some.injEq] at h; subst h; exact Nat.le_refl _
  | it :: l, done, s, s', h => by
    simp only [runD'] at h
    split at h <;> (try simp only [reduceCtorEq] at h)
    · exact runD_nx (s := { s with T := putO s.T it.op.dst (.tup []) }) hok h
    · split at h <;> (try simp only [reduceCtorEq] at h)
      rename_i r hr
      split at h <;> (try simp only [reduceCtorEq] at h)
      exact Nat.le_trans (stepIn_nx hok hr) (runD_nx (s := ⟨putO s.T it.op.dst r.v, r.H, r.D ++ s.D⟩) hok h)

theorem evalC_nx {P : Program} {call : CallF} (hok : CallOk P call) (m : Bool) (n : Nat) : ∀ {c : ACode} {s s' : St} {ex : AEx}, evalC call m n c s = some (ex, s') → s.H.nx ≤ s'.H.nx := by
  intro c
  induction c with
  | stuck => intro s s' ex h; simp [evalC] at h
  | skip => intro s s' ex h; simp only [evalC, Option.some.injEq, Prod.mk.injEq] at h; rw [h.2]; exact Nat.le_refl _
  | exit id => intro s s' ex h; simp only [evalC, Option.some.injEq, Prod.mk.injEq] at h; rw [h.2]; exact Nat.le_refl _
  | ret => intro s s' ex h; simp only [evalC, Option.some.injEq, Prod.mk.injEq] at h; rw [h.2]; exact Nat.le_refl _
  | region ops =>
    intro s s' ex h
    simp only [evalC] at h
    split at h <;> (try simp only [Option.some.injEq, reduceCtorEq, Prod.mk.injEq] at h)
    rename_i s1 hs1
    obtain ⟨_, rfl⟩ := h
    exact runOps_nx hok hs1
  | draw its =>
    intro s s' ex h
    simp only [evalC] at h
    split at h <;> (try simp only [Option.some.injEq, reduceCtorEq, Prod.mk.injEq] at h)
    rename_i s1 hs1
    obtain ⟨_, rfl⟩ := h
    exact runD_nx hok hs1
  | seq x y ihx ihy =>
    intro s s' ex h
    simp only [evalC] at h
    split at h
    · rename_i s1 hs1
      exact Nat.le_trans (ihx hs1) (ihy h)
    · exact ihx h
  | cond b x y ihx ihy =>
    intro s s' ex h
    simp only [evalC] at h
    split at h <;> (try simp only [reduceCtorEq] at h)
    · exact ihx h
    · exact ihy h
  | block id x ih =>
    intro s s' ex h
    simp only [evalC] at h
    split at h
    · rename_i j s1 hs1
      simp only [Option.some.injEq, Prod.mk.injEq] at h
      rw [← h.2]
      exact ih hs1
    · exact ih h
  | loop x ih =>
    intro s s' ex h
    simp only [evalC] at h
    suffices ∀ (q : Nat) (s : St), loopN (evalC call m n x) q s = some (ex, s') → s.H.nx ≤ s'.H.nx from this n s h
    intro q
    induction q with
    | zero => intro s h; simp [loopN] at h
    | succ q ihm =>
      intro s h
      simp only [loopN] at h
      split at h
      · rename_i s1 hs1
        exact Nat.le_trans (ih hs1) (ihm _ h)
      · exact ih h
  | mask l x ih =>
    intro s s' ex h
    cases m with
    | true => exact ih (s := { s with T := s.T.only l }) h
    | false => exact ih h

/-- The same, of a call that was put off. -/
def CallsDA (P : Program) (f : FuncId) (args : List AVal) (H : Heap) (H' : Heap) : Prop :=
  ∀ (K : Kept) (θ : Th) (w : World) (us : Array Value), WRel K θ H w → VRels θ args us.toList →
    CallsD P f us .returning w fun e u' w' => u' = .returning ∧ ∃ θ' u, e = .returned u ∧ θ.Up H.nx θ' ∧ WRel K θ' H' w'

def DCallOk (P : Program) (call : CallF) : Prop := ∀ f args H v H', call f args H = some (v, H') → FnOk P f ∧ H.nx ≤ H'.nx ∧ CallsDA P f args H H'

section
variable {P : Program} {tbl : String → List (TypeId × FuncId)} {call dcall : CallF}

theorem evalDfr_nx (hd : DCallOk P dcall) : ∀ {D : List (FuncId × List AVal)} {H H' : Heap}, evalDfr dcall D H = some H' → H.nx ≤ H'.nx
  | [], H, H', h => by simp only [evalDfr, Option.some.injEq] at h; subst h; exact Nat.le_refl _
  | x :: xs, H, H', h => by
    simp only [evalDfr] at h
    split at h <;> (try simp only [reduceCtorEq] at h)
    rename_i v H1 hv
    exact Nat.le_trans (hd _ _ _ _ _ hv).2.1 (evalDfr_nx hd h)

theorem leaves_sound (hd : DCallOk P dcall) {fn : Func} {tmps : Array Value} {K : Kept} {R : Ending → World → Prop} : ∀ {D : List (FuncId × List AVal)} {ds : List Deferred} {H H' : Heap} {θ : Th} {w : World}, DRel θ D ds → WRel K θ H w → evalDfr dcall D H = some H' →
    (∀ θ' w', θ.Up H.nx θ' → WRel K θ' H' w' → ∃ v, (results fn tmps).run P w' = .ok v w' ∧ R (.returned v) w') → Leaves P fn tmps R ds .returning w
  | [], ds, H, H', θ, w, hr, hw, h, hR => by
    simp only [DRel] at hr; subst hr
    simp only [evalDfr, Option.some.injEq] at h; subst h
    exact hR θ w (Th.Up.refl _ _) hw
  | x :: xs, ds, H, H', θ, w, hr, hw, h, hR => by
    obtain ⟨us, cs, ds', rfl, hus, hr'⟩ := hr
    simp only [evalDfr] at h
    split at h <;> (try simp only [reduceCtorEq] at h)
    rename_i v H1 hv
    obtain ⟨hfn, hnx, hcall⟩ := hd _ _ _ _ _ hv
    refine leaves_cons (f := x.1) (args := us ++ cs) (by simp) (by simpa [invoke] using run_callFunc hfn (us ++ cs) w) ?_
    refine (hcall K θ w (us ++ cs) hw (by simpa using hus)).mono ?_
    rintro e u' w' ⟨rfl, θ', u, rfl, h1, h2⟩
    simp only [settle]
    exact leaves_sound hd (hr'.mono h1.1) h2 h fun θ'' w'' k1 k2 => hR θ'' w'' (h1.trans hnx k1) k2

theorem evalF_sound (hm : P.follows .mixedOrders = true) (hok : CallOk P call) (hd : DCallOk P dcall) (m : Bool) (n : Nat) {f : FuncId} {fn : Func} (hf : P.funcs[f]? = some fn) {a : AFunc} (hfn : FuncOk P tbl fn a) {args : List AVal} {H H' : Heap} {v : AVal} (h : evalF call dcall m n a args H = some (v, H')) :
    FnOk P f ∧ H.nx ≤ H'.nx ∧ CallsA P f args H v H' := by
  obtain ⟨hname, hN, ⟨c, hb, hc⟩, hres⟩ := hfn
  unfold evalF at h
  split at h <;> (try simp only [reduceCtorEq] at h)
  rename_i hlen
  cases h1 : evalC call m n a.body ⟨putArgs args 0 .e, H, []⟩ with
  | none => rw [h1] at h; simp at h
  | some r =>
    obtain ⟨ex, s⟩ := r
    rw [h1] at h
    have key : ∃ H1 vs, evalDfr dcall s.D s.H = some H1 ∧ evalRess s.T H1 a.res = some vs ∧ v = oneOf vs ∧ H1 = H' ∧ (ex = .normal ∨ ex = .ret) := by
      cases ex with
      | exit id => simp at h
      | normal =>
        simp only at h
        split at h <;> (try simp only [reduceCtorEq] at h)
        rename_i H1 hH1
        split at h <;> (try simp only [Option.some.injEq, reduceCtorEq, Prod.mk.injEq] at h)
        rename_i vs hvs
        exact ⟨H1, vs, hH1, hvs, h.1.symm, h.2, .inl rfl⟩
      | ret =>
        simp only at h
        split at h <;> (try simp only [reduceCtorEq] at h)
        rename_i H1 hH1
        split at h <;> (try simp only [Option.some.injEq, reduceCtorEq, Prod.mk.injEq] at h)
        rename_i vs hvs
        exact ⟨H1, vs, hH1, hvs, h.1.symm, h.2, .inr rfl⟩
    obtain ⟨H1, vs, k1, k2, rfl, rfl, k3⟩ := key
    have hFn : FnOk P f := ⟨fn, c, hf, hname, hb⟩
    have hcalls : ∀ (K : Kept) (θ : Th) (w : World) (us : Array Value), WRel K θ H w → VRels θ args us.toList →
      c.wp P (bodyPostD P fn fun e w' => ∃ θ' u, e = .returned u ∧ θ.Up H.nx θ' ∧ VRel θ' (oneOf vs) u ∧ WRel K θ' H1 w') { tmps := us ++ Array.replicate (fn.ntmps - us.size) undef, defers := [] } w := by
      intro K θ w us hw hus
      have hs0 : SRel K θ a.N ⟨putArgs args 0 .e, H, []⟩ { tmps := us ++ Array.replicate (fn.ntmps - us.size) undef, defers := [] } w := ⟨hw, by rw [hN]; exact enter_rel hus hlen, rfl⟩
      refine evalC_sound hok hm m n a.body c hc hs0 h1 fun θ' a' w' j1 j2 j3 => ?_
      have hl : Leaves P fn a'.tmps (fun e w' => ∃ θ' u, e = .returned u ∧ θ.Up H.nx θ' ∧ VRel θ' (oneOf vs) u ∧ WRel K θ' H1 w') a'.defers .returning w' := by
        refine leaves_sound hd j3.D j3.W k1 fun θ'' w'' i1 i2 => ?_
        obtain ⟨u, hu1, hu2⟩ := results_sound (j3.A.mono i1.1) i2 hres k2
        exact ⟨u, hu1, θ'', u, rfl, j1.trans j2 i1, hu2, i2⟩
      rcases k3 with rfl | rfl
      · exact hl
      · exact hl
    refine ⟨hFn, ?_, fun K θ w us hw hus => calls_of_wp_defers hf hb (hcalls K θ w us hw hus)⟩
    · -- the count of what was made grows
      have hnx := evalDfr_nx hd k1
      suffices H.nx ≤ s.H.nx from Nat.le_trans this hnx
      exact evalC_nx hok m n h1

theorem evalF0_sound (hm : P.follows .mixedOrders = true) (hok : CallOk P call) (m : Bool) (n : Nat) {f : FuncId} {fn : Func} (hf : P.funcs[f]? = some fn) {a : AFunc} (hfn : FuncOk P tbl fn a) {args : List AVal} {H H' : Heap} {v : AVal} (h : evalF0 call m n a args H = some (v, H')) :
    FnOk P f ∧ H.nx ≤ H'.nx ∧ CallsDA P f args H H' := by
  have hd : DCallOk P (fun _ _ _ => none) := fun f args H v H' h => nomatch h
  obtain ⟨g1, g2, _⟩ := evalF_sound (dcall := fun _ _ _ => none) hm hok hd m n hf hfn h
  refine ⟨g1, g2, ?_⟩
  obtain ⟨hname, hN, ⟨c, hb, hc⟩, hres⟩ := hfn
  unfold evalF0 evalF at h
  split at h <;> (try simp only [reduceCtorEq] at h)
  rename_i hlen
  cases h1 : evalC call m n a.body ⟨putArgs args 0 .e, H, []⟩ with
  | none => rw [h1] at h; simp at h
  | some r =>
    obtain ⟨ex, s⟩ := r
    rw [h1] at h
    have key : ∃ vs, s.D = [] ∧ evalRess s.T s.H a.res = some vs ∧ v = oneOf vs ∧ s.H = H' ∧ (ex = .normal ∨ ex = .ret) := by
      have hh : ∀ {D : List (FuncId × List AVal)} {H H' : Heap}, evalDfr (fun _ _ _ => none) D H = some H' → D = [] ∧ H = H' := by
        intro D H H' h
        cases D with
        | nil => simp only [evalDfr, Option.some.injEq] at h; exact ⟨rfl, h⟩
        | cons x xs => simp [evalDfr] at h
      cases ex with
      | exit id => simp at h
      | normal =>
        simp only at h
        split at h <;> (try simp only [reduceCtorEq] at h)
        rename_i H1 hH1
        obtain ⟨e1, rfl⟩ := hh hH1
        split at h <;> (try simp only [Option.some.injEq, reduceCtorEq, Prod.mk.injEq] at h)
        rename_i vs hvs
        exact ⟨vs, e1, hvs, h.1.symm, h.2, .inl rfl⟩
      | ret =>
        simp only at h
        split at h <;> (try simp only [reduceCtorEq] at h)
        rename_i H1 hH1
        obtain ⟨e1, rfl⟩ := hh hH1
        split at h <;> (try simp only [Option.some.injEq, reduceCtorEq, Prod.mk.injEq] at h)
        rename_i vs hvs
        exact ⟨vs, e1, hvs, h.1.symm, h.2, .inr rfl⟩
    obtain ⟨vs, e1, k2, rfl, rfl, k3⟩ := key
    intro K θ w us hw hus
    have hwp : c.wp P (bodyPost P fn fun e w' => ∃ θ' u, e = .returned u ∧ θ.Up H.nx θ' ∧ WRel K θ' s.H w') { tmps := us ++ Array.replicate (fn.ntmps - us.size) undef, defers := [] } w := by
      have hs0 : SRel K θ a.N ⟨putArgs args 0 .e, H, []⟩ { tmps := us ++ Array.replicate (fn.ntmps - us.size) undef, defers := [] } w := ⟨hw, by rw [hN]; exact enter_rel hus hlen, rfl⟩
      refine evalC_sound hok hm m n a.body c hc hs0 h1 fun θ' a' w' j1 j2 j3 => ?_
      have hdef : a'.defers = [] := by
        have := j3.D
        rw [e1] at this
        exact this
      obtain ⟨u, hu1, hu2⟩ := results_sound j3.A j3.W hres k2
      rcases k3 with rfl | rfl
      · exact ⟨hdef, u, hu1, θ', u, rfl, j1, j3.W⟩
      · exact ⟨hdef, u, hu1, θ', u, rfl, j1, j3.W⟩
    refine (callsD_of_wp hf hb hwp).mono ?_
    rintro e u' w' ⟨rfl, h⟩
    exact ⟨rfl, h⟩

/-- The table's functions are the program's. -/
def TabOk (P : Program) (tbl : String → List (TypeId × FuncId)) (tab : Nat → Option AFunc) : Prop :=
  ∀ f a, tab f = some a → ∃ fn, P.funcs[f]? = some fn ∧ FuncOk P tbl fn a

theorem evalCall_ok (hm : P.follows .mixedOrders = true) {tab : Nat → Option AFunc} (ht : TabOk P tbl tab) {summ dsumm : CallF} (hs : CallOk P summ) (hds : DCallOk P dsumm) (m : Bool) (n : Nat) : ∀ k, CallOk P (evalCall tab summ dsumm m n k) ∧ DCallOk P (evalD tab summ dsumm m n k)
  | 0 => ⟨fun f args H v H' h => by simp [evalCall] at h, fun f args H v H' h => by simp [evalD] at h⟩
  | k + 1 => by
    obtain ⟨ih1, ih2⟩ := evalCall_ok hm ht hs hds m n k
    refine ⟨fun f args H v H' h => ?_, fun f args H v H' h => ?_⟩
    · simp only [evalCall] at h
      split at h
      · rename_i a ha
        obtain ⟨fn, hf, hfn⟩ := ht f a ha
        exact evalF_sound hm ih1 ih2 m n hf hfn h
      · exact hs f args H v H' h
    · simp only [evalD] at h
      split at h
      · rename_i a ha
        obtain ⟨fn, hf, hfn⟩ := ht f a ha
        exact evalF0_sound hm ih1 m n hf hfn h
      · exact hds f args H v H' h

end

end
end AM
end Go.Proofs.YtlgbgbngdhhjaaaGreatDoor
