/- The chapter's example holds in any memory. No condition. -/
import Derived.Test.YtlgbgbngdhhjaaaGreatDoorRows
import Derived.WalkKit
import Derived.Recover
import Derived.Lib.Bytealg
import Derived.Lib.Strings
import Derived.Test.YtlgbgbngdhhjaaaGreatDoorB05
import Derived.Test.YtlgbgbngdhhjaaaGreatDoorB04
import Derived.KernelRfl
import Derived.RangeFuncBox
import Derived.RangeFuncLeaves
import Derived.RangeFuncCalls
import Derived.Shelf.Abstract
import Derived.OwnWalkIn
import Derived.TacticsInMore
import Derived.LoopNIn
import Derived.LoopIn
import Derived.RangeFuncFrom
set_option linter.unusedSimpArgs false
set_option linter.unusedVariables false
namespace Go.Proofs.YtlgbgbngdhhjaaaGreatDoor
open Go Go.RowKit Go.Lib

set_option maxHeartbeats 1000000 in
set_option maxRecDepth 100000 in
theorem index167 (s : ByteArray) (c : Int) (w : World) :
    Calls Tryz.prog 167 #[.string s, .int .u8 c] w fun e w' => e = .returned (.int .i64 (Lib.indexByte s.data.toList c.toNat.toUInt8)) ∧ w' = w := by
  go_enter Tryz.func167, Tryz.ntmps167
  go_wp2
  rw [run_callFunc_extern Tryz.func192 (by kernel_rfl) (by kernel_rfl) (by kernel_rfl) (e := Extern.BytealgIndexByte.indexByte) (by kernel_rfl), Lib.run_indexByteString]
  simp only [Result.andThen]
  rw [Oper.upon_value]
  go_wp2
  go_ret
  exact ⟨rfl, rfl⟩

set_option maxHeartbeats 1000000 in
theorem catch_idle (p q : Value) (w : World) :
    CallsD Tryz.prog 52 #[p, q] .returning w fun e u' w' => e = .returned (.tuple #[]) ∧ u' = .returning ∧ w' = w := by
  refine callsD_of_wpS Tryz.func52 rfl fun c₀ cs hu => ?_
  apply wpS_seq
  apply wpS_region
  simp [wpOpsS, go_sem, recoverD, hu, Tryz.ntmps52, Exit.thenS]
  apply wpS_seq
  apply wpS_region
  have hn : ∀ w, (binOp BinOp.neq 20 .nilIface .nilIface).run Tryz.prog w = .ok (.bool false) w := fun _ => by kernel_rfl
  simp [wpOpsS, go_sem, Exit.thenS, Act.eval, hn]
  refine wpS_cond (t := false) (by simp [Act.eval, Array.replicate]) ?_
  simp only [Bool.false_eq_true, if_false]
  refine wpS_of_wp (wp_skip ?_)
  cases c₀
  simp_all [bodyPostS, results, Tryz.results52]

end Go.Proofs.YtlgbgbngdhhjaaaGreatDoor

set_option linter.unusedVariables false
namespace Go.Proofs.YtlgbgbngdhhjaaaGreatDoor
namespace K
noncomputable section
open Go AM

/-- Where a number stands first. -/
def findN (c : Nat) : List Nat → Nat → Int
  | [], _ => -1
  | x :: l, i => cond (Nat.beq x c) (Int.ofNat i) (findN c l (i + 1))

def allLow : List Nat → Bool
  | [] => true
  | x :: l => Nat.blt x 128 && allLow l

/-- The search of a byte (167); where no sign stands, of bytes below 128 (81). -/
def summL : CallF := fun f args H =>
  match args with
  | [.s l, .i .u8 (.ofNat c)] => cond (Nat.beq f 167 && Nat.blt c 256) (some (.i .i64 (findN c l 0), H)) none
  | [.sl i o n k e] => cond (Nat.beq f 81) (match aBts H (.sl i o n k e) with
    | some (.s l) => cond (allLow l && (Nat.blt 0 n && Nat.ble n 1000000)) (some (.i .i64 (-1), H)) none
    | _ => none) none
  | _ => none

/-- The closure that asks for a panic (52). -/
def dsummL : CallF := fun f args H => match args with
  | [_, _] => cond (Nat.beq f 52) (some (.tup [], H)) none
  | _ => none

def callL : CallF := evalCall tab summL dsummL false 1000000 1000

/-! The states of the chapter's example, between its statements. -/
def st0 : St := ⟨.e, Heap.none, []⟩
def tl1 : List (Nat × AVal) := [(1, .p 906 0), (2, .i .i64 0)]
def hl1 : List (Nat × AObj) :=
  [(903, .row [] true), (899, .row [.i .i64 1] true), (894, .row [.s [97]] true),
   (905, .row [.i .i64 8, .sl 894 0 1 none 1, .sl 899 0 1 none 1, .b false, .i .i64 5, .nsl, .sl 903 0 0 (some 0) 1, .b false] true),
   (906, .row [.sl 905 0 2 none 4, .i .i64 0] true)]
def st1 : St := St.ofL tl1 907 hl1
def tl2 : List (Nat × AVal) := [(1, .p 906 0), (2, .i .i64 0), (3, .p 1777 0), (4, .i .i64 0)]
def hl2 : List (Nat × AObj) :=
  [(1774, .row [] true), (1770, .row [.i .i64 1] true), (1765, .row [.s [98]] true),
   (1776, .row [.i .i64 9, .sl 1765 0 1 none 1, .sl 1770 0 1 none 1, .b false, .i .i64 0, .nsl, .sl 1774 0 0 (some 0) 1, .b false] true),
   (1777, .row [.sl 1776 0 2 none 4, .i .i64 0] true),
   (903, .row [] true), (899, .row [.i .i64 1] true), (894, .row [.s [97]] true),
   (905, .row [.i .i64 8, .sl 894 0 1 none 1, .sl 899 0 1 none 1, .b false, .i .i64 5, .nsl, .sl 903 0 0 (some 0) 1, .b false] true),
   (906, .row [.sl 905 0 2 none 4, .i .i64 0] true)]
def st2 : St := St.ofL tl2 1778 hl2

/-- Is the first result a yes? -/
def yes (r : Option (AEx × St)) : Bool :=
  match r with
  | some (.normal, s) => s.D.isEmpty && (match s.T.get 0 with
    | some (.b x) => x
    | _ => false)
  | _ => false

end
end K
end Go.Proofs.YtlgbgbngdhhjaaaGreatDoor

set_option linter.unusedSimpArgs false
set_option linter.unusedVariables false
namespace Go.Proofs.YtlgbgbngdhhjaaaGreatDoor
namespace K
open Go AM

theorem findN_eq (c : Nat) (hc : c < 256) : ∀ (bs : List UInt8) (i : Nat), findN c (bs.map UInt8.toNat) i = if Lib.indexByte bs c.toUInt8 = -1 then -1 else Lib.indexByte bs c.toUInt8 + i
  | [], i => by simp [findN, Lib.indexByte]
  | b :: bs, i => by
    have hge := Lib.indexByte_ge bs c.toUInt8
    have hbc : (b == c.toUInt8) = Nat.beq b.toNat c := by
      rw [Bool.eq_iff_iff, beq_iff_eq, Nat.beq_eq, ← UInt8.toNat_inj]
      have : (Nat.toUInt8 c).toNat = c := by
        show c % 256 = c
        omega
      rw [this]
    simp only [List.map_cons, findN, Lib.indexByte, hbc]
    cases h : Nat.beq b.toNat c with
    | true => simp
    | false =>
      simp only [cond_false, Bool.false_eq_true, if_false]
      rw [findN_eq c hc bs (i + 1)]
      by_cases h1 : Lib.indexByte bs c.toUInt8 = -1
      · simp [h1]
      · simp only [h1, if_false, beq_iff_eq]
        rw [if_neg (by omega)]
        push_cast
        omega

theorem pair_of {us : Array Value} {θ : Th} {x y : AVal} (h : VRels θ [x, y] us.toList) : ∃ u v, us = #[u, v] ∧ VRel θ x u ∧ VRel θ y v := by
  simp only [VRels] at h
  obtain ⟨u, r, h1, h2, v, r', h3, h4, h5⟩ := h
  subst h5 h3
  exact ⟨u, v, by rw [← Array.toList_inj, h1], h2, h4⟩

theorem fn167 : FnOk Tryz.prog 167 := ⟨_, _, Tryz.func167, by decide, rfl⟩
theorem fn52 : FnOk Tryz.prog 52 := ⟨_, _, Tryz.func52, by decide, rfl⟩

theorem calls167 (l : List Nat) (c : Nat) (hc : c < 256) (H : Heap) : CallsA Tryz.prog 167 [.s l, .i .u8 (.ofNat c)] H (.i .i64 (findN c l 0)) H := by
  intro K θ w us hw hus
  obtain ⟨u, v, rfl, h1, h2⟩ := pair_of hus
  simp only [VRel] at h1 h2
  obtain ⟨s, rfl, hs⟩ := h1
  subst h2
  refine (index167 s (Int.ofNat c) w).mono ?_
  rintro e w' ⟨rfl, rfl⟩
  refine ⟨θ, _, rfl, Th.Up.refl _ _, ?_, hw⟩
  rw [VRel.int, ← hs]
  rw [findN_eq c hc]
  congr 1
  show Lib.indexByte s.data.toList c.toUInt8 = _
  by_cases h : Lib.indexByte s.data.toList c.toUInt8 = -1
  · rw [if_pos h]; exact h
  · rw [if_neg h]; simp

theorem dsummL_ok : DCallOk Tryz.prog dsummL := by
  intro f args H v H' h
  unfold dsummL at h
  split at h <;> (try simp only [reduceCtorEq] at h)
  rename_i x y
  cases hf : Nat.beq f 52 with
  | false => rw [hf] at h; simp at h
  | true =>
    rw [hf] at h
    simp only [cond_true, Option.some.injEq, Prod.mk.injEq] at h
    obtain ⟨_, rfl⟩ := h
    obtain rfl := Nat.eq_of_beq_eq_true hf
    refine ⟨fn52, Nat.le_refl _, fun K θ w us hw hus => ?_⟩
    obtain ⟨u, v', rfl, h1, h2⟩ := pair_of hus
    refine (catch_idle u v' w).mono ?_
    rintro e u' w' ⟨rfl, rfl, rfl⟩
    exact ⟨rfl, θ, _, rfl, Th.Up.refl _ _, hw⟩

/-- Where no sign stands: what is left to show of the summaries. -/
def Bad81 : Prop := ∀ (i o n : Nat) (k : Option Nat) (e : Nat) (H : Heap) (l : List Nat), aBts H (.sl i o n k e) = some (.s l) → allLow l = true → 0 < n → n ≤ 1000000 → CallsA Tryz.prog 81 [.sl i o n k e] H (.i .i64 (-1)) H

theorem fn81 : FnOk Tryz.prog 81 := ⟨_, _, Tryz.func81, by decide, rfl⟩

theorem summL_ok (h81 : Bad81) : CallOk Tryz.prog summL := by
  intro f args H v H' h
  unfold summL at h
  split at h <;> (try simp only [reduceCtorEq] at h)
  · rename_i l c
    cases hf : Nat.beq f 167 && Nat.blt c 256 with
    | false => rw [hf] at h; simp at h
    | true =>
      rw [hf] at h
      simp only [cond_true, Option.some.injEq, Prod.mk.injEq] at h
      obtain ⟨rfl, rfl⟩ := h
      simp only [Bool.and_eq_true] at hf
      obtain rfl := Nat.eq_of_beq_eq_true hf.1
      exact ⟨fn167, Nat.le_refl _, calls167 l c (by simpa [Nat.blt_eq] using hf.2) H⟩
  · rename_i i o n k e
    cases hf : Nat.beq f 81 with
    | false => rw [hf] at h; simp at h
    | true =>
      rw [hf] at h
      simp only [cond_true] at h
      split at h <;> (try simp only [reduceCtorEq] at h)
      rename_i l hl
      cases ha : allLow l && (Nat.blt 0 n && Nat.ble n 1000000) with
      | false => rw [ha] at h; simp at h
      | true =>
        rw [ha] at h
        simp only [cond_true, Option.some.injEq, Prod.mk.injEq] at h
        obtain ⟨rfl, rfl⟩ := h
        obtain rfl := Nat.eq_of_beq_eq_true hf
        simp only [Bool.and_eq_true] at ha
        exact ⟨fn81, Nat.le_refl _, h81 i o n k e H l hl ha.1 (by simpa [Nat.blt_eq] using ha.2.1) (Nat.le_of_ble_eq_true ha.2.2)⟩

end K
end Go.Proofs.YtlgbgbngdhhjaaaGreatDoor

set_option maxRecDepth 100000
namespace Go.Proofs.YtlgbgbngdhhjaaaGreatDoor
namespace K
open Go AM

theorem lead1 : leads (evalC callL false 1000000 (.region r8_1) st0) .normal tl1 907 hl1 = true := by kernel_rfl

end K
end Go.Proofs.YtlgbgbngdhhjaaaGreatDoor

set_option maxRecDepth 100000
namespace Go.Proofs.YtlgbgbngdhhjaaaGreatDoor
namespace K
open Go AM

theorem lead2 : leads (evalC callL false 1000000 (.region r8_2) st1) .normal tl2 1778 hl2 = true := by kernel_rfl

end K
end Go.Proofs.YtlgbgbngdhhjaaaGreatDoor

set_option maxRecDepth 100000
namespace Go.Proofs.YtlgbgbngdhhjaaaGreatDoor
namespace K
open Go AM

theorem lead3 : yes (evalC callL false 1000000 (.draw d8_3) st2) = true := by kernel_rfl

end K
end Go.Proofs.YtlgbgbngdhhjaaaGreatDoor

set_option linter.unusedSimpArgs false
set_option linter.unusedVariables false
namespace Go.Proofs.YtlgbgbngdhhjaaaGreatDoor
namespace K
open Go AM

theorem mixed : Tryz.prog.follows .mixedOrders = true := by kernel_rfl

theorem callL_ok (h81 : Bad81) : CallOk Tryz.prog callL := (evalCall_ok mixed tabOk (summL_ok h81) dsummL_ok false 1000000 1000).1

theorem fn8 : FnOk Tryz.prog 8 := ⟨_, _, Tryz.func8, by decide, rfl⟩

theorem lives_none (h81 : Bad81) : ∃ H1, CallsA Tryz.prog 8 [] Heap.none (.b true) H1 := by
  have hok := callL_ok h81
  obtain ⟨fn, hf, hfn⟩ := tabOk 8 a8 rfl
  have h0 : Tri Tryz.prog tbl a8.N (.region r8_0) st0 .normal st0 :=
    Tri.eval hok mixed false 1000000 (s'' := ⟨putO .e (some 0) (.b false), Heap.none, []⟩) rfl ⟨rfl, rfl, (fun k v hk => by cases hk), (fun i o hi => by cases hi)⟩
  have h1 : Tri Tryz.prog tbl a8.N (.region r8_1) st0 .normal st1 := Tri.leads hok mixed lead1
  have h2 : Tri Tryz.prog tbl a8.N (.region r8_2) st1 .normal st2 := Tri.leads hok mixed lead2
  have h3 := lead3
  unfold yes at h3
  split at h3 <;> (try simp only [Bool.false_eq_true, Bool.and_eq_true] at h3)
  rename_i s hs
  obtain ⟨hD, hT⟩ := h3
  split at hT <;> (try simp only [Bool.false_eq_true] at hT)
  rename_i x hx
  subst hT
  have h4 : Tri Tryz.prog tbl a8.N (.draw d8_3) st2 .normal s := Tri.eval hok mixed false 1000000 hs ⟨rfl, rfl, fun _ _ h => h, fun _ _ h => h⟩
  have h5 : Tri Tryz.prog tbl a8.N .ret s .ret s := Tri.eval hok mixed false 1000000 (s'' := s) rfl ⟨rfl, rfl, fun _ _ h => h, fun _ _ h => h⟩
  have hb : Tri Tryz.prog tbl a8.N a8.body ⟨putArgs [] 0 .e, Heap.none, []⟩ .ret s := h0.seq (Tri.mask (h1.seq (Tri.mask (h2.seq (Tri.mask (h4.seq h5))))))
  have hD' : s.D = [] := by
    cases hd : s.D with
    | nil => rfl
    | cons y ys => rw [hd] at hD; simp at hD
  refine ⟨s.H, Tri.calls hf hfn (by simp) hb (.inr rfl) hD' (vs := [.b true]) ?_⟩
  show evalRess s.T s.H [.tmp 0] = _
  simp only [evalRess, evalRes, hx]

/-- It returns true, and what lay in the memory lies as it lay. -/
theorem lives_any (h81 : Bad81) (H : Heap) : CallsA Tryz.prog 8 [] H (.b true) H := by
  obtain ⟨H1, h⟩ := lives_none h81
  exact h.closed H

end K
end Go.Proofs.YtlgbgbngdhhjaaaGreatDoor

set_option linter.unusedSimpArgs false
set_option linter.unusedVariables false
namespace Go.Proofs.YtlgbgbngdhhjaaaGreatDoor
open Go Go.RowKit Go.Shelf
attribute [local go_sem] Oper.semAt_some

set_option maxRecDepth 100000 in
set_option maxHeartbeats 1000000 in
theorem first166 (b off len cap : Nat) (x : Int) (hx0 : 0 ≤ x) (hx : x < 128) (hl : 0 < len) (w : World) (hc : w.cell? ⟨b, off, none⟩ = some (.int .u8 x)) :
    Calls Tryz.prog 166 #[.slice (some ⟨b, off, none⟩) len cap] w fun e w' => e = .returned (.tuple #[.int .i32 x, .int .i64 1]) ∧ w' = w := by
  have hw : IntKind.i32.wrap x = x := by simp [IntKind.wrap, IntKind.bits, IntKind.signed]; omega
  go_enter Tryz.func166, Tryz.ntmps166
  go_wp2
  go_ret2
  simp [hw]

set_option maxRecDepth 100000 in
set_option maxHeartbeats 1000000 in
theorem size112 (x : Int) (hx : x < 128) (w : World) :
    Calls Tryz.prog 112 #[.int .i32 x] w fun e w' => e = .returned (.int .i64 1) ∧ w' = w := by
  go_enter Tryz.func112, Tryz.ntmps112
  go_wp2
  go_ret
  exact ⟨rfl, rfl⟩

set_option maxHeartbeats 1000000 in
theorem all111 (a : Option Addr) (len cap : Nat) (w : World) :
    Calls Tryz.prog 111 #[.slice a len cap] w fun e w' => e = .returned (.func (.func 165) #[] #[.pointer (some ⟨w.heap.size, 0, none⟩)]) ∧ w' = w.alloc (.cells #[.slice a len cap] 60) := by
  go_enter Tryz.func111, Tryz.ntmps111
  go_wp2
  go_ret
  exact ⟨rfl, rfl⟩

/-- What has come when k rounds are over. -/
def upto {α : Type} (f : Nat → α) (k : Nat) : List α := (List.range k).map f
theorem upto_succ {α : Type} (f : Nat → α) (k : Nat) : upto f (k + 1) = upto f k ++ [f k] := by simp [upto, List.range_succ]
theorem upto_length {α : Type} (f : Nat → α) (k : Nat) : (upto f k).length = k := by simp [upto]

/-- What a round keeps: what lay below n₀, and the box. -/
def Kp (n₀ Bs : Nat) (W W' : World) : Prop := Below n₀ W W' ∧ W'.cell? ⟨Bs, 0, none⟩ = W.cell? ⟨Bs, 0, none⟩

abbrev Sgn := Nat × Fin 128
def encS (x : Sgn) : Array Value := #[.int .i64 (x.1 : Int), .int .i32 (x.2.val : Int)]

set_option maxRecDepth 100000 in
set_option maxHeartbeats 2000000 in
theorem iter165 (n : Nat) (hn : 3 ≤ n) (l Bs n₀ b off len cap : Nat) (zs : Nat → Fin 128) (hreach : len ≤ 140737488351232) (hcap : len ≤ cap) (hb : b < n₀) (J Jx : List Sgn → World → Prop)
    (hY : ∀ pre x W, J pre W → pre.length < len → YieldAt Fence.wide (n - 1) Tryz.prog l (encS x) W fun e W' =>
      (e = .returned (.bool true) ∧ J (pre ++ [x]) W' ∧ Kp n₀ Bs W W') ∨ (e = .returned (.bool false) ∧ Jx (pre ++ [x]) W'))
    (W : World) (hBs : W.cell? ⟨Bs, 0, none⟩ = some (.slice (some ⟨b, off, none⟩) len cap)) (hc : ∀ j, j < len → W.cell? ⟨b, off + j, none⟩ = some (.int .u8 ((zs j).val : Int))) (h0 : J [] W) :
    CallsIn Fence.wide n Tryz.prog 165 #[.func (.yield l) #[] #[], .pointer (some ⟨Bs, 0, none⟩)] W fun e W' => (∃ v, e = .returned v) ∧
      ((∃ ys, ys = upto (fun j => (j, zs j)) len ∧ J ys W') ∨ (∃ pre, True ∧ Jx pre W')) := by
  refine callsIn_of_wp Tryz.func165 rfl trivial ?_ rfl
  simp only [Tryz.ntmps165, List.size_toArray, List.length_cons, List.length_nil, Nat.reduceAdd, Nat.reduceSub, Array.replicate_succ, Array.replicate_zero, List.push_toArray, List.append_toArray, List.nil_append, List.cons_append]
  gi_wp2
  gi_loopw [3] (fun i wr => ∃ k : Nat, k ≤ len ∧ i = .int .i64 k ∧ J (upto (fun j => (j, zs j)) k) wr ∧ Kp n₀ Bs W wr)
    (fun i _ => len - (intOf i).toNat)
  case atStart => exact ⟨0, Nat.zero_le _, rfl, h0, Below.refl _ _, rfl⟩
  case round =>
    obtain ⟨k, hk, rfl, hJs, hnx, hbx⟩ := hrel
    have hbw : wr.cell? ⟨Bs, 0, none⟩ = some (.slice (some ⟨b, off, none⟩) len cap) := hbx.trans hBs
    have hcx : k < len → wr.cell? ⟨b, off + k, none⟩ = some (.int .u8 ((zs k).val : Int)) := fun h => (hnx.cell (p := ⟨b, off + k, none⟩) hb).trans (hc k h)
    by_cases hlt : k < len
    · obtain ⟨fn, tmps, assign, body, hy, hR⟩ := hY _ (k, zs k) wr hJs (by rw [upto_length]; exact hlt)
      dsimp only [encS] at hy
      have hcx' := hcx hlt
      have hfirst := first166 b (off + k) (len - k) (cap - k) ((zs k).val : Int) (by omega) (by omega) (by omega) wr hcx'
      have h1n : 1 ≤ n := by omega
      gi_wp2_with (refine ⟨trivial, ?_⟩; gi_at_call 166; refine (callsIn_wide.2 hfirst).mono ?_; rintro e w' ⟨rfl, rfl⟩)
      refine hR.mono ?_
      rintro e W3 (⟨rfl, hJ3, hk3, hb3⟩ | ⟨rfl, hJx3⟩)
      · gi_wp2
        go_roundw
        case rel => exact ⟨k + 1, by omega, by simp, by rw [upto_succ]; exact hJ3, hnx.trans hk3, hb3.trans hbx⟩
        case measure => simp [intOf]; omega
      · gi_wp2
        refine bodyPost_ret (results_none rfl _ _ _) rfl ?_
        exact ⟨⟨_, rfl⟩, .inr ⟨_, trivial, hJx3⟩⟩
    · obtain rfl : k = len := by omega
      gi_wp2
      go_end0
      exact ⟨⟨_, rfl⟩, .inl ⟨_, rfl, hJs⟩⟩

end Go.Proofs.YtlgbgbngdhhjaaaGreatDoor

set_option linter.unusedSimpArgs false
set_option linter.unusedVariables false
namespace Go.Proofs.YtlgbgbngdhhjaaaGreatDoor
open Go Go.RowKit Go.Shelf
attribute [local go_sem] Oper.semAt_some

theorem cell_of_box_l {W : World} {B : Nat} {v : Value} {t : TypeId} (h : W.heap[B]? = some (.cells #[v] t (0, 0))) : W.cell? ⟨B, 0, none⟩ = some v ∧ W.frozen? ⟨B, 0, none⟩ = false := by
  constructor <;> simp [World.cell?, World.frozen?, h]
theorem cell_new_l (W : World) (v : Value) (t : TypeId) : (W.alloc (.cells #[v] t)).cell? ⟨W.heap.size, 0, none⟩ = some v ∧ (W.alloc (.cells #[v] t)).frozen? ⟨W.heap.size, 0, none⟩ = false :=
  cell_of_box_l (World.alloc_heap_new W _)
theorem cell_alloc_l {W : World} {a : Addr} {v : Value} (o : Obj) (h : W.cell? a = some v) : (W.alloc o).cell? a = some v := cell_kept h (World.grownBy_alloc W o none) (fun r e => by cases e)
theorem frozen_alloc_l {W : World} {a : Addr} {v : Value} (o : Obj) (h : W.cell? a = some v) (hf : W.frozen? a = false) : (W.alloc o).frozen? a = false := (frozen_kept h (World.grownBy_alloc W o none) (fun r e => by cases e)).trans hf

theorem stops165 (n : Nat) (hn : 3 ≤ n) (Bs n₀ b off len cap : Nat) (zs : Nat → Fin 128) (hreach : len ≤ 140737488351232) (hcap : len ≤ cap) (hb : b < n₀) (w : World) (hBs : Bs < w.heap.size) (hn₀ : n₀ ≤ w.heap.size)
    (hbox : w.cell? ⟨Bs, 0, none⟩ = some (.slice (some ⟨b, off, none⟩) len cap)) (hc : ∀ j, j < len → w.cell? ⟨b, off + j, none⟩ = some (.int .u8 ((zs j).val : Int))) :
    SeqStopsK Fence.wide n Tryz.prog 165 #[.pointer (some ⟨Bs, 0, none⟩)] encS (Kp n₀ Bs) (fun ys => ys = upto (fun j => (j, zs j)) len) (fun _ => True) len w := fun l J Jx W hW _ _ hY h0 => by
  have hbox' := (hW.cell (p := ⟨Bs, 0, none⟩) hBs).trans hbox
  have hc' : ∀ j, j < len → W.cell? ⟨b, off + j, none⟩ = some (.int .u8 ((zs j).val : Int)) := fun j hj => (hW.cell (p := ⟨b, off + j, none⟩) (by show b < _; omega)).trans (hc j hj)
  exact iter165 n hn l Bs n₀ b off len cap zs hreach hcap hb J Jx hY W hbox' hc' h0

/-- Behind the last sign. -/
def endOf (pre : List Sgn) : Int :=
  match pre.getLast? with
  | none => 0
  | some x => wrap64 ((x.1 : Int) + 1)

theorem endOf_snoc (pre : List Sgn) (x : Sgn) : endOf (pre ++ [x]) = wrap64 ((x.1 : Int) + 1) := by simp [endOf]

theorem endOf_upto (zs : Nat → Fin 128) (len : Nat) (h : len ≤ 140737488351232) : endOf (upto (fun j => (j, zs j)) len) = len := by
  cases len with
  | zero => rfl
  | succ k =>
    rw [upto_succ, endOf_snoc]
    unfold wrap64
    push_cast
    omega

set_option maxRecDepth 100000 in
set_option maxHeartbeats 2000000 in
theorem bad81 (n : Nat) (hn : 5 ≤ n) (b off len cap : Nat) (zs : Nat → Fin 128) (hreach : len ≤ 140737488351232) (hcap : len ≤ cap) (w : World) (hb : b < w.heap.size)
    (hc : ∀ j, j < len → w.cell? ⟨b, off + j, none⟩ = some (.int .u8 ((zs j).val : Int))) :
    CallsIn Fence.wide n Tryz.prog 81 #[.slice (some ⟨b, off, none⟩) len cap] w fun e w' => e = .returned (.int .i64 (-1)) ∧ Below w.heap.size w w' := by
  have h1 : 1 ≤ n := by omega
  refine callsIn_of_wp_marks Tryz.func81 rfl trivial ?_ rfl
  simp only [Tryz.ntmps81, List.size_toArray, List.length_cons, List.length_nil, Nat.reduceAdd, Nat.reduceSub, Array.replicate_succ, Array.replicate_zero, List.push_toArray, List.append_toArray, List.nil_append, List.cons_append]
  gi_wp2_with (refine ⟨trivial, ?_⟩; gi_at_call 111; refine (callsIn_wide.2 (all111 _ _ _ _)).mono ?_; rintro e w' ⟨rfl, rfl⟩)
  have hs := cell_new_l w (.int .i64 0) 3
  have hb2 := cell_new_l (w.alloc (.cells #[.int .i64 0] 3)) (.slice (some ⟨b, off, none⟩) len cap) 60
  rw [World.size_alloc] at hb2
  have hB0 : Below w.heap.size w ((w.alloc (.cells #[.int .i64 0] 3)).alloc (.cells #[.slice (some ⟨b, off, none⟩) len cap] 60)) := ((Below.refl _ w).alloc (Nat.le_refl _) _).alloc (by simp) _
  refine wpIn_rangeFunc_ownF rfl h1 (gf := 165) (lb := #[.pointer (some ⟨w.heap.size + 1, 0, none⟩)]) rfl trivial (enters_of Tryz.func165 (by kernel_rfl) rfl)
    (stops165 (n - 1) (by omega) (w.heap.size + 1) w.heap.size b off len cap zs hreach hcap hb _ (by simp) (by simp; omega) hb2.1 (fun j hj => (hB0.cell (p := ⟨b, off + j, none⟩) hb).trans (hc j hj)))
    (fun h k => ⟨h.1.trans k.1, k.2.trans h.2⟩) (fun W l o o' hl h ho hw => ⟨belowK_b (w := w) (Nat.le_refl _) W l o o' (by simp at hl; omega) h ho hw, World.cell?_of_block (World.putObj_heap_other (by simp at hl; show w.heap.size + 1 ≠ l; omega))⟩) (Below.refl _ _) (fun _ => rfl)
    (fun pre W => (W.cell? ⟨w.heap.size, 0, none⟩ = some (.int .i64 (endOf pre)) ∧ W.frozen? ⟨w.heap.size, 0, none⟩ = false) ∧ Below w.heap.size w W)
    (fun _ _ _ => False)
    (OwnFrom.and (Own.from (fun s A B row hs hg hr => ⟨cell_kept hs.1 hg hr, (frozen_kept hs.1 hg hr).trans hs.2⟩) _) (ownFrom_below (Nat.le_refl _) (by simp; omega)))
    (fun _ _ _ _ _ hs _ _ => hs)
    ⟨⟨cell_alloc_l _ hs.1, frozen_alloc_l _ hs.1 hs.2⟩, hB0⟩
    (fun x => { tmps := #[.slice (some ⟨b, off, none⟩) len cap, undef, .int .i64 0, .pointer (some ⟨w.heap.size, 0, none⟩), .int .i64 (x.1 : Int), .int .i32 (x.2.val : Int), .slice (some ⟨b, off, none⟩) len cap, .func (.func 165) #[] #[.pointer (some ⟨w.heap.size + 1, 0, none⟩)], .int .i64 (x.1 : Int), .int .i32 (x.2.val : Int), undef, undef, undef, undef, undef, undef, undef, undef, undef], defers := [] }) ?assign ?body ?done ?stop
  case assign =>
    intro l x W K hK
    simp only [encS]
    gi_wp2
    exact hK
  case body =>
    rintro l pre x W ⟨⟨hcc, hf⟩, hB⟩ _
    have h2n : 1 ≤ n - 1 - 1 := by omega
    have hsz := size112 (x.2.val : Int) (by omega) W
    gi_wp2_with (refine ⟨trivial, ?_⟩; gi_at_call 112; refine (CallsIn.inRound l (callsIn_wide.2 hsz)).mono ?_; rintro e w' ⟨rfl, rfl⟩)
    exact ⟨KeepsOthers.setCell _ _ _, ⟨(Below.refl w.heap.size w').setCell (p := ⟨w.heap.size, 0, none⟩) (Nat.le_refl _) _, World.cell?_setCell_other _ _ _ _ (by simp)⟩, ⟨by rw [endOf_snoc]; exact World.cell?_setCell_same' _ _ _ (by rw [hcc]; rfl), by rw [World.frozen?_setCell]; exact hf⟩, hB.setCell (p := ⟨w.heap.size, 0, none⟩) (Nat.le_refl _) _⟩
  case done =>
    rintro D ys W hD rfl ⟨⟨hcc, _⟩, hB⟩ hK
    rw [endOf_upto zs len hreach] at hcc
    gi_wp2
    refine ⟨by simp, .inl ⟨_, _, rfl, run_takeDeferred hK, ?_⟩⟩
    exact ⟨_, results_tmp rfl _ _ _, rfl, hB.trans (belowK_b (w := w) (Nat.le_refl _) W D _ _ (by simp at hD; omega) hK rfl rfl)⟩
  case stop =>
    rintro D c pre W _ _ h _
    exact h.elim

end Go.Proofs.YtlgbgbngdhhjaaaGreatDoor

set_option linter.unusedSimpArgs false
set_option linter.unusedVariables false
namespace Go.Proofs.YtlgbgbngdhhjaaaGreatDoor
namespace K
open Go AM Go.RowKit

theorem allLow_get : ∀ {l : List Nat}, allLow l = true → ∀ j, l.getD j 0 < 128
  | [], _, j => by simp
  | x :: l, h, 0 => by
    simp only [allLow, Bool.and_eq_true, Nat.blt_eq] at h
    simpa using h.1
  | x :: l, h, j + 1 => by
    simp only [allLow, Bool.and_eq_true] at h
    simpa using allLow_get h.2 j

/-- What lay lies as it lay: so the same is known of it. -/
theorem wrel_below {K : Kept} {θ : Th} {H : Heap} {w w' : World} (h : WRel K θ H w) (hb : Below w.heap.size w w') : WRel K θ H w' := by
  have hk : ∀ b o, w.heap[b]? = some o → w'.heap[b]? = some o := fun b o hbo => by
    rw [hb.block b (Array.getElem?_eq_some_iff.1 hbo).1]; exact hbo
  refine ⟨hb.os.trans h.os, hb.tape.trans h.tape, hb.output.trans h.output, h.good, fun b o hbo => hk b o (h.kept b o hbo), h.fresh, fun i l hi => ?_, h.own⟩
  obtain ⟨h4, h5⟩ := h.obj i l hi
  refine ⟨Nat.lt_of_lt_of_le h4 hb.size, fun o ho => ?_⟩
  obtain ⟨c, h6, h7⟩ := h5 o ho
  exact ⟨c, hk _ _ h6, h7⟩

theorem bad81_ok : Bad81 := by
  intro i o n k e H l hbts hlow hn hn2 K θ w us hw hus
  simp only [aBts] at hbts
  split at hbts <;> (try simp only [reduceCtorEq] at hbts)
  rename_i he1
  split at hbts <;> (try simp only [reduceCtorEq] at hbts)
  rename_i cs own hg
  split at hbts <;> (try simp only [Option.map_eq_some_iff, reduceCtorEq, AVal.s.injEq] at hbts)
  rename_i hlen
  obtain ⟨lst, hb, rfl⟩ := hbts
  simp only [VRels] at hus
  obtain ⟨u, r, hu, hv, hr⟩ := hus
  subst hr
  have husa : us = #[u] := by rw [← Array.toList_inj]; exact hu
  subst husa
  simp only [VRel] at hv
  obtain ⟨loc, ad, c, hl, rfl, hnc, _, _, had⟩ := hv
  have had' := had (by omega)
  subst had'
  obtain ⟨us, hul, _, hvs, _⟩ := hw.cellsAt hl hg hlen Tryz.prog
  obtain ⟨g1, g2, g3⟩ := bytesOfCells_sound hvs hb
  have hblk := (hw.obj i loc hl).1
  have hcell : ∀ j, j < n → w.cell? ⟨loc.b, loc.d + o + j, none⟩ = some (.int .u8 (((⟨lst.getD j 0, allLow_get hlow j⟩ : Fin 128).val : Nat) : Int)) := by
    intro j hj
    have hx : ((cs.drop o).take n)[j]? = cs[o + j]? := by rw [List.getElem?_take, if_pos hj, List.getElem?_drop]
    have hlt : o + j < cs.length := by omega
    obtain ⟨u, hu1, hu2, _⟩ := hw.cellAt hl hg (List.getElem?_eq_getElem hlt)
    obtain ⟨u', hu3, hu4⟩ := hvs.get j _ (by rw [hx]; exact List.getElem?_eq_getElem hlt)
    rw [g3 j (by omega)] at hu3
    obtain rfl := Option.some.inj hu3
    have e1 : (⟨loc.b, loc.d + o + j, none⟩ : Addr) = ⟨loc.b, loc.d + (o + j), none⟩ := by rw [Nat.add_assoc]
    rw [e1, hu1]
    congr 1
    generalize cs[o + j] = y at hu2 hu4
    cases y <;> simp [VRel] at hu4
    obtain ⟨rfl, hm⟩ := hu4
    rw [VRel.int] at hu2
    rw [hu2, ← hm]
    cases hq : lst[j]? <;> simp [hq]
  refine (callsIn_wide (n := 5)).1 ((bad81 5 (by omega) loc.b (loc.d + o) n c (fun j => ⟨lst.getD j 0, allLow_get hlow j⟩) (by omega) hnc w hblk hcell).mono ?_)
  rintro e w' ⟨rfl, hB⟩
  exact ⟨θ, _, rfl, Th.Up.refl _ _, by rw [VRel.int], wrel_below hw hB⟩

end K
end Go.Proofs.YtlgbgbngdhhjaaaGreatDoor

namespace Go.Proofs.YtlgbgbngdhhjaaaGreatDoor
namespace K
open Go AM

theorem lives_all (H : Heap) : CallsA Tryz.prog 8 [] H (.b true) H := lives_any bad81_ok H

end K
end Go.Proofs.YtlgbgbngdhhjaaaGreatDoor
