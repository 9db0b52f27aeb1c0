/- What the functions of unions, clones, sorts and signs come to. No condition. -/
import Derived.Test.YtlgbgbngdhhjaaaGreatDoorB07
import Derived.Shelf.LaysM
import Derived.Shelf.Strconv.Itoa3
import Derived.Shelf.Sort.Plain
import Derived.Shelf.Slices.In.SortNone
import Derived.Test.YtlgbgbngdhhjaaaGreatDoorProg
set_option linter.unusedSimpArgs false
set_option linter.unusedVariables false
set_option maxRecDepth 10000
namespace Go.Proofs.YtlgbgbngdhhjaaaGreatDoor
namespace K
noncomputable section
open Go AM

def kindC : List Nat := [105, 98, 115, 102, 100, 42, 33, 62, 123, 91]
def signC (h : Hd) : List Nat := (if h.opn then [93] else [kindC.getD h.kind.toNat 0]) ++ (h.names.map (· ++ [58])).flatten

@[simp] theorem p_convIS (T : Tm) (x : AOpd) : aPure T (.convIS x) = (ev T x).bind fun
    | .i _ n => if 0 ≤ n ∧ n < 128 then some (.s [n.toNat]) else none
    | _ => none := by
  simp only [aPure]
  cases ev T x with
  | none => rfl
  | some v => cases v <;> rfl

theorem colon_len {l : List (List Nat)} {m : Nat} (h : ∀ s ∈ l, s.length < m) : ((l.map (· ++ [58])).flatten).length ≤ l.length * m := by
  induction l with
  | nil => simp
  | cons x r ih =>
    have h1 := h x (by simp)
    have h2 := ih fun s hs => h s (by simp [hs])
    simp only [List.map_cons, List.flatten_cons, List.length_append, List.length_cons, Nat.add_mul, Nat.one_mul, List.length_nil]
    omega

theorem call42 {H : Heap} {c : List AVal} {h : Hd} (hh : HdOf H c h) (hk : 0 ≤ h.kind ∧ h.kind < 10) (hn : h.names.length < 100000) (hs : ∀ s ∈ h.names, s.length < 60000) :
    Call 42 [.agg c] H fun v H' => H' = H ∧ v = .s (signC h) := by
  refine Call.forget ?_
  obtain ⟨ns, ks, rfl, n1, k1⟩ := hh
  refine Call.by (a := a42) rfl (by simp [a42]) ?_
  simp [a42, c42, r42_0]
  obtain ⟨H1, hH1⟩ : ∃ P, P = H.push (.row [.i .i64 h.kind, ns, ks, .b h.opn] true) := ⟨_, rfl⟩
  have e1 : Ex H H1 := by rw [hH1]; exact (Ex.refl H).push _
  have gh : H1.get H.nx = some (.row [.i .i64 h.kind, ns, ks, .b h.opn] true) := by rw [hH1]; simp
  rw [← hH1]
  obtain ⟨kn, hkn⟩ : ∃ n : Nat, h.kind = n := ⟨h.kind.toNat, by omega⟩
  have hkl : kn < kindC.length := by simp [kindC]; omega
  obtain ⟨ch, hch⟩ : ∃ y, kindC[kn]? = some y := ⟨_, List.getElem?_eq_getElem hkl⟩
  have hcr : ch < 128 := by
    have : ∀ y ∈ kindC, y < 128 := by decide
    exact this ch (List.mem_of_getElem? hch)
  have lk : aLoad H1 (.p H.nx 0) 1 false = some (.i .i64 (kn : Int)) := by rw [load_row gh, ← hkn]; rfl
  have lo : aLoad H1 (.p H.nx 3) 1 false = some (.b h.opn) := by rw [load_row gh]; rfl
  have ln : aLoad H1 (.p H.nx 1) 1 false = some ns := by rw [load_row gh]; rfl
  have hb : sbt (.s [105, 98, 115, 102, 100, 42, 33, 62, 123, 91]) (.i .i64 (kn : Int)) = some (.i .u8 (ch : Int)) := sbt_at hch
  have n1' := n1.ex e1
  have loop : ∀ (T : Tm) (s0 : List Nat), s0.length ≤ 1 → s0 = (if h.opn then [93] else [kindC.getD h.kind.toNat 0]) → T.get 1 = some (.p H.nx 0) → T.get 3 = some (.s s0) → runO r42_4 T H1 (seqK (run (.mask [3, 13, 14, 15] (.block 0 (.loop l42_0)))) (seqK (run (.mask [3] (.seq (.region r42_9) .ret)))
      (retK [.tmp 2] fun v H' => Ex H H' ∧ AM.inB H.nx v = true ∧ v = .s (signC h)))) := by
    intro T s0 hs0 hse t1 t3
    simp [r42_4, t1, ln, n1'.len']
    refine Loop.by (fun r T' H' => H' = H1 ∧ T'.get 13 = some ns ∧ T'.get 14 = some (.i .i64 (h.names.length : Int)) ∧ ∃ j : Nat, j + r = h.names.length ∧ T'.get 15 = some (.i .i64 (j : Int)) ∧ T'.get 3 = some (.s (s0 ++ ((h.names.take j).map (· ++ [58])).flatten))) h.names.length ?_ ?_
    · exact ⟨rfl, by simp, by simp, 0, by simp, by simp, by simp [t3]⟩
    · rintro r T' H' ⟨rfl, g13, g14, j, hj, g15, g3⟩
      by_cases hlt : j < h.names.length
      · obtain ⟨nm, hnj⟩ : ∃ y, h.names[j]? = some y := ⟨_, List.getElem?_eq_getElem hlt⟩
        have hlt' : (j : Int) < (h.names.length : Int) := by omega
        have hnl := hs nm (List.mem_of_getElem? hnj)
        have a1 := s_add (a := nm) (b := [58]) (by simp; omega)
        have fl := colon_len (l := h.names.take j) (m := 60000) fun s hs' => hs s (List.mem_of_mem_take hs')
        have a2 := s_add (a := s0 ++ ((h.names.take j).map (· ++ [58])).flatten) (b := nm ++ [58]) (by
          rw [List.length_append, List.length_append, List.length_take] at *
          simp only [List.length_cons, List.length_nil]
          omega)
        obtain ⟨acc, hacc⟩ : ∃ z, z = s0 ++ ((h.names.take j).map (· ++ [58])).flatten := ⟨_, rfl⟩
        rw [← hacc] at a2 g3
        simp [l42_0, r42_5, r42_6, g13, g14, g15, hlt', sidx_at n1'.len' hlt, n1'.get hnj]
        simp [r42_7, g3, a1, a2, r42_8, g13, g14, g15, b_inc (show j < 4611686018427387904 by omega)]
        refine ⟨r - 1, by omega, j + 1, by omega, by simp, ?_⟩
        have : (h.names.take (j + 1)).map (· ++ [58]) = (h.names.take j).map (· ++ [58]) ++ [nm ++ [58]] := by rw [List.take_add_one, hnj]; simp
        rw [← List.map_take, this, hacc]; simp
      · have hlt' : ¬ (j : Int) < (h.names.length : Int) := by omega
        rw [List.take_of_length_le (by omega : h.names.length ≤ j)] at g3
        simp [l42_0, r42_5, g13, g14, g15, hlt', r42_9, g3]
        refine ⟨e1, ?_⟩
        rw [hse]
        exact ⟨by simp [AM.inB], rfl⟩
  have hcr' : (ch : Int) < 128 := by omega
  simp [r42_1, lk, hb, hcr']
  have hc1 : kindC.getD h.kind.toNat 0 = ch := by rw [hkn, List.getD_eq_getElem?_getD]; simp [hch]
  cases ho : h.opn with
  | true =>
    rw [ho] at lo
    simp [r42_2, lo, r42_3]
    refine loop _ [93] (by simp) (by simp [ho]) ?_ ?_ <;> simp
  | false =>
    rw [ho] at lo
    simp [r42_2, lo]
    refine loop _ [ch] (by simp) (by simp [ho, hch, hkn]) ?_ ?_ <;> simp

end
end K
end Go.Proofs.YtlgbgbngdhhjaaaGreatDoor

namespace Go.Proofs
open Go.Shelf
def Tryz.laysM171_ren : Go.Shelf.Ren := ⟨fun | 171 => 105 | 243 => 150 | 246 => 180 | 283 => 151 | 284 => 152 | 285 => 153 | 286 => 154 | 129 => 141 | 317 => 181 | 318 => 182 | 319 => 183 | 320 => 184 | 337 => 195 | 338 => 196 | n => n, fun | 3 => 3 | 9 => 9 | 2 => 2 | 4 => 4 | 171 => 207 | 0 => 0 | 53 => 120 | 37 => 60 | 5 => 5 | 173 => 209 | 212 => 236 | 51 => 197 | 20 => 20 | 213 => 237 | 46 => 163 | 232 => 248 | 233 => 249 | n => n, fun | 17 => 1 | 18 => 3 | 19 => 4 | n => n⟩
theorem Tryz.laysM171 : Go.Proofs.LaysM.n171 Tryz.prog Tryz.laysM171_ren := {
  mixed := by kernel_rfl
  f129 := Tryz.func141.trans (congrArg some (by kernel_rfl))
  f171 := Tryz.func105.trans (congrArg some (by kernel_rfl))
  f243 := Tryz.func150.trans (congrArg some (by kernel_rfl))
  f246 := Tryz.func180.trans (congrArg some (by kernel_rfl))
  f283 := Tryz.func151.trans (congrArg some (by kernel_rfl))
  f284 := Tryz.func152.trans (congrArg some (by kernel_rfl))
  f285 := Tryz.func153.trans (congrArg some (by kernel_rfl))
  f286 := Tryz.func154.trans (congrArg some (by kernel_rfl))
  f317 := Tryz.func181.trans (congrArg some (by kernel_rfl))
  f318 := Tryz.func182.trans (congrArg some (by kernel_rfl))
  f319 := Tryz.func183.trans (congrArg some (by kernel_rfl))
  f320 := Tryz.func184.trans (congrArg some (by kernel_rfl))
  f337 := Tryz.func195.trans (congrArg some (by kernel_rfl))
  f338 := Tryz.func196.trans (congrArg some (by kernel_rfl))
  t0 := Tryz.underlying0
  a0 := Tryz.isAgg0
  z0 := Tryz.sizeOf0
  v0 := Tryz.zeroValue0
  t2 := Tryz.underlying2
  a2 := Tryz.isAgg2
  z2 := Tryz.sizeOf2
  v2 := Tryz.zeroValue2
  t3 := Tryz.underlying3
  a3 := Tryz.isAgg3
  z3 := Tryz.sizeOf3
  v3 := Tryz.zeroValue3
  t4 := Tryz.underlying4
  a4 := Tryz.isAgg4
  z4 := Tryz.sizeOf4
  v4 := Tryz.zeroValue4
  t5 := Tryz.underlying5
  a5 := Tryz.isAgg5
  z5 := Tryz.sizeOf5
  v5 := Tryz.zeroValue5
  t9 := Tryz.underlying9
  a9 := Tryz.isAgg9
  z9 := Tryz.sizeOf9
  v9 := Tryz.zeroValue9
  t20 := Tryz.underlying20
  a20 := Tryz.isAgg20
  z20 := Tryz.sizeOf20
  v20 := Tryz.zeroValue20
  t37 := Tryz.underlying60
  a37 := Tryz.isAgg60
  z37 := Tryz.sizeOf60
  v37 := Tryz.zeroValue60
  t46 := Tryz.underlying163
  a46 := Tryz.isAgg163
  z46 := Tryz.sizeOf163
  v46 := Tryz.zeroValue163
  t51 := Tryz.underlying197
  a51 := Tryz.isAgg197
  z51 := Tryz.sizeOf197
  v51 := Tryz.zeroValue197
  t53 := Tryz.underlying120
  a53 := Tryz.isAgg120
  z53 := Tryz.sizeOf120
  v53 := Tryz.zeroValue120
  t171 := Tryz.underlying207
  a171 := Tryz.isAgg207
  z171 := Tryz.sizeOf207
  v171 := Tryz.zeroValue207
  t173 := Tryz.underlying209
  a173 := Tryz.isAgg209
  z173 := Tryz.sizeOf209
  v173 := Tryz.zeroValue209
  t212 := Tryz.underlying236
  a212 := Tryz.isAgg236
  z212 := Tryz.sizeOf236
  v212 := Tryz.zeroValue236
  t213 := Tryz.underlying237
  a213 := Tryz.isAgg237
  z213 := Tryz.sizeOf237
  t232 := Tryz.underlying248
  a232 := Tryz.isAgg248
  z232 := Tryz.sizeOf248
  v232 := Tryz.zeroValue248
  t233 := Tryz.underlying249
  a233 := Tryz.isAgg249
  z233 := Tryz.sizeOf249
  v233 := Tryz.zeroValue249
  g17 := by kernel_rfl
  g18 := by kernel_rfl
  g19 := by kernel_rfl
  i0 := by kernel_rfl
  i2 := by kernel_rfl
  i3 := by kernel_rfl
  i4 := by kernel_rfl
  i5 := by kernel_rfl
  i9 := by kernel_rfl
  i20 := by kernel_rfl
  i37 := by kernel_rfl
  i46 := by kernel_rfl
  i51 := by kernel_rfl
  i53 := by kernel_rfl
  i171 := by kernel_rfl
  i173 := by kernel_rfl
  i212 := by kernel_rfl
  i232 := by kernel_rfl
  i233 := by kernel_rfl
  m17 := by kernel_rfl
  m18 := by kernel_rfl
  m19 := by kernel_rfl }
open Go.RowKit Go.Sort Go.Lib in
/-- strconv.Itoa: "Itoa is equivalent to FormatInt(int64(i), 10).": i's DECIMAL NUMERAL ('Lib.itoa': a '-' where i is negative, then the digits), FOR EVERY int. The world behind the call: the world before it, new blocks behind the heap (the library's 'var a [24]byte'), draws. (LAID: no walk: one application.) -/
theorem Tryz.strconv_Itoa (n : Int) (h0 : -9223372036854775808 ≤ n) (h1 : n ≤ 9223372036854775807) (w : World) (htab : Lib.TabIs Tryz.prog w "internal/strconv.uint64pow10" .u64 Lib.pow10Tab) :
    Calls Tryz.prog 105 #[.int .i64 n] w fun e w' => e = .returned (.string ⟨(Lib.itoa n).toArray⟩) ∧ ∃ k os, w' = grow (w.drewN k) os := Any.strconv_Itoa Tryz.laysM171 n h0 h1 w htab
def Tryz.lays190_ren : Go.Shelf.Ren := ⟨fun | 190 => 79 | 125 => 103 | 258 => 110 | 128 => 140 | 129 => 141 | 302 => 157 | 303 => 158 | 304 => 159 | 305 => 160 | 306 => 161 | 307 => 162 | 308 => 155 | 309 => 163 | 310 => 164 | 333 => 186 | 329 => 187 | 330 => 188 | 334 => 189 | 335 => 190 | 336 => 185 | 344 => 197 | n => n, fun | 31 => 39 | 9 => 9 | 3 => 3 | 46 => 163 | 0 => 0 | 51 => 197 | 53 => 120 | 4 => 4 | 183 => 213 | 182 => 212 | 131 => 94 | 5 => 5 | 218 => 238 | 222 => 232 | 228 => 246 | 229 => 244 | n => n, fun | n => n⟩
theorem Tryz.lays190 : Go.Proofs.Lays.n190 Tryz.prog Tryz.lays190_ren := {
  mixed := by kernel_rfl
  f125 := Tryz.func103.trans (congrArg some (by kernel_rfl))
  f128 := Tryz.func140.trans (congrArg some (by kernel_rfl))
  f129 := Tryz.func141.trans (congrArg some (by kernel_rfl))
  f190 := Tryz.func79.trans (congrArg some (by kernel_rfl))
  f258 := Tryz.func110.trans (congrArg some (by kernel_rfl))
  f302 := Tryz.func157.trans (congrArg some (by kernel_rfl))
  f303 := Tryz.func158.trans (congrArg some (by kernel_rfl))
  f304 := Tryz.func159.trans (congrArg some (by kernel_rfl))
  f305 := Tryz.func160.trans (congrArg some (by kernel_rfl))
  f306 := Tryz.func161.trans (congrArg some (by kernel_rfl))
  f307 := Tryz.func162.trans (congrArg some (by kernel_rfl))
  f308 := Tryz.func155.trans (congrArg some (by kernel_rfl))
  f309 := Tryz.func163.trans (congrArg some (by kernel_rfl))
  f310 := Tryz.func164.trans (congrArg some (by kernel_rfl))
  f329 := Tryz.func187.trans (congrArg some (by kernel_rfl))
  f330 := Tryz.func188.trans (congrArg some (by kernel_rfl))
  f333 := Tryz.func186.trans (congrArg some (by kernel_rfl))
  f334 := Tryz.func189.trans (congrArg some (by kernel_rfl))
  f335 := Tryz.func190.trans (congrArg some (by kernel_rfl))
  f336 := Tryz.func185.trans (congrArg some (by kernel_rfl))
  f344 := Tryz.func197.trans (congrArg some (by kernel_rfl))
  t0 := Tryz.underlying0
  a0 := Tryz.isAgg0
  z0 := Tryz.sizeOf0
  v0 := Tryz.zeroValue0
  t3 := Tryz.underlying3
  a3 := Tryz.isAgg3
  z3 := Tryz.sizeOf3
  v3 := Tryz.zeroValue3
  t4 := Tryz.underlying4
  a4 := Tryz.isAgg4
  z4 := Tryz.sizeOf4
  v4 := Tryz.zeroValue4
  t5 := Tryz.underlying5
  a5 := Tryz.isAgg5
  z5 := Tryz.sizeOf5
  v5 := Tryz.zeroValue5
  t9 := Tryz.underlying9
  a9 := Tryz.isAgg9
  z9 := Tryz.sizeOf9
  v9 := Tryz.zeroValue9
  t31 := Tryz.underlying39
  a31 := Tryz.isAgg39
  z31 := Tryz.sizeOf39
  v31 := Tryz.zeroValue39
  t46 := Tryz.underlying163
  a46 := Tryz.isAgg163
  z46 := Tryz.sizeOf163
  v46 := Tryz.zeroValue163
  t51 := Tryz.underlying197
  a51 := Tryz.isAgg197
  z51 := Tryz.sizeOf197
  v51 := Tryz.zeroValue197
  t53 := Tryz.underlying120
  a53 := Tryz.isAgg120
  z53 := Tryz.sizeOf120
  v53 := Tryz.zeroValue120
  t131 := Tryz.underlying94
  a131 := Tryz.isAgg94
  z131 := Tryz.sizeOf94
  v131 := Tryz.zeroValue94
  t182 := Tryz.underlying212
  a182 := Tryz.isAgg212
  z182 := Tryz.sizeOf212
  v182 := Tryz.zeroValue212
  t183 := Tryz.underlying213
  a183 := Tryz.isAgg213
  z183 := Tryz.sizeOf213
  v183 := Tryz.zeroValue213
  t218 := Tryz.underlying238
  a218 := Tryz.isAgg238
  z218 := Tryz.sizeOf238
  v218 := Tryz.zeroValue238
  t222 := Tryz.underlying232
  a222 := Tryz.isAgg232
  z222 := Tryz.sizeOf232
  v222 := Tryz.zeroValue232
  t228 := Tryz.underlying246
  a228 := Tryz.isAgg246
  z228 := Tryz.sizeOf246
  v228 := Tryz.zeroValue246
  t229 := Tryz.underlying244
  a229 := Tryz.isAgg244
  z229 := Tryz.sizeOf244
  v229 := Tryz.zeroValue244 }
open Go.Sort Go.RowKit in
theorem Tryz.slices_Sort_string (blk off cap : Nat) (ss : List (List UInt8)) (w : World) (hH : Holds encStr w blk off ss.toArray) (hblk : blk < w.heap.size) (hsz : ss.length < 4611686018427387904) :
    Calls Tryz.prog 79 #[.slice (some ⟨blk, off, none⟩) ss.length cap] w fun e w' =>
      e = .returned (.tuple #[]) ∧ ∃ n os, w' = grow (putRow encStr (Sort.ahead w n) blk off (ss.mergeSort fun x y => decide (x ≤ y)).toArray) os := Any.slices_Sort_string Tryz.lays190 blk off cap ss w hH hblk hsz
end Go.Proofs

set_option linter.unusedSimpArgs false
set_option linter.unusedVariables false
set_option maxRecDepth 10000
namespace Go.Proofs.YtlgbgbngdhhjaaaGreatDoor
namespace K
noncomputable section
open Go AM

theorem natsLess_lt (x y : List UInt8) : natsLess (x.map UInt8.toNat) (y.map UInt8.toNat) = decide (x < y) := by
  rw [natsLess_map, Go.Proofs.bytesLess_eq]

def sortN (l : List (List Nat)) : List (List Nat) := l.mergeSort fun x y => !natsLess y x

theorem sort_map (ss : List (List UInt8)) : (ss.mergeSort fun x y => decide (x ≤ y)).map (List.map UInt8.toNat) = sortN (ss.map (List.map UInt8.toNat)) := by
  unfold sortN
  refine List.map_mergeSort (fun a _ b _ => ?_)
  rw [natsLess_lt]
  rw [Bool.eq_iff_iff]
  simp [List.not_lt]

/-- More blocks, draws. -/
theorem wrel_more {K : Kept} {θ : Th} {H : Heap} {w w' : World} (h : WRel K θ H w) (h1 : w'.os = w.os ∧ w'.tape = w.tape ∧ w'.output = w.output) (hb : ∀ (b : Nat) o, w.heap[b]? = some o → w'.heap[b]? = some o) : WRel K θ H w' := by
  refine ⟨h1.1.trans h.os, h1.2.1.trans h.tape, h1.2.2.trans h.output, h.good, fun b o hk => hb b o (h.kept b o hk), h.fresh, fun i l hi => ?_, h.own⟩
  obtain ⟨h2, h3⟩ := h.obj i l hi
  refine ⟨?_, fun o ho => ?_⟩
  · have := hb l.b (w.heap[l.b]) (by simp [h2])
    exact (Array.getElem?_eq_some_iff.1 this).1
  · obtain ⟨c, h6, h7⟩ := h3 o ho
    exact ⟨c, hb _ _ h6, h7⟩

theorem fn79 : FnOk Tryz.prog 79 := ⟨_, _, Tryz.func79, by decide, rfl⟩
theorem fn105 : FnOk Tryz.prog 105 := ⟨_, _, Tryz.func105, by decide, rfl⟩

/-- Strings of cells. -/
theorem strs_of {θ : Th} : ∀ {l : List (List Nat)} {us : List Value}, VRels θ (l.map .s) us → ∃ ss : List (List UInt8), us = ss.map Go.Proofs.encStr ∧ l = ss.map (List.map UInt8.toNat)
  | [], us, h => by
    simp [VRels] at h
    exact ⟨[], by simp [h], rfl⟩
  | x :: r, us, h => by
    simp only [List.map_cons, VRels] at h
    obtain ⟨u, us', rfl, h1, h2⟩ := h
    obtain ⟨ss, rfl, rfl⟩ := strs_of h2
    simp only [VRel] at h1
    obtain ⟨s, rfl, h3⟩ := h1
    exact ⟨s.data.toList :: ss, by simp [Go.Proofs.encStr], by simp [h3]⟩

theorem rel_strs {θ : Th} : ∀ (ss : List (List UInt8)), VRels θ ((ss.map (List.map UInt8.toNat)).map .s) (ss.map Go.Proofs.encStr)
  | [] => by simp [VRels]
  | s :: r => by
    simp only [List.map_cons, VRels]
    exact ⟨_, _, rfl, ⟨⟨s.toArray⟩, rfl, by simp⟩, rel_strs r⟩

theorem call79 {H : Heap} {i : Nat} {l : List (List Nat)} (hg : H.get i = some (.row (l.map .s) true)) (hn : 0 < l.length) (hm : l.length < 4611686018427387904) :
    Call 79 [.sl i 0 l.length none 1] H fun v H' => H' = H.put i (.row ((sortN l).map .s) true) := by
  refine ⟨.tup [], H.put i (.row ((sortN l).map .s) true), ⟨fn79, Nat.le_refl _, ?_⟩, rfl⟩
  intro K θ w us hw hus
  simp only [VRels] at hus
  obtain ⟨u, us', hus, hv, rfl⟩ := hus
  have hus' : us = #[u] := by
    apply Array.ext'
    simpa using hus
  subst hus'
  simp only [VRel] at hv
  obtain ⟨lc, a, c, hth, rfl, hnc, hsz, _, hadr⟩ := hv
  have hadr' := hadr (by omega)
  subst hadr'
  obtain ⟨hlt, h2⟩ := hw.obj i lc hth
  obtain ⟨ob, hc, c', e, fr, rfl, hsz', hl, h5, hfr⟩ := h2 _ hg
  obtain rfl := hfr rfl
  have hll : (l.map AVal.s).length = l.length := by simp
  rw [hll] at hl
  -- the cells
  have hrel : VRels θ (l.map .s) ((c'.toList.drop lc.d).take l.length) := by
    refine VRels.of_get (by simp; omega) fun j x hj => ?_
    obtain ⟨u, hu1, hu2, _⟩ := h5 j x hj
    have hjl : j < l.length := by
      have := (List.getElem?_eq_some_iff.1 hj).1
      simpa using this
    refine ⟨u, ?_, hu2⟩
    rw [List.getElem?_take, if_pos hjl, List.getElem?_drop]
    simpa using hu1
  obtain ⟨ss, hss, rfl⟩ := strs_of hrel
  have hsl : ss.length = (ss.map (List.map UInt8.toNat)).length := by simp
  have hlen : (ss.map (List.map UInt8.toNat)).length = ss.length := by simp
  rw [hlen] at hl hss hnc hn hm
  have hat : ∀ j, j < ss.length → c'[lc.d + j]? = some (Go.Proofs.encStr ss[j]!) := by
    intro j hj
    have := congrArg (fun q => q[j]?) hss
    simp only [List.getElem?_take, List.getElem?_drop, if_pos hj, List.getElem?_map] at this
    rw [Array.getElem?_toList] at this
    rw [this, List.getElem?_eq_getElem hj, getElem!_pos ss j hj]
    rfl
  have hH : Go.Sort.Holds Go.Proofs.encStr w lc.b (lc.d + 0) ss.toArray := by
    intro j hj
    have hj' : j < ss.length := by simpa using hj
    constructor
    · simp only [World.cell?, hc]
      rw [Nat.add_zero]
      simp [hat j hj']
    · simp only [World.frozen?, hc]
      simp
  rw [hlen]
  refine (Tryz.slices_Sort_string lc.b (lc.d + 0) c ss w hH hlt hm).mono ?_
  rintro e' w' ⟨rfl, n, os, rfl⟩
  refine ⟨θ, .tuple #[], rfl, Th.Up.refl _ _, by simp [VRel, VRels], ?_⟩
  -- the world in which the row is turned
  have hsort : ((ss.mergeSort fun x y => decide (x ≤ y)).map (List.map UInt8.toNat)) = sortN (ss.map (List.map UInt8.toNat)) := sort_map ss
  obtain ⟨ts, hts⟩ : ∃ ts, ts = ss.mergeSort fun x y => decide (x ≤ y) := ⟨_, rfl⟩
  have htl : ts.length = ss.length := by rw [hts, List.length_mergeSort]
  rw [← hts] at hsort ⊢
  have hw1 : WRel K θ (H.put i (.row ((sortN (ss.map (List.map UInt8.toNat))).map .s) true)) (Go.Sort.putRow Go.Proofs.encStr (Go.Sort.ahead w n) lc.b (lc.d + 0) ts.toArray) := by
    refine hw.turn hth hg rfl (c := .cells (Go.Sort.putCells Go.Proofs.encStr (lc.d + 0) ts.toArray c') e (0, 0)) ⟨rfl, rfl, rfl⟩ (by simp) ?_ ?_ ?_
    · simp only [Go.Sort.putRow, Go.Sort.mapBlock, Go.Sort.heap_ahead, Array.getElem?_modify, if_true, hc, Option.map_some, Go.Sort.onCells]
    · intro b hb
      simp only [Go.Sort.putRow, Go.Sort.mapBlock, Go.Sort.heap_ahead, Array.getElem?_modify]
      rw [if_neg (fun e => hb e.symm)]
    · refine ⟨_, e, (0, 0), rfl, by simp [Go.Sort.putCells, hsz'], by rw [← hsort]; simp [Go.Sort.putCells, htl]; exact hl, fun j x hj => ?_, fun _ => rfl⟩
      rw [← hsort] at hj
      have hj' : j < ts.length := by
        have := (List.getElem?_eq_some_iff.1 hj).1
        simpa using this
      have hcj : lc.d + j < c'.size := by omega
      have hx := rel_strs (θ := θ) ts
      obtain ⟨u, hu1, hu2⟩ := hx.get j x hj
      refine ⟨u, ?_, hu2, ?_⟩
      · simp only [Go.Sort.putCells, Array.getElem?_mapIdx, Array.getElem?_eq_getElem hcj, Option.map_some]
        rw [if_pos ⟨by omega, by simp; omega⟩]
        rw [← hu1, List.getElem?_map, List.getElem?_eq_getElem hj', show lc.d + j - (lc.d + 0) = j by omega, getElem!_pos _ j (by simpa using hj')]
        simp
      · rw [List.getElem?_map] at hu1
        cases hq : ts[j]? with
        | none => rw [hq] at hu1; cases hu1
        | some t => rw [hq] at hu1; simp at hu1; subst hu1; rfl
  refine wrel_more hw1 ⟨rfl, rfl, rfl⟩ fun b o hb => ?_
  simp only [Go.Sort.grow]
  have := (Array.getElem?_eq_some_iff.1 hb).1
  rw [Array.getElem?_append_left this]
  exact hb

theorem call79_nil {H : Heap} {v : AVal} (hv : v = .nsl ∨ ∃ i, v = .sl i 0 0 (some 0) 1) : Call 79 [v] H fun v H' => H' = H := by
  refine ⟨.tup [], H, ⟨fn79, Nat.le_refl _, ?_⟩, rfl⟩
  intro K θ w us hw hus
  simp only [VRels] at hus
  obtain ⟨u, us', hus, hv', rfl⟩ := hus
  have hus' : us = #[u] := by
    apply Array.ext'
    simpa using hus
  subst hus'
  have hu : ∃ p cap, u = .slice p 0 cap := by
    rcases hv with rfl | ⟨i, rfl⟩
    · simp only [VRel] at hv'
      exact ⟨none, 0, hv'⟩
    · simp only [VRel] at hv'
      obtain ⟨l, a, c, _, h, _⟩ := hv'
      exact ⟨_, _, h⟩
  obtain ⟨p, cap, rfl⟩ := hu
  refine (Any.slices_Sort_string_none Tryz.lays190 p cap w).mono ?_
  rintro e w' ⟨rfl, rfl⟩
  exact ⟨θ, .tuple #[], rfl, Th.Up.refl _ _, by simp [VRel, VRels], hw⟩

def itoaN (n : Nat) : List Nat := (Lib.decDigits n).map UInt8.toNat

theorem glob_pow : Tryz.prog.globalNamed "internal/strconv.uint64pow10" = some 1 := by kernel_rfl

theorem call105 {H : Heap} {n : Nat} (hn : n < 4611686018427387904) : Call 105 [.i .i64 (n : Int)] H fun v H' => H' = H ∧ v = .s (itoaN n) := by
  refine ⟨.s (itoaN n), H, ⟨fn105, Nat.le_refl _, ?_⟩, rfl, rfl⟩
  intro K θ w us hw hus
  simp only [VRels, VRel] at hus
  obtain ⟨u, us', hus, rfl, rfl⟩ := hus
  have hus' : us = #[.int .i64 (n : Int)] := by
    apply Array.ext'
    simpa using hus
  subst hus'
  have htab : Lib.TabIs Tryz.prog w "internal/strconv.uint64pow10" .u64 Lib.pow10Tab := by
    obtain ⟨e, fr, hk⟩ := hw.good
    have := hw.kept _ _ hk
    simp only [Lib.TabIs, World.var?, glob_pow, Option.bind_some, this]
  refine (Tryz.strconv_Itoa (n : Int) (by omega) (by omega) w htab).mono ?_
  rintro e w' ⟨rfl, k, os, rfl⟩
  refine ⟨θ, _, rfl, Th.Up.refl _ _, ⟨_, rfl, ?_⟩, ?_⟩
  · have : Lib.itoa (n : Int) = Lib.decDigits n := by
      unfold Lib.itoa
      rw [if_neg (by omega)]
      simp
    simp [this, itoaN]
  · refine wrel_more hw ⟨rfl, rfl, rfl⟩ fun b o hb => ?_
    simp only [Go.Sort.grow]
    have := (Array.getElem?_eq_some_iff.1 hb).1
    rw [Array.getElem?_append_left (by simpa using this)]
    exact hb


/-- A class's key. -/
def keyC (h : Hd) (cs : List Nat) : List Nat := signC h ++ (cs.map fun c => 32 :: itoaN c).flatten

theorem itoaN_small {n : Nat} (h : n < 10) : itoaN n = [48 + n] := by
  unfold itoaN
  rw [Lib.decDigits, dif_pos h]
  simp [UInt8.toNat_ofNat']
  omega
theorem itoaN_big {n : Nat} (h : ¬ n < 10) : itoaN n = itoaN (n / 10) ++ [48 + n % 10] := by
  unfold itoaN
  rw [Lib.decDigits, dif_neg h]
  simp [UInt8.toNat_ofNat']
  omega
theorem itoaN_digit : ∀ (n : Nat) (c : Nat), c ∈ itoaN n → 48 ≤ c ∧ c < 58
  | n, c, hc => by
    by_cases h : n < 10
    · rw [itoaN_small h] at hc
      simp at hc; omega
    · rw [itoaN_big h] at hc
      simp at hc
      rcases hc with hc | hc
      · exact itoaN_digit (n / 10) c hc
      · omega
  termination_by n => n
theorem itoaN_ne (n : Nat) : itoaN n ≠ [] := by
  by_cases h : n < 10
  · rw [itoaN_small h]; simp
  · rw [itoaN_big h]; simp
theorem itoaN_inj : ∀ (a b : Nat), itoaN a = itoaN b → a = b
  | a, b, h => by
    by_cases ha : a < 10
    · by_cases hb : b < 10
      · rw [itoaN_small ha, itoaN_small hb] at h
        simp at h; exact h
      · rw [itoaN_small ha, itoaN_big hb] at h
        have := congrArg List.length h
        have h0 : (itoaN (b / 10)).length ≠ 0 := fun e => itoaN_ne _ (List.eq_nil_of_length_eq_zero e)
        simp at this
        exact absurd (List.length_eq_zero_iff.2 this) h0
    · by_cases hb : b < 10
      · rw [itoaN_big ha, itoaN_small hb] at h
        have := congrArg List.length h
        have h0 : (itoaN (a / 10)).length ≠ 0 := fun e => itoaN_ne _ (List.eq_nil_of_length_eq_zero e)
        simp at this
        exact absurd (List.length_eq_zero_iff.2 this) h0
      · rw [itoaN_big ha, itoaN_big hb] at h
        obtain ⟨h1, h2⟩ := List.append_inj' h rfl
        have := itoaN_inj (a / 10) (b / 10) h1
        simp at h2
        omega
  termination_by a => a

/-- Words parted by a sign that none has. -/
theorem part_inj {d : Nat} : ∀ {a b x y : List Nat}, d ∉ a → d ∉ b → (x = [] ∨ ∃ z, x = d :: z) → (y = [] ∨ ∃ z, y = d :: z) → a ++ x = b ++ y → a = b ∧ x = y
  | [], [], x, y, _, _, _, _, h => ⟨rfl, by simpa using h⟩
  | [], b :: bs, x, y, _, hb, hx, _, h => by
    rcases hx with rfl | ⟨z, rfl⟩
    · simp at h
    · simp at h
      exact absurd (by simp [h.1]) hb
  | a :: aa, [], x, y, ha, _, _, hy, h => by
    rcases hy with rfl | ⟨z, rfl⟩
    · simp at h
    · simp at h
      exact absurd (by simp [h.1]) ha
  | a :: aa, b :: bs, x, y, ha, hb, hx, hy, h => by
    simp at h ha hb
    obtain ⟨h1, h2⟩ := part_inj ha.2 hb.2 hx hy h.2
    exact ⟨by rw [h.1, h1], h2⟩

theorem flat32 (cs : List Nat) : (cs.map fun c => 32 :: itoaN c).flatten = [] ∨ ∃ z, (cs.map fun c => 32 :: itoaN c).flatten = 32 :: z := by
  cases cs with
  | nil => exact .inl rfl
  | cons c r => exact .inr ⟨itoaN c ++ (r.map fun c => 32 :: itoaN c).flatten, by simp⟩

theorem flat32_inj : ∀ {cs ds : List Nat}, (cs.map fun c => 32 :: itoaN c).flatten = (ds.map fun c => 32 :: itoaN c).flatten → cs = ds
  | [], [], _ => rfl
  | [], d :: ds, h => by simp at h
  | c :: cs, [], h => by simp at h
  | c :: cs, d :: ds, h => by
    have no : ∀ n : Nat, 32 ∉ itoaN n := fun n hm => by have := itoaN_digit n 32 hm; omega
    simp only [List.map_cons, List.flatten_cons, List.cons_append, List.cons.injEq, true_and] at h
    obtain ⟨h1, h2⟩ := part_inj (no c) (no d) (flat32 cs) (flat32 ds) h
    rw [itoaN_inj c d h1, flat32_inj h2]

theorem flat58_inj : ∀ {cs ds : List (List Nat)}, (∀ s ∈ cs, 58 ∉ s) → (∀ s ∈ ds, 58 ∉ s) → (cs.map (· ++ [58])).flatten = (ds.map (· ++ [58])).flatten → cs = ds
  | [], [], _, _, _ => rfl
  | [], d :: ds, _, _, h => by simp at h
  | c :: cs, [], _, _, h => by simp at h
  | c :: cs, d :: ds, hc, hd, h => by
    simp only [List.map_cons, List.flatten_cons, List.append_assoc, List.cons_append, List.nil_append] at h
    obtain ⟨h1, h2⟩ := part_inj (hc c (by simp)) (hd d (by simp)) (.inr ⟨_, rfl⟩) (.inr ⟨_, rfl⟩) h
    simp at h2
    rw [h1, flat58_inj (fun s hs => hc s (by simp [hs])) (fun s hs => hd s (by simp [hs])) h2]

/-- What a sign can say. -/
structure SOk (h : Hd) : Prop where
  k : 0 ≤ h.kind ∧ h.kind < 10
  o : h.opn = true → h.kind = 9
  n : ∀ s ∈ h.names, tagB s = true

theorem tagB_char {s : List Nat} (h : tagB s = true) : ∀ c ∈ s, namC c = true := by
  cases s with
  | nil => simp
  | cons x r =>
    simp only [tagB, Bool.and_eq_true] at h
    intro c hc
    rcases List.mem_cons.1 hc with rfl | hc
    · simp [namC, h.1]
    · exact List.all_eq_true.1 h.2 c hc
theorem namC_no {c : Nat} (h : namC c = true) : c ≠ 58 ∧ c ≠ 32 := by
  constructor <;> rintro rfl <;> simp [namC, lowC, digC] at h

theorem SOk.no58 {h : Hd} (o : SOk h) : ∀ s ∈ h.names, 58 ∉ s := fun s hs hm => (namC_no (tagB_char (o.n s hs) 58 hm)).1 rfl

theorem signC_no {h : Hd} (o : SOk h) : 32 ∉ signC h := by
  unfold signC
  rw [List.mem_append, not_or]
  constructor
  · cases h.opn with
    | true => simp
    | false =>
      obtain ⟨kn, hkn⟩ : ∃ n : Nat, h.kind = n := ⟨h.kind.toNat, by have := o.k; omega⟩
      have hlt : kn < 10 := by have := o.k; omega
      rw [hkn]
      simp only [Int.toNat_natCast, Bool.false_eq_true, if_false]
      have : ∀ k, k < 10 → 32 ∉ [kindC.getD k 0] := by decide
      exact this kn hlt
  · intro hm
    simp only [List.mem_flatten, List.mem_map] at hm
    obtain ⟨l, ⟨s, hs, rfl⟩, hm⟩ := hm
    simp at hm
    exact (namC_no (tagB_char (o.n s hs) 32 hm)).2 rfl

theorem signC_inj {h k : Hd} (o : SOk h) (p : SOk k) (e : signC h = signC k) : h.kind = k.kind ∧ h.names = k.names ∧ h.opn = k.opn := by
  unfold signC at e
  obtain ⟨x, hx⟩ : ∃ x, (if h.opn then [93] else [kindC.getD h.kind.toNat 0]) = [x] := by cases h.opn <;> exact ⟨_, rfl⟩
  obtain ⟨y, hy⟩ : ∃ y, (if k.opn then [93] else [kindC.getD k.kind.toNat 0]) = [y] := by cases k.opn <;> exact ⟨_, rfl⟩
  rw [hx, hy] at e
  simp only [List.cons_append, List.nil_append, List.cons.injEq] at e
  obtain ⟨e1, e2⟩ := e
  have hn := flat58_inj o.no58 p.no58 e2
  obtain ⟨a, ha⟩ : ∃ n : Nat, h.kind = n := ⟨h.kind.toNat, by have := o.k; omega⟩
  obtain ⟨b, hb⟩ : ∃ n : Nat, k.kind = n := ⟨k.kind.toNat, by have := p.k; omega⟩
  have hla : a < 10 := by have := o.k; omega
  have hlb : b < 10 := by have := p.k; omega
  rw [ha] at hx
  rw [hb] at hy
  simp only [Int.toNat_natCast] at hx hy
  have t1 : ∀ a, a < 10 → kindC.getD a 0 ≠ 93 := by decide
  have t2 : ∀ a, a < 10 → ∀ b, b < 10 → kindC.getD a 0 = kindC.getD b 0 → a = b := by decide
  have oh := o.o
  have ok := p.o
  cases h1 : h.opn <;> cases h2 : k.opn <;> simp only [h1, h2, Bool.false_eq_true, if_false, if_true, List.cons.injEq, and_true] at hx hy
  · refine ⟨?_, hn, rfl⟩
    rw [ha, hb, t2 a hla b hlb (by omega)]
  · exact absurd (by omega) (t1 a hla)
  · exact absurd (by omega) (t1 b hlb)
  · exact ⟨by rw [oh h1, ok h2], hn, rfl⟩

theorem keyC_inj {h k : Hd} {cs ds : List Nat} (o : SOk h) (p : SOk k) (e : keyC h cs = keyC k ds) : h.kind = k.kind ∧ h.names = k.names ∧ h.opn = k.opn ∧ cs = ds := by
  obtain ⟨e1, e2⟩ := part_inj (signC_no o) (signC_no p) (flat32 cs) (flat32 ds) e
  obtain ⟨a, b, c⟩ := signC_inj o p e1
  exact ⟨a, b, c, flat32_inj e2⟩


theorem nodup_at {α : Type} : ∀ {l : List α} {i j : Nat} {x : α}, l.Nodup → l[i]? = some x → l[j]? = some x → i = j
  | [], i, j, x, _, h, _ => by simp at h
  | y :: l, 0, 0, x, _, _, _ => rfl
  | y :: l, 0, j + 1, x, hd, h1, h2 => by
    simp at h1 h2
    subst h1
    exact absurd (List.mem_of_getElem? h2) (List.nodup_cons.1 hd).1
  | y :: l, i + 1, 0, x, hd, h1, h2 => by
    simp at h1 h2
    subst h2
    exact absurd (List.mem_of_getElem? h1) (List.nodup_cons.1 hd).1
  | y :: l, i + 1, j + 1, x, hd, h1, h2 => by
    simp at h1 h2
    rw [nodup_at (List.nodup_cons.1 hd).2 h1 h2]

section
variable {κ : Type} [DecidableEq κ]
def posG (k : κ) : List κ → Nat → Option Nat
  | [], _ => none
  | q :: r, n => if k = q then some n else posG k r (n + 1)
theorem posG_ge {k : κ} : ∀ {ps : List κ} {n i : Nat}, posG k ps n = some i → n ≤ i ∧ ps[i - n]? = some k
  | [], n, i, h => by simp [posG] at h
  | q :: r, n, i, h => by
    unfold posG at h
    split at h
    · rename_i e
      obtain rfl := Option.some.inj h
      exact ⟨Nat.le_refl _, by simp [e]⟩
    · obtain ⟨h1, h2⟩ := posG_ge h
      refine ⟨by omega, ?_⟩
      rw [show i - n = i - (n + 1) + 1 by omega]
      simpa using h2
theorem posG_none {k : κ} : ∀ {ps : List κ} {n : Nat}, posG k ps n = none → k ∉ ps
  | [], n, h => by simp
  | q :: r, n, h => by
    unfold posG at h
    split at h
    · cases h
    · rename_i e
      have := posG_none h
      simp [e, this]
def idxG (k : κ) (ks : List κ) : Nat := (posG k ks 0).getD ks.length
def addG (k : κ) (ks : List κ) : List κ := if (posG k ks 0).isSome then ks else ks ++ [k]
def foldG : List κ → List κ → List κ
  | ks, [] => ks
  | ks, q :: qs => foldG (addG q ks) qs
def numG : List κ → List κ → List Nat
  | _, [] => []
  | ks, q :: qs => idxG q ks :: numG (addG q ks) qs
theorem foldG_snoc : ∀ (qs ps : List κ) (q : κ), foldG ps (qs ++ [q]) = addG q (foldG ps qs)
  | [], ps, q => rfl
  | x :: qs, ps, q => foldG_snoc qs (addG x ps) q
theorem numG_snoc : ∀ (qs ps : List κ) (q : κ), numG ps (qs ++ [q]) = numG ps qs ++ [idxG q (foldG ps qs)]
  | [], ps, q => rfl
  | x :: qs, ps, q => by simp only [List.cons_append, numG, foldG, numG_snoc qs (addG x ps) q]
theorem numG_length : ∀ (qs ps : List κ), (numG ps qs).length = qs.length
  | [], _ => rfl
  | x :: qs, ps => by simp [numG, numG_length qs]
theorem addG_pre (k : κ) (ks : List κ) : ks <+: addG k ks := by
  unfold addG; split
  · exact List.prefix_refl _
  · exact List.prefix_append _ _
theorem foldG_pre : ∀ (qs ps : List κ), ps <+: foldG ps qs
  | [], ps => List.prefix_refl _
  | q :: qs, ps => (addG_pre q ps).trans (foldG_pre qs _)
theorem addG_idx (k : κ) (ks : List κ) : (addG k ks)[idxG k ks]? = some k := by
  unfold addG idxG
  cases h : posG k ks 0 with
  | none => simp
  | some i =>
    have := (posG_ge h).2
    simpa using this
theorem addG_nodup {k : κ} {ks : List κ} (h : ks.Nodup) : (addG k ks).Nodup := by
  unfold addG
  cases hp : posG k ks 0 with
  | none =>
    have := posG_none hp
    simp only [Option.isSome_none, Bool.false_eq_true, if_false]
    rw [List.nodup_append]
    refine ⟨h, by simp, fun a ha b hb => ?_⟩
    simp at hb
    rintro rfl
    exact this (hb ▸ ha)
  | some i => simpa using h
theorem foldG_nodup : ∀ {qs ps : List κ}, ps.Nodup → (foldG ps qs).Nodup
  | [], _, h => h
  | _ :: qs, _, h => foldG_nodup (qs := qs) (addG_nodup h)
theorem pre_get {α : Type} {l l' : List α} (h : l <+: l') {i : Nat} {x : α} (hx : l[i]? = some x) : l'[i]? = some x := by
  obtain ⟨t, rfl⟩ := h
  rw [List.getElem?_append_left (List.getElem?_eq_some_iff.1 hx).1]; exact hx
theorem numG_get : ∀ {qs ps : List κ} {i : Nat} {k : κ}, qs[i]? = some k → ∃ m, (numG ps qs)[i]? = some m ∧ (foldG ps qs)[m]? = some k
  | [], _, i, _, h => by simp at h
  | q :: qs, ps, 0, k, h => by
    simp at h
    subst h
    exact ⟨idxG q ps, by simp [numG], pre_get (foldG_pre qs _) (addG_idx q ps)⟩
  | q :: qs, ps, i + 1, k, h => by
    obtain ⟨m, h1, h2⟩ := numG_get (qs := qs) (ps := addG q ps) (i := i) (by simpa using h)
    exact ⟨m, by simpa [numG] using h1, h2⟩
theorem addG_le (k : κ) (ks : List κ) : (addG k ks).length ≤ ks.length + 1 := by
  unfold addG; split <;> simp
theorem foldG_le : ∀ (qs ps : List κ), (foldG ps qs).length ≤ ps.length + qs.length
  | [], ps => by simp [foldG]
  | q :: qs, ps => by
    have h1 := foldG_le qs (addG q ps)
    have h2 := addG_le q ps
    simp only [foldG, List.length_cons]; omega
theorem foldG_mem : ∀ {qs ps : List κ} {k : κ}, k ∈ foldG ps qs → k ∈ ps ∨ k ∈ qs
  | [], _, _, h => .inl h
  | q :: qs, ps, k, h => by
    rcases foldG_mem (qs := qs) h with h | h
    · unfold addG at h
      split at h
      · exact .inl h
      · rcases List.mem_append.1 h with h | h
        · exact .inl h
        · simp at h; exact .inr (by simp [h])
    · exact .inr (by simp [h])
/-- Numbers are alike when the things are. -/
theorem numG_eq {qs : List κ} {i j : Nat} {k l : κ} {m n : Nat} (hi : qs[i]? = some k) (hj : qs[j]? = some l) (hm : (numG [] qs)[i]? = some m) (hn : (numG [] qs)[j]? = some n) : m = n ↔ k = l := by
  obtain ⟨m', h1, h2⟩ := numG_get (ps := []) hi
  obtain ⟨n', h3, h4⟩ := numG_get (ps := []) hj
  rw [hm] at h1
  rw [hn] at h3
  obtain rfl := Option.some.inj h1
  obtain rfl := Option.some.inj h3
  constructor
  · rintro rfl
    exact Option.some.inj (h2.symm.trans h4)
  · rintro rfl
    have hd := foldG_nodup (ps := ([] : List κ)) (qs := qs) List.nodup_nil
    exact nodup_at hd h2 h4
theorem numG_lt {qs : List κ} {m : Nat} (h : m ∈ numG [] qs) : m < (foldG [] qs).length := by
  obtain ⟨i, hi⟩ := List.mem_iff_getElem?.1 h
  have hil := (List.getElem?_eq_some_iff.1 hi).1
  rw [numG_length] at hil
  obtain ⟨m', h1, h2⟩ := numG_get (ps := []) (List.getElem?_eq_getElem hil)
  rw [hi] at h1
  obtain rfl := Option.some.inj h1
  exact (List.getElem?_eq_some_iff.1 h2).1
theorem numG_hit {qs : List κ} {m : Nat} (h : m < (foldG [] qs).length) : m ∈ numG [] qs := by
  have hm : (foldG [] qs)[m] ∈ foldG [] qs := List.getElem_mem h
  rcases foldG_mem hm with hm | hm
  · simp at hm
  · obtain ⟨i, hi⟩ := List.mem_iff_getElem?.1 hm
    obtain ⟨m', h1, h2⟩ := numG_get (ps := []) hi
    have hd := foldG_nodup (ps := ([] : List κ)) (qs := qs) List.nodup_nil
    have : m' = m := nodup_at hd h2 (List.getElem?_eq_getElem h)
    rw [← this]
    exact List.mem_of_getElem? h1
end

/-! ### How many there can be -/
theorem nodup_le : ∀ {m : Nat} {l : List Nat}, l.Nodup → (∀ x ∈ l, x < m) → l.length ≤ m
  | 0, l, _, h => by
    cases l with
    | nil => simp
    | cons x r => have := h x (by simp); omega
  | m + 1, l, hd, h => by
    have h1 := nodup_le (m := m) (l := l.filter fun x => !(x == m)) (hd.filter _) fun x hx => by
      simp only [List.mem_filter, Bool.not_eq_true', beq_eq_false_iff_ne] at hx
      have := h x hx.1; omega
    have h2 : l.length ≤ (l.filter fun x => !(x == m)).length + 1 := by
      clear h h1
      induction l with
      | nil => simp
      | cons y r ih =>
        rw [List.nodup_cons] at hd
        by_cases hy : y = m
        · subst hy
          have hf : (r.filter fun x => !(x == y)) = r := by
            rw [List.filter_eq_self]
            intro a ha
            simp only [Bool.not_eq_true', beq_eq_false_iff_ne]
            rintro rfl
            exact hd.1 ha
          simp [List.filter_cons, hf]
        · have := ih hd.2
          simp only [List.filter_cons, beq_iff_eq, hy, List.length_cons]
          have hb : (y == m) = false := by simp [hy]
          simp only [hb, Bool.not_false, if_true, List.length_cons]
          omega
    omega

/-! ### Classes -/
def kidsC (cls : List Nat) (h : Hd) : List Nat := h.kids.map fun k => cls.getD k.toNat 0
def keyAt (L : List Hd) (cls : List Nat) (i : Nat) : List Nat := keyC (L.getD i hd0') (cls.getD i 0 :: kidsC cls (L.getD i hd0'))
  where hd0' : Hd := ⟨0, [], [], false⟩
def keysC (L : List Hd) (cls : List Nat) : List (List Nat) := (List.range L.length).map (keyAt L cls)
def nextC (L : List Hd) (cls : List Nat) : List Nat := numG [] (keysC L cls)
def cntC (L : List Hd) (cls : List Nat) : Nat := (foldG [] (keysC L cls)).length

structure Surj (cls : List Nat) (cnt : Nat) : Prop where
  lt : ∀ c ∈ cls, c < cnt
  hit : ∀ c, c < cnt → c ∈ cls

structure Stable (L : List Hd) (cls : List Nat) : Prop where
  len : cls.length = L.length
  st : ∀ (i j : Nat) h k c, L[i]? = some h → L[j]? = some k → cls[i]? = some c → cls[j]? = some c → h.kind = k.kind ∧ h.names = k.names ∧ h.opn = k.opn ∧ kidsC cls h = kidsC cls k

theorem nextC_len (L : List Hd) (cls : List Nat) : (nextC L cls).length = L.length := by simp [nextC, numG_length, keysC]
theorem nextC_surj (L : List Hd) (cls : List Nat) : Surj (nextC L cls) (cntC L cls) := ⟨fun _ h => numG_lt h, fun _ h => numG_hit h⟩
theorem cntC_le (L : List Hd) (cls : List Nat) : cntC L cls ≤ L.length := by
  have := foldG_le (keysC L cls) []
  simpa [cntC, keysC] using this
theorem keysC_get {L : List Hd} {cls : List Nat} {i : Nat} {h : Hd} {c : Nat} (hi : L[i]? = some h) (hc : cls[i]? = some c) : (keysC L cls)[i]? = some (keyC h (c :: kidsC cls h)) := by
  have hil := (List.getElem?_eq_some_iff.1 hi).1
  unfold keysC
  rw [List.getElem?_map, List.getElem?_range hil]
  simp only [Option.map_some, keyAt, List.getD_eq_getElem?_getD, hi, hc, Option.getD_some]

/-- The next numbers part no less. -/
theorem nextC_fine {L : List Hd} {cls : List Nat} (o : ∀ h ∈ L, SOk h) (hl : cls.length = L.length) {i j m : Nat} {c d : Nat} (hi : (nextC L cls)[i]? = some m) (hj : (nextC L cls)[j]? = some m) (hc : cls[i]? = some c) (hd : cls[j]? = some d) :
    c = d ∧ ∀ h k, L[i]? = some h → L[j]? = some k → h.kind = k.kind ∧ h.names = k.names ∧ h.opn = k.opn ∧ kidsC cls h = kidsC cls k := by
  have hil := (List.getElem?_eq_some_iff.1 hi).1
  have hjl := (List.getElem?_eq_some_iff.1 hj).1
  rw [nextC_len] at hil hjl
  obtain ⟨h, hh⟩ : ∃ y, L[i]? = some y := ⟨_, List.getElem?_eq_getElem hil⟩
  obtain ⟨k, hk⟩ : ∃ y, L[j]? = some y := ⟨_, List.getElem?_eq_getElem hjl⟩
  have e := (numG_eq (keysC_get hh hc) (keysC_get hk hd) hi hj).1 rfl
  obtain ⟨e1, e2, e3, e4⟩ := keyC_inj (o h (List.mem_of_getElem? hh)) (o k (List.mem_of_getElem? hk)) e
  simp only [List.cons.injEq] at e4
  refine ⟨e4.1, fun h' k' g1 g2 => ?_⟩
  rw [hh] at g1
  rw [hk] at g2
  obtain rfl := Option.some.inj g1
  obtain rfl := Option.some.inj g2
  exact ⟨e1, e2, e3, e4.2⟩

/-- Of each old number a new one that lies in it. -/
theorem repC {L : List Hd} {cls : List Nat} {cnt : Nat} (hl : cls.length = L.length) (s : Surj cls cnt) (c : Nat) (hc : c < cnt) : ∃ (i m : Nat), cls[i]? = some c ∧ (nextC L cls)[i]? = some m := by
  obtain ⟨i, hi⟩ := List.mem_iff_getElem?.1 (s.hit c hc)
  have hil := (List.getElem?_eq_some_iff.1 hi).1
  exact ⟨i, _, hi, List.getElem?_eq_getElem (by rw [nextC_len]; omega)⟩

noncomputable def repN (L : List Hd) (cls : List Nat) (c : Nat) : Nat := open Classical in if h : ∃ m, ∃ i : Nat, cls[i]? = some c ∧ (nextC L cls)[i]? = some m then Classical.choose h else 0
theorem repN_spec {L : List Hd} {cls : List Nat} {cnt : Nat} (hl : cls.length = L.length) (s : Surj cls cnt) {c : Nat} (hc : c < cnt) : ∃ i : Nat, cls[i]? = some c ∧ (nextC L cls)[i]? = some (repN L cls c) := by
  obtain ⟨i, m, h1, h2⟩ := repC hl s c hc
  have h : ∃ m, ∃ i : Nat, cls[i]? = some c ∧ (nextC L cls)[i]? = some m := ⟨m, i, h1, h2⟩
  unfold repN
  rw [dif_pos h]
  exact Classical.choose_spec h

theorem rep_nodup {L : List Hd} {cls : List Nat} {cnt : Nat} (o : ∀ h ∈ L, SOk h) (hl : cls.length = L.length) (s : Surj cls cnt) : ((List.range cnt).map (repN L cls)).Nodup := by
  have h0 : ∀ n, n ≤ cnt → ((List.range n).map (repN L cls)).Nodup := by
    intro n
    induction n with
    | zero => simp
    | succ n ih =>
      intro hn
      rw [List.range_succ, List.map_append, List.nodup_append]
      refine ⟨ih (by omega), by simp, ?_⟩
      intro a ha b hb
      simp only [List.mem_map, List.mem_range] at ha
      simp only [List.map_cons, List.map_nil, List.mem_singleton] at hb
      obtain ⟨x, hx, rfl⟩ := ha
      subst hb
      intro e
      obtain ⟨i, i1, i2⟩ := repN_spec hl s (c := x) (by omega)
      obtain ⟨j, j1, j2⟩ := repN_spec hl s (c := n) (by omega)
      rw [e] at i2
      have := (nextC_fine o hl i2 j2 i1 j1).1
      omega
  exact h0 cnt (Nat.le_refl _)

theorem cnt_le {L : List Hd} {cls : List Nat} {cnt : Nat} (o : ∀ h ∈ L, SOk h) (hl : cls.length = L.length) (s : Surj cls cnt) : cnt ≤ cntC L cls := by
  have := nodup_le (m := cntC L cls) (rep_nodup o hl s) fun x hx => by
    simp only [List.mem_map, List.mem_range] at hx
    obtain ⟨c, hc, rfl⟩ := hx
    obtain ⟨i, i1, i2⟩ := repN_spec hl s hc
    exact (nextC_surj L cls).lt _ (List.mem_of_getElem? i2)
  simpa using this

theorem stable_of {L : List Hd} {cls : List Nat} {cnt : Nat} (o : ∀ h ∈ L, SOk h) (hk : ∀ h ∈ L, ∀ k ∈ h.kids, 0 ≤ k ∧ k < (L.length : Int)) (hl : cls.length = L.length) (s : Surj cls cnt) (e : cntC L cls = cnt) : Stable L (nextC L cls) := by
  -- each new number is that of its old one
  have det : ∀ (i c m : Nat), cls[i]? = some c → (nextC L cls)[i]? = some m → m = repN L cls c := by
    intro i c m h1 h2
    apply Classical.byContradiction
    intro hne
    have hcl := s.lt c (List.mem_of_getElem? h1)
    have hm := (nextC_surj L cls).lt m (List.mem_of_getElem? h2)
    have hnot : m ∉ (List.range cnt).map (repN L cls) := by
      intro hmem
      simp only [List.mem_map, List.mem_range] at hmem
      obtain ⟨x, hx, rfl⟩ := hmem
      obtain ⟨j, j1, j2⟩ := repN_spec hl s hx
      have := (nextC_fine o hl h2 j2 h1 j1).1
      subst this
      exact hne rfl
    have := nodup_le (m := cnt) (l := m :: (List.range cnt).map (repN L cls)) (List.nodup_cons.2 ⟨hnot, rep_nodup o hl s⟩) fun x hx => by
      rcases List.mem_cons.1 hx with rfl | hx
      · omega
      · simp only [List.mem_map, List.mem_range] at hx
        obtain ⟨c, hc, rfl⟩ := hx
        obtain ⟨i, i1, i2⟩ := repN_spec hl s hc
        have := (nextC_surj L cls).lt _ (List.mem_of_getElem? i2)
        omega
    simp at this
    omega
  have kid : ∀ h ∈ L, kidsC (nextC L cls) h = (kidsC cls h).map (repN L cls) := by
    intro h hh
    unfold kidsC
    rw [List.map_map]
    refine List.map_congr_left fun k hkm => ?_
    have hr := hk h hh k hkm
    have hlt : k.toNat < L.length := by omega
    obtain ⟨c, hc⟩ : ∃ y, cls[k.toNat]? = some y := ⟨_, List.getElem?_eq_getElem (by omega)⟩
    obtain ⟨m, hm⟩ : ∃ y, (nextC L cls)[k.toNat]? = some y := ⟨_, List.getElem?_eq_getElem (by rw [nextC_len]; exact hlt)⟩
    have := det _ c m hc hm
    simp only [Function.comp, List.getD_eq_getElem?_getD, hc, hm, Option.getD_some, this]
  refine ⟨nextC_len L cls, fun i j h k c hi hj ci cj => ?_⟩
  have hil := (List.getElem?_eq_some_iff.1 hi).1
  have hjl := (List.getElem?_eq_some_iff.1 hj).1
  obtain ⟨e1, e2, e3, e4⟩ := (nextC_fine o hl ci cj (List.getElem?_eq_getElem (by omega)) (List.getElem?_eq_getElem (by omega))).2 h k hi hj
  exact ⟨e1, e2, e3, by rw [kid h (List.mem_of_getElem? hi), kid k (List.mem_of_getElem? hj), e4]⟩


theorem Sl.news {H : Heap} {v : AVal} {l : List AVal} (h : Sl H 1 false v l) : aNews H v 1 = some (l, l.length) := by
  have hin := h.ins
  have hlen := h.len
  cases v <;> simp only [slin] at hin
  · simp at hlen
    have : l = [] := by cases l with
      | nil => rfl
      | cons => simp at hlen
    subst this; rfl
  · rename_i i o n k e
    obtain ⟨hi, rfl⟩ := hin
    simp at hlen
    subst hlen
    simp only [aNews, if_true]
    by_cases h0 : l.length = 0
    · have : l = [] := List.eq_nil_of_length_eq_zero h0
      subst this; rfl
    · rw [if_neg h0]
      have hl := h.at' (l.length - 1) _ (List.getElem?_eq_getElem (by omega))
      have hl0 : ∀ j x, l[j]? = some x → aLoad H (.p i (o + j)) 1 false = some x := fun j x hx => by
        have := h.at' j x hx
        simpa using this
      simp only [sptr_sl, Nat.mul_one] at hl
      unfold aLoad at hl
      simp only at hl
      cases hg : H.get i with
      | none => rw [hg] at hl; simp at hl
      | some ob =>
        cases ob with
        | row cs own =>
          have hb : o + l.length ≤ cs.length := by
            rw [hg] at hl
            simp only [Bool.false_eq_true, if_false] at hl
            have := (List.getElem?_eq_some_iff.1 hl).1
            omega
          simp only [Nat.mul_one]
          rw [if_pos hb]
          congr 2
          apply List.ext_getElem?
          intro j
          rw [List.getElem?_take]
          by_cases hj : j < l.length
          · rw [if_pos hj, List.getElem?_drop]
            have := hl0 j _ (List.getElem?_eq_getElem hj)
            rw [load_row hg] at this
            rw [this, List.getElem?_eq_getElem hj]
          · rw [if_neg hj, List.getElem?_eq_none (by omega)]
        | map es => rw [hg] at hl; simp at hl
        | dead => rw [hg] at hl; simp at hl

/-- Append all to nothing. -/
theorem app_zero {H : Heap} {bytes X : Nat} {x : AVal} {l : List AVal} {own : Bool} (hX : H.get X = some (.row [] own)) (hXn : X < H.nx) (hx : aNews H x 1 = some (l, l.length)) (hb : l.length * bytes ≤ 1099511627776) (hn : l.length ≤ 1099511627776) :
    ∃ v' H', aApp H 1 bytes (.sl X 0 0 (some 0) 1) x = some (v', H') ∧ Buf H' 1 v' l.length l ∧ H.nx ≤ H'.nx ∧ (∀ i, i < H.nx → H'.get i = H.get i) ∧ (∀ i, sid v' = some i → X ≤ i) := by
  by_cases h0 : l.length = 0
  · have : l = [] := List.eq_nil_of_length_eq_zero h0
    subst this
    refine ⟨.sl X 0 0 (some 0) 1, H, ?_, Buf.zero hXn hX, Nat.le_refl _, fun _ _ => rfl, fun i hi => by simp [sid] at hi; omega⟩
    simp [aApp, hx]
  · refine ⟨.sl H.nx 0 l.length none 1, H.push (.row l true), ?_, ⟨by simp, .inr (.inr ⟨H.nx, rfl, by simp, by omega, by simp⟩)⟩, by simp, fun i hi => get_push_old hi, fun i hi => by simp [sid] at hi; omega⟩
    simp only [aApp, hx, hX]
    simp [h0, hb, hn]

theorem call69 {H : Heap} {v : AVal} {l : List (List Nat)} (hl : Strs H v l) (hm : l.length < 1000000) :
    Call 69 [v] H fun v' H' => Ex H H' ∧ Buf H' 1 v' l.length (l.map .s) ∧ (∀ i, sid v' = some i → H.nx ≤ i) := by
  refine Call.by (a := a69) rfl (by simp [a69]) ?_
  have hin := hl.ins
  have hlen := hl.len'
  cases v <;> simp only [slin] at hin
  · simp at hlen
    have : l = [] := List.eq_nil_of_length_eq_zero (by omega)
    subst this
    simp [r69_0, r69_1, r69_2, r69_3, c69, a69, aEq]
    exact ⟨Ex.refl _, Buf.nil _ _, by simp [sid]⟩
  · rename_i i o n k e
    simp [r69_0, r69_1, r69_2, r69_3, c69, a69, aEq]
    have hl1 := hl.ex ((Ex.refl H).push (.row [] true))
    have hnw := hl1.news
    obtain ⟨v', H', e1, e2, e3, e4, e5⟩ := app_zero (bytes := 16) (get_push_nx H (.row [] true)) (by simp) hnw (by simp; omega) (by simp; omega)
    simp only [List.length_map] at e2
    simp [e1]
    refine ⟨⟨by simp at e3; omega, fun j hj o ho => ?_⟩, e2, e5⟩
    rw [e4 j (by simp; omega), get_push_old hj]; exact ho

/-- Only one object is turned. -/
structure Only (q : Nat) (H H' : Heap) : Prop where
  nx : H'.nx = H.nx
  old : ∀ i, i ≠ q → H'.get i = H.get i

theorem Only.refl (q : Nat) (H : Heap) : Only q H H := ⟨rfl, fun _ _ => rfl⟩
theorem Only.put {q : Nat} {H H' : Heap} (h : Only q H H') (o : AObj) : Only q H (H'.put q o) := ⟨h.nx, fun i hi => by rw [Heap.get_put, if_neg hi]; exact h.old i hi⟩

theorem ixF_spec {α : Type} (p : α → Bool) : ∀ (l : List α) (n : Nat), (ixF p l n = -1 ∧ ∀ x ∈ l, p x = false) ∨ ∃ j, j < l.length ∧ ixF p l n = ((n + j : Nat) : Int) ∧ (∀ x ∈ l.take j, p x = false) ∧ ∃ x, l[j]? = some x ∧ p x = true
  | [], n => .inl ⟨rfl, by simp⟩
  | x :: r, n => by
    cases h : p x with
    | true => exact .inr ⟨0, by simp, by simp [ixF, h], by simp, x, rfl, h⟩
    | false =>
      rcases ixF_spec p r (n + 1) with ⟨h1, h2⟩ | ⟨j, h1, h2, h3, h4⟩
      · exact .inl ⟨by simp [ixF, h, h1], fun y hy => by rcases List.mem_cons.1 hy with rfl | hy; exact h; exact h2 y hy⟩
      · refine .inr ⟨j + 1, by simp; omega, by simp [ixF, h, h2]; omega, fun y hy => ?_, by simpa using h4⟩
        simp at hy
        rcases hy with rfl | hy
        · exact h
        · exact h3 y hy

/-- The row while some are struck out: i are kept, j are seen. -/
structure Del (l : List (List Nat)) (p : List Nat → Bool) (cs : List AVal) (i j : Nat) : Prop where
  len : cs.length = l.length
  lt : i < j ∧ j ≤ l.length
  pre : cs.take i = ((l.take j).filter fun x => !p x).map .s
  il : i = ((l.take j).filter fun x => !p x).length
  post : cs.drop j = (l.drop j).map .s

theorem take_set {α : Type} {cs : List α} {i : Nat} {x : α} (h : i < cs.length) : (cs.set i x).take (i + 1) = cs.take i ++ [x] := by
  rw [List.take_add_one, List.take_set_of_le (Nat.le_refl _)]
  simp [h]

theorem Del.keep {l : List (List Nat)} {p : List Nat → Bool} {cs : List AVal} {i j : Nat} {x : List Nat} (d : Del l p cs i j) (hx : l[j]? = some x) (hp : p x = false) : Del l p (cs.set i (.s x)) (i + 1) (j + 1) := by
  have hj := (List.getElem?_eq_some_iff.1 hx).1
  have h1 := d.lt
  have h2 := d.len
  have ht : l.take (j + 1) = l.take j ++ [x] := by rw [List.take_add_one, hx]; rfl
  refine ⟨by simp [h2], ⟨by omega, by omega⟩, ?_, ?_, ?_⟩
  · rw [take_set (by omega), d.pre, ht]
    simp [hp]
  · rw [ht, List.filter_append, List.length_append, ← d.il]
    simp [hp]
  · rw [List.drop_set_of_lt (by omega)]
    have := congrArg (List.drop 1) d.post
    simpa [Nat.add_comm] using this

theorem Del.pass {l : List (List Nat)} {p : List Nat → Bool} {cs : List AVal} {i j : Nat} {x : List Nat} (d : Del l p cs i j) (hx : l[j]? = some x) (hp : p x = true) : Del l p cs i (j + 1) := by
  have hj := (List.getElem?_eq_some_iff.1 hx).1
  have h1 := d.lt
  have ht : l.take (j + 1) = l.take j ++ [x] := by rw [List.take_add_one, hx]; rfl
  refine ⟨d.len, ⟨by omega, by omega⟩, ?_, ?_, ?_⟩
  · rw [d.pre, ht]; simp [hp]
  · rw [ht, List.filter_append, List.length_append, ← d.il]; simp [hp]
  · have := congrArg (List.drop 1) d.post
    simpa [Nat.add_comm] using this

theorem Del.at' {l : List (List Nat)} {p : List Nat → Bool} {cs : List AVal} {i j : Nat} {x : List Nat} (d : Del l p cs i j) (hx : l[j]? = some x) : cs[j]? = some (.s x) := by
  have := congrArg (fun q => q[0]?) d.post
  simpa [hx] using this

theorem call76 {H : Heap} {v : AVal} {l : List (List Nat)} {f : FuncId} {caps : List AVal} {p : List Nat → Bool} (hl : Buf H 1 v l.length (l.map .s)) (hm : l.length < 1000000)
    (hp : ∀ q, sid v = some q → ∀ H', Only q H H' → ∀ x ∈ l, Call f ([.s x] ++ caps) H' fun v H'' => H'' = H' ∧ v = .b (p x)) :
    Call 76 [v, .f f caps] H fun v' H' => Strs H' v' (l.filter fun x => !p x) ∧ H'.nx = H.nx ∧ (∀ i, sid v ≠ some i → H'.get i = H.get i) ∧ sid v' = sid v := by
  refine Call.by (a := a76) rfl (by simp [a76]) ?_
  simp [a76, c76, r76_0, r76_1]
  have hs : Strs H v l := hl.sl1
  have hp0 : ∀ x ∈ l, Call f ([.s x] ++ caps) H fun v H'' => H'' = H ∧ v = .b (p x) := by
    intro x hx
    obtain ⟨q, hv, _⟩ := hl.own (by cases l with
      | nil => simp at hx
      | cons => simp)
    exact hp q (by rw [hv]; rfl) H (Only.refl q H) x hx
  refine Call.is (call108 hs (by omega) hp0) ?_
  rcases ixF_spec p l 0 with ⟨h1, h2⟩ | ⟨i0, hi0, h1, h2, x0, hx0, hpx⟩
  · simp [kC, r76_2, r76_3, h1]
    have : l.filter (fun x => !p x) = l := by
      rw [List.filter_eq_self]
      intro x hx
      simp [h2 x hx]
    rw [this]
    exact hs
  · rw [Nat.zero_add] at h1
    obtain ⟨q, rfl, hq, hg⟩ := hl.own (by omega)
    have hne : ((i0 : Int) == -1) = false := by rw [beq_eq_false_iff_ne]; omega
    have hadd := b_add (a := (i0 : Int)) (b := 1) ⟨by omega, by omega⟩
    simp [kC, r76_2, r76_4, h1, hne, hadd]
    refine Loop.by (fun k T H' => T.get 0 = some (.sl q 0 l.length none 1) ∧ T.get 1 = some (.f f caps) ∧ Only q H H' ∧ ∃ i j cs, j + k = l.length ∧ T.get 5 = some (.i .i64 ((i : Nat) : Int)) ∧ T.get 6 = some (.i .i64 ((j : Nat) : Int)) ∧ H'.get q = some (.row cs true) ∧ Del l p cs i j) (l.length - (i0 + 1)) ?_ ?_
    · refine ⟨by simp, by simp, Only.refl q H, i0, i0 + 1, l.map .s, by omega, by simp, by simp, hg, by simp, ⟨by omega, by omega⟩, ?_, ?_, by simp⟩
      · have ht : l.take (i0 + 1) = l.take i0 ++ [x0] := by rw [List.take_add_one, hx0]; rfl
        rw [ht, List.filter_append, ← List.map_take]
        have : (l.take i0).filter (fun x => !p x) = l.take i0 := by
          rw [List.filter_eq_self]
          intro x hx
          simp [h2 x hx]
        rw [this]; simp [hpx]
      · have ht : l.take (i0 + 1) = l.take i0 ++ [x0] := by rw [List.take_add_one, hx0]; rfl
        rw [ht, List.filter_append]
        have : (l.take i0).filter (fun x => !p x) = l.take i0 := by
          rw [List.filter_eq_self]
          intro x hx
          simp [h2 x hx]
        rw [this]; simp [hpx, show min i0 l.length = i0 by omega]
    · rintro k T H' ⟨g0, g1, ho, i, j, cs, hjk, g5, g6, hgq, d⟩
      by_cases hj : j < l.length
      · obtain ⟨x, hx⟩ : ∃ y, l[j]? = some y := ⟨_, List.getElem?_eq_getElem hj⟩
        have hlt : (j : Int) < (l.length : Int) := by omega
        have i1 : sidx 1 (.sl q 0 l.length none 1) (.i .i64 (j : Int)) = some (.p q j) := by rw [sidx_at (n := l.length) rfl hj]; simp
        have ld : aLoad H' (.p q j) 1 false = some (.s x) := by rw [load_row hgq, d.at' hx]
        simp [l76_0, r76_5, r76_6, g0, g6, hlt, i1, ld]
        simp [r76_7, g1]
        refine Call.is (hp q rfl H' ho x (List.mem_of_getElem? hx)) ?_
        cases hpx' : p x with
        | true =>
          simp [kC, r76_10, g6, g0, g1, g5, b_inc (show j < 4611686018427387904 by omega)]
          exact ⟨k - 1, by omega, ho, i, j + 1, by omega, by simp, by simp, cs, hgq, d.pass hx hpx'⟩
        | false =>
          have hil : i < l.length := by have := d.lt; omega
          have i2 : sidx 1 (.sl q 0 l.length none 1) (.i .i64 (i : Int)) = some (.p q i) := by rw [sidx_at (n := l.length) rfl hil]; simp
          have st : aStore H' (.p q i) (.s x) 1 = some (H'.put q (.row (cs.set i (.s x)) true)) := by
            have := d.len
            simp only [aStore, cells_s, hgq]
            rw [if_pos ⟨rfl, by omega⟩]
            congr 3
            rw [List.set_eq_take_append_cons_drop, if_pos (by omega)]
            simp [splice]
          simp [kC, r76_8, r76_9, r76_10, g0, g1, g5, g6, i2, st, b_inc (show j < 4611686018427387904 by omega), b_inc (show i < 4611686018427387904 by omega)]
          exact ⟨k - 1, by omega, ho.put _, i + 1, j + 1, by omega, by simp, by simp, _, by rw [Heap.get_put, if_pos rfl], d.keep hx hpx'⟩
      · have hlt : ¬ (j : Int) < (l.length : Int) := by omega
        have hjl : j = l.length := by have := d.lt; omega
        have hil := d.lt
        have s1 := slc_lo (es := 1) (q := q) (o := 0) (n := l.length) (i := i) (k := .i64) (by omega)
        have s2 := slc_hi (es := 1) (q := q) (o := 0) (n := l.length) (i := i) (k := .i64) (by omega)
        rw [Nat.zero_add, Nat.mul_one] at s1
        have cl : aClr H' 1 [.s []] (.sl q i (l.length - i) none 1) = some (H'.put q (.row (splice cs i ((List.range (l.length - i)).map fun j => [AVal.s []].getD (j % 1) .ni)) true)) := by
          have := d.len
          simp only [aClr, hgq]
          rw [if_neg (by omega)]
          simp
          omega
        have hpre : (splice cs i ((List.range (l.length - i)).map fun j => [AVal.s []].getD (j % 1) .ni)).take i = (l.filter fun x => !p x).map .s := by
          have := d.len
          unfold splice
          rw [List.append_assoc, List.take_append_of_le_length (by simp; omega), List.take_take, Nat.min_self, d.pre, List.take_of_length_le (by omega)]
        have hln : i = (l.filter fun x => !p x).length := by rw [d.il, List.take_of_length_le (by omega)]
        have hsp : (splice cs i ((List.range (l.length - i)).map fun j => [AVal.s []].getD (j % 1) .ni)).length = l.length := by
          have := d.len
          rw [splice_length _ _ _ (by simp; omega)]; exact this
        simp [l76_0, r76_5, g0, g6, hlt, r76_11, g5, s1, cl, r76_12, s2]
        refine ⟨?_, ho.nx, fun a ha => ?_, rfl⟩
        · have := Sl.row (H := H'.put q (.row (splice cs i ((List.range (l.length - i)).map fun j => [AVal.s []].getD (j % 1) .ni)) true)) (i := q) (o := 0) (n := i) (k := none) (by rw [Heap.get_put, if_pos rfl]) (by rw [nx_put', ho.nx]; exact hq) (by rw [hsp]; omega)
          rw [List.drop_zero, hpre] at this
          simpa using this
        · rw [Heap.get_put, if_neg (fun e => ha (by rw [e]; rfl))]
          exact ho.old a (fun e => ha (by rw [e]; rfl))

theorem call77 {H : Heap} {q : Nat} {own : Bool} {vb : AVal} {b : List (List Nat)} {x : List Nat} (hq : H.get q = some (.row [vb] own)) (hb : Strs H vb b) (hm : b.length < 1000000) :
    Call 77 [.s x, .p q 0] H fun v H' => H' = H ∧ v = .b (!b.any fun y => x == y) := by
  refine Call.by (a := a77) rfl (by simp [a77]) ?_
  simp [r77_0, r77_1, c77, a77, load_row hq]
  refine Call.is (call78 hb (by omega)) ?_
  simp [kC]

def bothN (a b : List (List Nat)) : List (List Nat) := a.filter fun x => b.any fun y => x == y

theorem Sl.only {H H' : Heap} {q : Nat} (h : Only q H H') {es : Nat} {agg : Bool} {v : AVal} {l : List AVal} (hs : Sl H es agg v l) (hi : K.sid v ≠ some q) : Sl H' es agg v l := by
  refine ⟨hs.len, by rw [h.nx]; exact hs.ins, fun j x hx => ?_⟩
  have h1 := hs.at' j x hx
  have h2 := hs.ins
  have hlen := hs.len
  cases v <;> simp only [slin] at h2
  · simp at hlen
    have := (List.getElem?_eq_some_iff.1 hx).1
    omega
  · rename_i i o n k e
    have hne : i ≠ q := by simpa [K.sid] using hi
    have hl : aLoad H' (.p i (o + j * es)) es agg = aLoad H (.p i (o + j * es)) es agg := by simp only [aLoad, h.old _ hne]
    rw [sptr_sl, hl]
    exact h1

theorem call47 {A : Heap} {va vb : AVal} {a b : List (List Nat)} (ha : Strs A va a) (hb : Strs A vb b) (hma : a.length < 1000000) (hmb : b.length < 1000000) :
    Call 47 [va, vb] A fun v H' => Ex A H' ∧ Strs H' v (bothN a b) ∧ ∀ i, sid v = some i → A.nx ≤ i := by
  refine Call.by (a := a47) rfl (by simp [a47]) ?_
  have hbc := hb.cells
  simp [r47_0, r47_1, c47, a47, hbc]
  have e0 : Ex A (A.push (.row [vb] true)) := (Ex.refl A).push _
  refine Call.mono (call69 (ha.ex e0) hma) ?_
  rintro w H1 _ ⟨e1, b1, s1⟩
  have gq : H1.get A.nx = some (.row [vb] true) := e1.get _ (by simp) _ (get_push_nx _ _)
  have hb1 := (hb.ex e0).ex e1
  simp [kC]
  refine Call.mono (call76 (f := 77) (caps := [.p A.nx 0]) (p := fun x => !b.any fun y => x == y) b1 hma fun q hq H' ho x hx => ?_) ?_
  · have hqn := s1 q hq
    simp at hqn
    refine call77 (own := true) (vb := vb) ?_ (hb1.only ho ?_) hmb
    · rw [ho.old _ (by omega)]; exact gq
    · have := (hb.sid (q := q) (by omega)); exact this
  · rintro v H2 _ ⟨r1, r2, r3, r4⟩
    simp [kC]
    refine ⟨⟨by have := e0.nx; have := e1.nx; omega, fun i hi o ho => ?_⟩, ?_, fun i hi => by have := s1 i (r4 ▸ hi); simp at this; omega⟩
    · rw [r3 i fun hs => by have := s1 i hs; simp at this; omega]
      exact e1.get i (by simp; omega) o (e0.get i hi o ho)
    · have : (fun x => !(fun x => !b.any fun y => x == y) x) = fun x : List Nat => b.any fun y => x == y := by
        funext x; simp
      rw [this] at r1
      exact r1


/-- Equal neighbours once. -/
def compN : List (List Nat) → List (List Nat)
  | [] => []
  | [x] => [x]
  | x :: y :: r => if x == y then compN (y :: r) else x :: compN (y :: r)

theorem compN_snoc : ∀ (xs : List (List Nat)) (a b : List Nat), compN (xs ++ [a, b]) = if a == b then compN (xs ++ [a]) else compN (xs ++ [a]) ++ [b]
  | [], a, b => by
    simp only [List.nil_append, compN]
    by_cases h : (a == b) = true
    · have : a = b := by simpa using h
      subst this
      simp
    · simp [h]
  | [x], a, b => by
    have ih := compN_snoc [] a b
    simp only [List.nil_append] at ih
    simp only [List.cons_append, List.nil_append, compN] at ih ⊢
    by_cases h : (a == b) = true <;> by_cases h2 : (x == a) = true <;> simp_all
  | x :: y :: r, a, b => by
    have ih := compN_snoc (y :: r) a b
    simp only [List.cons_append, compN] at ih ⊢
    by_cases h2 : (x == y) = true
    · rw [if_pos h2, if_pos h2]; exact ih
    · rw [if_neg h2, if_neg h2, ih]
      by_cases h : (a == b) = true
      · rw [if_pos h, if_pos h]
      · rw [if_neg h, if_neg h]; rfl

theorem compN_take {l : List (List Nat)} {m : Nat} {a b : List Nat} (h1 : l[m]? = some a) (h2 : l[m + 1]? = some b) : compN (l.take (m + 2)) = if a == b then compN (l.take (m + 1)) else compN (l.take (m + 1)) ++ [b] := by
  have e1 : l.take (m + 2) = l.take m ++ [a, b] := by
    rw [List.take_add_one, List.take_add_one, h1, h2]; simp
  have e2 : l.take (m + 1) = l.take m ++ [a] := by rw [List.take_add_one, h1]; simp
  rw [e1, e2]
  exact compN_snoc _ _ _

theorem compN_len : ∀ l : List (List Nat), (compN l).length ≤ l.length
  | [] => by simp [compN]
  | [x] => by simp [compN]
  | x :: y :: r => by
    have ih := compN_len (y :: r)
    unfold compN
    split
    · simp at ih ⊢; omega
    · simp at ih ⊢; omega

/-- The row while it is compacted: k are kept, j are seen. -/
structure Cmp (l : List (List Nat)) (cs : List AVal) (k j : Nat) : Prop where
  len : cs.length = l.length
  lt : k < j ∧ j ≤ l.length
  pre : cs.take k = (compN (l.take j)).map .s
  kl : k = (compN (l.take j)).length
  post : cs.drop (j - 1) = (l.drop (j - 1)).map .s

theorem Cmp.at' {l : List (List Nat)} {cs : List AVal} {k j : Nat} (d : Cmp l cs k j) {i : Nat} {x : List Nat} (hi : j - 1 ≤ i) (hx : l[i]? = some x) : cs[i]? = some (.s x) := by
  have := congrArg (fun q => q[i - (j - 1)]?) d.post
  simp only [List.getElem?_drop, List.getElem?_map] at this
  rw [show j - 1 + (i - (j - 1)) = i by omega] at this
  rw [this, hx]; rfl

theorem Cmp.keep {l : List (List Nat)} {cs : List AVal} {k j : Nat} {a b : List Nat} (d : Cmp l cs k (j + 1)) (ha : l[j]? = some a) (hb : l[j + 1]? = some b) (hne : (a == b) = false) : Cmp l (cs.set k (.s b)) (k + 1) (j + 2) := by
  have hj := (List.getElem?_eq_some_iff.1 hb).1
  have h1 := d.lt
  have h2 := d.len
  have ht := compN_take ha hb
  rw [hne] at ht
  simp only [Bool.false_eq_true, if_false] at ht
  refine ⟨by simp [h2], ⟨by omega, by omega⟩, ?_, ?_, ?_⟩
  · rw [take_set (by omega), d.pre, ht]; simp
  · rw [ht, List.length_append, ← d.kl]; simp
  · rw [show j + 2 - 1 = j + 1 by omega, List.drop_set_of_lt (by omega)]
    have := congrArg (List.drop 1) d.post
    simpa [Nat.add_comm] using this

theorem Cmp.pass {l : List (List Nat)} {cs : List AVal} {k j : Nat} {a b : List Nat} (d : Cmp l cs k (j + 1)) (ha : l[j]? = some a) (hb : l[j + 1]? = some b) (heq : (a == b) = true) : Cmp l cs k (j + 2) := by
  have hj := (List.getElem?_eq_some_iff.1 hb).1
  have h1 := d.lt
  have ht := compN_take ha hb
  rw [heq] at ht
  simp only [if_true] at ht
  refine ⟨d.len, ⟨by omega, by omega⟩, ?_, ?_, ?_⟩
  · rw [d.pre, ht]
  · rw [ht, ← d.kl]
  · rw [show j + 2 - 1 = j + 1 by omega]
    have := congrArg (List.drop 1) d.post
    simpa [Nat.add_comm] using this

theorem reg80_5 {H : Heap} {T : Tm} {Q : Post} {v : AVal} {l : List (List Nat)} {j : Nat} {a b : List Nat} (hl : Strs H v l) (hm : l.length < 1000000) (ha : l[j]? = some a) (hb : l[j + 1]? = some b) (h0 : T.get 0 = some v) (h3 : T.get 3 = some (.i .i64 ((j : Int) + 1)))
    (hQ : ∀ T', Keep [0, 3] T T' → T'.get 25 = some (.b (b == a)) → Q .normal T' H) : runQ d80_5 [] [] T H Q := by
  have hj := (List.getElem?_eq_some_iff.1 hb).1
  have i1 := sidx_at (k := .i64) (es := 1) hl.len' (show j < l.length by omega)
  have i2 := sidx_at (k := .i64) (es := 1) hl.len' hj
  have i3 : sidx 1 v (.i .i64 ((j : Int) + 1)) = some (sptr 1 v (j + 1)) := by rw [← i2]; simp
  have hs := b_sub (a := (j : Int) + 1) (b := 1) ⟨by omega, by omega⟩
  rw [show (j : Int) + 1 - 1 = j by omega] at hs
  simp [d80_5, h0, h3, hs, i1, i3, hl.get ha, hl.get hb]
  apply hQ <;> simp [Keep, h0, h3]

def I80 (q k0 : Nat) (l : List (List Nat)) (m : Nat) (T : Tm) (H : Heap) : Prop :=
  ∃ k j cs, k0 + j + 1 + m = l.length ∧ T.get 3 = some (.i .i64 ((k : Nat) : Int)) ∧ T.get 5 = some (.i .i64 ((j : Int) + 1)) ∧ H.get q = some (.row cs true) ∧ Cmp l cs k (k0 + j + 1)

theorem lp80_0 {H : Heap} {T : Tm} {Q : Post} {q k0 : Nat} {l : List (List Nat)} (hq : q < H.nx) (hm : l.length < 1000000) (hk0 : 0 < k0 ∧ k0 < l.length) (hg : H.get q = some (.row (l.map .s) true)) (hd : Cmp l (l.map .s) k0 (k0 + 1))
    (h0 : T.get 0 = some (.sl q 0 l.length none 1)) (h3 : T.get 3 = some (.i .i64 (k0 : Int))) (h4 : T.get 4 = some (.sl q k0 (l.length - k0) none 1)) (h5 : T.get 5 = some (.i .i64 1))
    (hQ : ∀ T' H' k cs, T'.get 0 = some (.sl q 0 l.length none 1) → T'.get 3 = some (.i .i64 ((k : Nat) : Int)) → Only q H H' → H'.get q = some (.row cs true) → Cmp l cs k l.length → Q (.exit 2) T' H') : Loop l80_0 T H Q := by
  refine Loop.by (fun m T' H' => T'.get 0 = some (.sl q 0 l.length none 1) ∧ T'.get 4 = some (.sl q k0 (l.length - k0) none 1) ∧ Only q H H' ∧ I80 q k0 l m T' H') (l.length - k0 - 1) ?_ ?_
  · exact ⟨h0, h4, Only.refl q H, k0, 0, l.map .s, by omega, h3, by simpa using h5, hg, hd⟩
  · rintro m T1 H1 ⟨g0, g4, ho, k, j, cs, hjm, g3, g5, hgq, d⟩
    have hls : ((l.length - k0 : Nat) : Int) = (l.length : Int) - k0 := by omega
    by_cases hj : k0 + j + 1 < l.length
    · have hlt : (j : Int) + 1 < ((l.length - k0 : Nat) : Int) := by omega
      obtain ⟨a, ha⟩ : ∃ y, l[k0 + j]? = some y := ⟨_, List.getElem?_eq_getElem (by omega)⟩
      obtain ⟨b, hb⟩ : ∃ y, l[k0 + j + 1]? = some y := ⟨_, List.getElem?_eq_getElem (by omega)⟩
      have i1 : sidx 1 (.sl q k0 (l.length - k0) none 1) (.i .i64 ((j : Int) + 1)) = some (.p q (k0 + (j + 1))) := by
        have := sidx_at (es := 1) (k := .i64) (v := .sl q k0 (l.length - k0) none 1) (n := l.length - k0) rfl (show j + 1 < l.length - k0 by omega)
        simpa using this
      have i2 : sidx 1 (.sl q k0 (l.length - k0) none 1) (.i .i64 (j : Int)) = some (.p q (k0 + j)) := by
        have := sidx_at (es := 1) (k := .i64) (v := .sl q k0 (l.length - k0) none 1) (n := l.length - k0) rfl (show j < l.length - k0 by omega)
        simpa using this
      have hs := b_sub (a := (j : Int) + 1) (b := 1) ⟨by omega, by omega⟩
      rw [show (j : Int) + 1 - 1 = j by omega] at hs
      have l1 : aLoad H1 (.p q (k0 + (j + 1))) 1 false = some (.s b) := by rw [load_row hgq]; exact d.at' (by omega) hb
      have l2 : aLoad H1 (.p q (k0 + j)) 1 false = some (.s a) := by rw [load_row hgq]; exact d.at' (by omega) ha
      have hadd := b_add (a := (j : Int) + 1) (b := 1) ⟨by omega, by omega⟩
      have hkl : k < l.length := by have := d.lt; omega
      have i3 : sidx 1 (.sl q 0 l.length none 1) (.i .i64 (k : Int)) = some (.p q k) := by rw [sidx_at (n := l.length) rfl hkl]; simp
      cases hab : b == a with
      | true =>
        have hba : (a == b) = true := by rw [beq_iff_eq] at hab ⊢; exact hab.symm
        simp [l80_0, r80_8, g4, g5, hlt, d80_9, i1, i2, hs, l1, l2, hab, r80_12, hadd, g0, g3]
        exact ⟨m - 1, by omega, ho, k, j + 1, cs, by omega, by simp [g3], by simp, hgq, d.pass ha hb hba⟩
      | false =>
        have hba : (a == b) = false := by
          rw [beq_eq_false_iff_ne] at hab ⊢
          exact fun e => hab e.symm
        have st : aStore H1 (.p q k) (.s b) 1 = some (H1.put q (.row (cs.set k (.s b)) true)) := by
          have := d.len
          simp only [aStore, cells_s, hgq]
          rw [if_pos ⟨rfl, by omega⟩]
          congr 3
          rw [List.set_eq_take_append_cons_drop, if_pos (by omega)]
          simp [splice]
        simp [l80_0, r80_8, g4, g5, hlt, d80_9, i1, i2, hs, l1, l2, hab, r80_10, r80_11, r80_12, hadd, g0, g3, i3, st, b_inc (show k < 4611686018427387904 by omega)]
        exact ⟨m - 1, by omega, ho.put _, k + 1, j + 1, _, by omega, by simp, by simp, by rw [Heap.get_put, if_pos rfl], d.keep ha hb hba⟩
    · have hlt : ¬ (j : Int) + 1 < ((l.length - k0 : Nat) : Int) := by omega
      have he : k0 + j + 1 = l.length := by omega
      rw [he] at d
      simp [l80_0, r80_8, g4, g5, hlt]
      exact hQ _ _ k cs (by simp [g0]) (by simp [g3]) ho hgq d

theorem call80 {H : Heap} {v : AVal} {l : List (List Nat)} (hl : Buf H 1 v l.length (l.map .s)) (hm : l.length < 1000000) :
    Call 80 [v] H fun v' H' => Strs H' v' (compN l) ∧ H'.nx = H.nx ∧ (∀ i, sid v ≠ some i → H'.get i = H.get i) ∧ sid v' = sid v := by
  refine Call.by (a := a80) rfl (by simp [a80]) ?_
  have hs : Strs H v l := hl.sl1
  by_cases h2 : (l.length : Int) < 2
  · have hc : compN l = l := by
      match l, h2 with
      | [], _ => rfl
      | [x], _ => rfl
      | x :: y :: r, h => simp at h; omega
    simp [a80, c80, r80_0, r80_1, r80_2, hs.len', h2, hc]
    exact hs
  · obtain ⟨q, rfl, hq, hg⟩ := hl.own (by omega)
    simp [a80, c80, r80_0, r80_1, r80_3, h2]
    refine Loop.by (fun m T H' => H' = H ∧ T.get 0 = some (.sl q 0 l.length none 1) ∧ ∃ j : Nat, j + 1 + m = l.length ∧ T.get 3 = some (.i .i64 ((j : Int) + 1)) ∧ compN (l.take (j + 1)) = l.take (j + 1)) (l.length - 1) ?_ ?_
    · refine ⟨rfl, by simp, 0, by omega, by simp, ?_⟩
      cases l with
      | nil => rfl
      | cons x r => simp [compN]
    · rintro m T H' ⟨rfl, h0, j, hjm, h3, hc⟩
      by_cases hj : j + 1 < l.length
      · have hlt : (j : Int) + 1 < (l.length : Int) := by omega
        obtain ⟨a, ha⟩ : ∃ y, l[j]? = some y := ⟨_, List.getElem?_eq_getElem (by omega)⟩
        obtain ⟨b, hb⟩ : ∃ y, l[j + 1]? = some y := ⟨_, List.getElem?_eq_getElem hj⟩
        have ht := compN_take ha hb
        simp [l80_1, r80_4, h0, h3, hlt]
        refine reg80_5 hs hm ha hb (by simp [h0]) (by simp [h3]) fun T1 hk h25 => ?_
        have k0 := hk 0 (by simp)
        have k3 := hk 3 (by simp)
        simp [h0, h3] at k0 k3
        cases hab : b == a with
        | false =>
          have hba : (a == b) = false := by
            rw [beq_eq_false_iff_ne] at hab ⊢
            exact fun e => hab e.symm
          rw [hab] at h25
          rw [hba] at ht
          simp only [Bool.false_eq_true, if_false, hc] at ht
          have hadd := b_add (a := (j : Int) + 1) (b := 1) ⟨by omega, by omega⟩
          simp [h25, r80_15, k3, k0, hadd]
          refine ⟨m - 1, by omega, j + 1, by omega, by simp, ?_⟩
          rw [ht]
          rw [List.take_add_one (i := j + 1), hb]; rfl
        | true =>
          have hba : (a == b) = true := by rw [beq_iff_eq] at hab ⊢; exact hab.symm
          rw [hab] at h25
          rw [hba] at ht
          simp only [if_true, hc] at ht
          have s1 := slc_lo (es := 1) (q := q) (o := 0) (n := l.length) (i := j + 1) (k := .i64) (by omega)
          rw [Nat.zero_add, Nat.mul_one] at s1
          have s1' : aSlc 1 (.sl q 0 l.length none 1) (some (.i .i64 ((j : Int) + 1))) none none = some (.sl q (j + 1) (l.length - (j + 1)) none 1) := by rw [← s1]; simp
          have d0 : Cmp l (l.map .s) (j + 1) (j + 1 + 1) := ⟨by simp, ⟨by omega, by omega⟩, by rw [ht, List.map_take], by rw [ht]; simp; omega, by simp⟩
          simp [h25, r80_6, k0, k3, s1', r80_7]
          refine lp80_0 hq hm ⟨by omega, hj⟩ hg d0 (by simp [k0]) (by simp [k3]) (by simp) (by simp) fun T2 H2 k cs g0 g3 ho hgq d => ?_
          have hkl := d.lt
          have s2 := slc_lo (es := 1) (q := q) (o := 0) (n := l.length) (i := k) (k := .i64) (by omega)
          have s3 := slc_hi (es := 1) (q := q) (o := 0) (n := l.length) (i := k) (k := .i64) (by omega)
          rw [Nat.zero_add, Nat.mul_one] at s2
          have cl : aClr H2 1 [.s []] (.sl q k (l.length - k) none 1) = some (H2.put q (.row (splice cs k ((List.range (l.length - k)).map fun j => [AVal.s []].getD (j % 1) .ni)) true)) := by
            have := d.len
            simp only [aClr, hgq]
            rw [if_neg (by omega)]
            simp
            omega
          have hpre : (splice cs k ((List.range (l.length - k)).map fun j => [AVal.s []].getD (j % 1) .ni)).take k = (compN l).map .s := by
            have := d.len
            unfold splice
            rw [List.append_assoc, List.take_append_of_le_length (by simp; omega), List.take_take, Nat.min_self, d.pre, List.take_of_length_le (by omega)]
          have hsp : (splice cs k ((List.range (l.length - k)).map fun j => [AVal.s []].getD (j % 1) .ni)).length = l.length := by
            have := d.len
            rw [splice_length _ _ _ (by simp; omega)]; exact this
          simp [r80_13, g0, g3, s2, cl, r80_14, s3]
          refine ⟨?_, ho.nx, fun a ha => ?_, rfl⟩
          · have := Sl.row (H := H2.put q (.row (splice cs k ((List.range (l.length - k)).map fun j => [AVal.s []].getD (j % 1) .ni)) true)) (i := q) (o := 0) (n := k) (k := none) (by rw [Heap.get_put, if_pos rfl]) (by rw [nx_put', ho.nx]; exact hq) (by rw [hsp]; omega)
            rw [List.drop_zero, hpre] at this
            simpa using this
          · rw [Heap.get_put, if_neg (fun e => ha (by rw [e]; rfl))]
            exact ho.old a (fun e => ha (by rw [e]; rfl))
      · have hlt : ¬ (j : Int) + 1 < (l.length : Int) := by omega
        have hcl : compN l = l := by rw [List.take_of_length_le (by omega)] at hc; exact hc
        simp [l80_1, r80_4, h0, h3, hlt, r80_16, hcl]
        exact hs

def unionN (a b : List (List Nat)) : List (List Nat) := compN (sortN (a ++ b))

/-- Append all to a buffer. -/
theorem Buf.appAll {H : Heap} {bytes n : Nat} {v x : AVal} {cells news : List AVal} (h : Buf H 1 v n cells) (hx : aNews H x 1 = some (news, news.length)) (hb : (n + news.length) * bytes ≤ 1099511627776) (hn : n + news.length ≤ 1099511627776) :
    ∃ v' H', aApp H 1 bytes v x = some (v', H') ∧ Buf H' 1 v' (n + news.length) (cells ++ news) ∧ H.nx ≤ H'.nx ∧ (∀ i, i < H.nx → sid v ≠ some i → H'.get i = H.get i) ∧ (∀ i, sid v' = some i → H.nx ≤ i ∨ sid v = some i) := by
  by_cases h0 : news.length = 0
  · have : news = [] := List.eq_nil_of_length_eq_zero h0
    subst this
    refine ⟨v, H, ?_, by simpa using h, Nat.le_refl _, fun _ _ _ => rfl, fun i hi => .inr hi⟩
    rcases h.2 with ⟨rfl, rfl⟩ | ⟨i, own, rfl, rfl, hi, hg⟩ | ⟨i, rfl, hi, h0, hg⟩
    · simp [aApp, hx]
    · simp [aApp, hx]
    · simp [aApp, hx]
  · obtain ⟨h1, h2⟩ := h
    rcases h2 with ⟨rfl, rfl⟩ | ⟨i, own, rfl, rfl, hi, hg⟩ | ⟨i, rfl, hi, hp, hg⟩
    · have hc : cells = [] := by
        cases cells with
        | nil => rfl
        | cons => simp at h1
      subst hc
      refine ⟨.sl H.nx 0 news.length none 1, H.push (.row news true), ?_, ⟨by simp, .inr (.inr ⟨H.nx, by simp, by simp, by omega, by simp⟩)⟩, by simp, fun i hi _ => get_push_old hi, fun i hi => by simp [sid] at hi; omega⟩
      have hb' : news.length * bytes ≤ 1099511627776 := by simpa using hb
      have hn' : news.length ≤ 1099511627776 := by simpa using hn
      have hne : ¬ news = [] := fun e => h0 (by rw [e]; rfl)
      simp [aApp, hx, hne, hb', hn']
    · have hc : cells = [] := by
        cases cells with
        | nil => rfl
        | cons => simp at h1
      subst hc
      refine ⟨.sl H.nx 0 news.length none 1, H.push (.row news true), ?_, ⟨by simp, .inr (.inr ⟨H.nx, by simp, by simp, by omega, by simp⟩)⟩, by simp, fun i hi _ => get_push_old hi, fun i hi => by simp [sid] at hi; omega⟩
      have hb' : news.length * bytes ≤ 1099511627776 := by simpa using hb
      have hn' : news.length ≤ 1099511627776 := by simpa using hn
      have hne : ¬ news = [] := fun e => h0 (by rw [e]; rfl)
      simp [aApp, hx, hg, hne, hb', hn']
    · refine ⟨.sl H.nx 0 (n + news.length) none 1, (H.push (.row (cells ++ news) true)).put i .dead, ?_, ⟨by simp; omega, .inr (.inr ⟨H.nx, rfl, by simp, by omega, ?_⟩)⟩, by simp, fun j hj hs => ?_, fun i hi => by simp [sid] at hi; omega⟩
      · have hne : ¬ news = [] := fun e => h0 (by rw [e]; rfl)
        simp [aApp, hx, hg, hne, hb, hn, ← h1]
      · rw [Heap.get_put, if_neg (by omega)]; simp
      · rw [Heap.get_put, if_neg (fun e => hs (by rw [e]; rfl)), get_push_old hj]

theorem call48 {A : Heap} {va vb : AVal} {a b : List (List Nat)} (ha : Strs A va a) (hb : Strs A vb b) (hma : a.length < 400000) (hmb : b.length < 400000) :
    Call 48 [va, vb] A fun v H' => Ex A H' ∧ Strs H' v (unionN a b) ∧ ∀ i, sid v = some i → A.nx ≤ i := by
  refine Call.by (a := a48) rfl (by simp [a48]) ?_
  simp [a48, c48, r48_0, r48_1]
  refine Call.mono (call69 ha (by omega)) ?_
  rintro w H1 _ ⟨e1, b1, s1⟩
  have hb1 := hb.ex e1
  obtain ⟨w2, H2, f1, f2, f3, f4, f5⟩ := b1.appAll (bytes := 16) hb1.news (by simp; omega) (by simp; omega)
  simp [kC, f1, r48_2]
  have hlow : ∀ i, sid w2 = some i → A.nx ≤ i := fun i hi => by
    rcases f5 i hi with h | h
    · have := e1.nx; omega
    · exact s1 i h
  have e2 : Ex A H2 := ⟨by have := e1.nx; omega, fun i hi o ho => by
    rw [f4 i (by have := e1.nx; omega) fun hs => by have := s1 i hs; omega]; exact e1.get i hi o ho⟩
  rw [← List.map_append] at f2
  have hlen : a.length + (b.map AVal.s).length = (a ++ b).length := by simp
  rw [hlen] at f2
  have hsl : (sortN (a ++ b)).length = (a ++ b).length := by unfold sortN; exact List.length_mergeSort _
  have fin : ∀ H3, (∀ i, sid w2 ≠ some i → H3.get i = H2.get i) → H3.nx = H2.nx → Buf H3 1 w2 (sortN (a ++ b)).length ((sortN (a ++ b)).map .s) → ∀ T : Tm, T.get 5 = some w2 → run ((ACode.region r48_3).seq ACode.ret) T H3 (retK [ARes.tmp 4] fun v H' => Ex A H' ∧ Strs H' v (unionN a b) ∧ ∀ i, sid v = some i → A.nx ≤ i) := by
    intro H3 h1 h2 h3 T h5
    simp [r48_3, h5]
    refine Call.mono (call80 h3 (by rw [hsl]; simp; omega)) ?_
    rintro v H4 _ ⟨r1, r2, r3, r4⟩
    simp [kC]
    refine ⟨⟨by have := e2.nx; omega, fun i hi o ho => ?_⟩, r1, fun i hi => hlow i (r4 ▸ hi)⟩
    have hne : sid w2 ≠ some i := fun hs => by have := hlow i hs; omega
    rw [r3 i hne, h1 i hne]
    exact e2.get i hi o ho
  by_cases h0 : 0 < (a ++ b).length
  · obtain ⟨q, rfl, hq, hg⟩ := f2.own h0
    refine Call.mono (call79 hg h0 (by simp; omega)) ?_
    rintro v H3 _ rfl
    simp only [kC, putO_some, runO_nil, seqK_normal, run_mask]
    refine fin (H2.put q (.row ((sortN (a ++ b)).map .s) true)) (fun i hi => by rw [Heap.get_put, if_neg (fun e => hi (by rw [e]; rfl))]) rfl ⟨by simp [hsl], .inr (.inr ⟨q, by rw [hsl], hq, by rw [hsl]; exact h0, by rw [Heap.get_put, if_pos rfl]⟩)⟩ _ (by simp)
  · have hz : (a ++ b) = [] := List.eq_nil_of_length_eq_zero (by omega)
    have hz' : sortN (a ++ b) = [] := List.eq_nil_of_length_eq_zero (by rw [hsl]; omega)
    have hw : w2 = .nsl ∨ ∃ i, w2 = .sl i 0 0 (some 0) 1 := by
      rcases f2.2 with ⟨h, _⟩ | ⟨i, own, h, _⟩ | ⟨i, h, _, hp, _⟩
      · exact .inl h
      · exact .inr ⟨i, h⟩
      · omega
    refine Call.mono (call79_nil hw) ?_
    rintro v H3 _ rfl
    simp only [kC, putO_some, runO_nil, seqK_normal, run_mask]
    refine fin _ (fun i hi => rfl) rfl (by rw [hz']; rw [hz] at f2; exact f2) _ (by simp)


def varN (h k : Hd) (join : Bool) : List (List Nat) × Bool :=
  if h.opn && k.opn && join then (bothN h.names k.names, true)
  else if h.opn && k.opn then (unionN h.names k.names, true)
  else if h.opn && join then (h.names, true)
  else if k.opn && join then (k.names, true)
  else if h.opn then (k.names, false)
  else if k.opn then (h.names, false)
  else if join then (unionN h.names k.names, false)
  else (bothN h.names k.names, false)

def Vars (A : Heap) (ns ns' : AVal) (r : List (List Nat) × Bool) (v : AVal) (H' : Heap) : Prop := Ex A H' ∧ ∃ w, v = .tup [w, .b r.2] ∧ Strs H' w r.1 ∧ ∀ i, sid w = some i → A.nx ≤ i ∨ sid ns = some i ∨ sid ns' = some i

theorem call49 {A : Heap} {ns ks ns' ks' : AVal} {h k : Hd} {join : Bool} (n1 : Strs A ns h.names) (k1 : Ints A ks h.kids) (n2 : Strs A ns' k.names) (k2 : Ints A ks' k.kids) (hm : h.names.length < 400000) (hmk : k.names.length < 400000) :
    Call 49 [.agg [.i .i64 h.kind, ns, ks, .b h.opn], .agg [.i .i64 k.kind, ns', ks', .b k.opn], .b join] A (Vars A ns ns' (varN h k join)) := by
  refine Call.by (a := a49) rfl (by simp [a49]) ?_
  simp [a49, c49, r49_0]
  obtain ⟨H1, hH1⟩ : ∃ P, P = (A.push (.row [.i .i64 h.kind, ns, ks, .b h.opn] true)).push (.row [.i .i64 k.kind, ns', ks', .b k.opn] true) := ⟨_, rfl⟩
  have gh : H1.get A.nx = some (.row [.i .i64 h.kind, ns, ks, .b h.opn] true) := by rw [hH1, get_push_old (by simp)]; simp
  have gk : H1.get (A.nx + 1) = some (.row [.i .i64 k.kind, ns', ks', .b k.opn] true) := by rw [hH1]; exact get_push_nx _ _
  have e1 : Ex A H1 := by rw [hH1]; exact ((Ex.refl A).push _).push _
  have n1' := n1.ex e1
  have n2' := n2.ex e1
  rw [← hH1]
  have both : ∀ R : AVal → Heap → Prop, (∀ v H2, Ex A H2 → Strs H2 v (bothN h.names k.names) → (∀ i, sid v = some i → A.nx ≤ i) → R v H2) → Call 47 [ns, ns'] H1 R := fun R hR =>
    Call.mono (call47 n1' n2' (by omega) (by omega)) fun v H2 _ hq => hR v H2 (e1.trans hq.1) hq.2.1 fun i hi => by have := hq.2.2 i hi; have := e1.nx; omega
  have uni : ∀ R : AVal → Heap → Prop, (∀ v H2, Ex A H2 → Strs H2 v (unionN h.names k.names) → (∀ i, sid v = some i → A.nx ≤ i) → R v H2) → Call 48 [ns, ns'] H1 R := fun R hR =>
    Call.mono (call48 n1' n2' (by omega) (by omega)) fun v H2 _ hq => hR v H2 (e1.trans hq.1) hq.2.1 fun i hi => by have := hq.2.2 i hi; have := e1.nx; omega
  cases o1 : h.opn <;> cases o2 : k.opn <;> cases join <;> rw [o1] at gh <;> rw [o2] at gk
  · simp [r49_1, r49_3, r49_5, r49_7, r49_9, r49_11, r49_13, r49_15, load_row gh, load_row gk]
    refine both _ fun v H2 he hv hs => ?_
    simp [kC]
    exact ⟨he, v, by simp [varN, o1, o2], by simpa [varN, o1, o2] using hv, fun i hi => .inl (hs i hi)⟩
  · simp [r49_1, r49_3, r49_5, r49_7, r49_9, r49_11, r49_13, r49_14, load_row gh, load_row gk]
    refine uni _ fun v H2 he hv hs => ?_
    simp [kC]
    exact ⟨he, v, by simp [varN, o1, o2], by simpa [varN, o1, o2] using hv, fun i hi => .inl (hs i hi)⟩
  · simp [r49_1, r49_3, r49_5, r49_7, r49_9, r49_11, r49_12, load_row gh, load_row gk]
    exact ⟨e1, ns, by simp [varN, o1, o2], by simpa [varN, o1, o2] using n1', fun i hi => .inr (.inl hi)⟩
  · simp [r49_1, r49_3, r49_5, r49_7, r49_8, load_row gh, load_row gk]
    exact ⟨e1, ns', by simp [varN, o1, o2], by simpa [varN, o1, o2] using n2', fun i hi => .inr (.inr hi)⟩
  · simp [r49_1, r49_3, r49_5, r49_7, r49_9, r49_10, load_row gh, load_row gk]
    exact ⟨e1, ns', by simp [varN, o1, o2], by simpa [varN, o1, o2] using n2', fun i hi => .inr (.inr hi)⟩
  · simp [r49_1, r49_3, r49_5, r49_6, load_row gh, load_row gk]
    exact ⟨e1, ns, by simp [varN, o1, o2], by simpa [varN, o1, o2] using n1', fun i hi => .inr (.inl hi)⟩
  · simp [r49_1, r49_3, r49_4, load_row gh, load_row gk]
    refine uni _ fun v H2 he hv hs => ?_
    simp [kC]
    exact ⟨he, v, by simp [varN, o1, o2], by simpa [varN, o1, o2] using hv, fun i hi => .inl (hs i hi)⟩
  · simp [r49_1, r49_2, load_row gh, load_row gk]
    refine both _ fun v H2 he hv hs => ?_
    simp [kC]
    exact ⟨he, v, by simp [varN, o1, o2], by simpa [varN, o1, o2] using hv, fun i hi => .inl (hs i hi)⟩

/-! ### A binary search -/
theorem call185 {H : Heap} {x : List Nat} : Call 185 [.s x] H fun v H' => H' = H ∧ v = .b false := by
  refine Call.by (a := a185) rfl (by simp [a185]) ?_
  simp [r185_0, r185_1, c185, a185]
theorem call156 {H : Heap} {x : List Nat} : Call 156 [.s x] H fun v H' => H' = H ∧ v = .b false := by
  refine Call.by (a := a156) rfl (by simp [a156]) ?_
  simp [r156_0, r156_1, c156, a156]
theorem call155 {H : Heap} {x y : List Nat} : Call 155 [.s x, .s y] H fun v H' => H' = H ∧ v = .b (natsLess x y) := by
  refine Call.by (a := a155) rfl (by simp [a155]) ?_
  simp [r155_0, r155_1, c155, a155]
  refine Call.is call185 ?_
  simp [kC]

theorem wrapF_id {k : IntKind} {n : Int} (h : (0 ≤ n ∧ n < lim k)) : wrapF k n = n := by
  rw [wrapF_eq]; exact wrap_lim k n (.inl h)

theorem b_shr1 {a : Nat} : aBin .shr (.i .u64 (a : Int)) (.i .u64 1) = some (.i .u64 ((a / 2 : Nat) : Int)) := by
  rw [aBin_eq]
  simp only [aBin0]
  rw [if_neg (by decide)]
  have h2 : (2 : Int) ^ min (Int.toNat 1) IntKind.u64.bits = 2 := by decide
  rw [h2, Int.fdiv_eq_ediv_of_nonneg _ (by decide)]
  rfl

theorem reg107_4 {T : Tm} {H : Heap} {Q : Post} {i j : Nat} (h7 : T.get 7 = some (.i .i64 (i : Int))) (h8 : T.get 8 = some (.i .i64 (j : Int))) (hb : i + j < 4611686018427387904)
    (hQ : ∀ T', Keep [0, 1, 6, 7, 8] T T' → T'.get 9 = some (.i .i64 (((i + j) / 2 : Nat) : Int)) → Q .normal T' H) : runO r107_4 T H Q := by
  have ha := b_addN (a := i) (b := j) hb
  have w1 : wrapF .u64 ((i + j : Nat) : Int) = ((i + j : Nat) : Int) := wrapF_id ⟨by omega, by simp [lim]; omega⟩
  have w2 : wrapF .i64 (((i + j) / 2 : Nat) : Int) = (((i + j) / 2 : Nat) : Int) := wrapF_id ⟨by omega, by simp [lim]; omega⟩
  have s1 := b_shr1 (a := i + j)
  simp only [r107_4, runO_pure, p_mov', ev_t, h7, h8, kV_some, putO_some, p_bin, Tr.get_put, Nat.reduceEqDiff, if_true, if_false, Option.bind_some, ha, p_convI, w1, ev_c, s1, w2, runO_nil, reduceCtorEq]
  apply hQ
  · simp [Keep, h7, h8]
  · simp

/-- Where a search stands. -/
structure Srch (l : List (List Nat)) (t : List Nat) (i j : Nat) : Prop where
  lt : i ≤ j ∧ j ≤ l.length
  lo : ∀ a x, a < i → l[a]? = some x → natsLess x t = true
  hi : ∀ a x, j ≤ a → l[a]? = some x → natsLess x t = false

def Found (l : List (List Nat)) (t : List Nat) (v : AVal) : Prop := (∃ i : Nat, v = .tup [.i .i64 (i : Int), .b true] ∧ l[i]? = some t) ∨ (∃ i : Nat, v = .tup [.i .i64 (i : Int), .b false] ∧ t ∉ l)

theorem call107 {H : Heap} {v : AVal} {l : List (List Nat)} {t : List Nat} (hl : Strs H v l) (hm : l.length < 1000000) (hu : Up l) :
    Call 107 [v, .s t] H fun v H' => H' = H ∧ Found l t v := by
  refine Call.by (a := a107) rfl (by simp [a107]) ?_
  simp [a107, c107, r107_0, r107_1, r107_2, hl.len']
  refine Loop.by (fun m T H' => H' = H ∧ T.get 0 = some v ∧ T.get 1 = some (.s t) ∧ T.get 6 = some (.i .i64 (l.length : Int)) ∧ ∃ i j : Nat, m = j - i ∧ T.get 7 = some (.i .i64 (i : Int)) ∧ T.get 8 = some (.i .i64 (j : Int)) ∧ Srch l t i j) l.length ?_ ?_
  · exact ⟨rfl, by simp, by simp, by simp, 0, l.length, by simp, by simp, by simp, ⟨by omega, Nat.le_refl _⟩, fun a x ha => by omega, fun a x ha hx => by have := (List.getElem?_eq_some_iff.1 hx).1; omega⟩
  · rintro m T H' ⟨rfl, h0, h1, h6, i, j, rfl, h7, h8, s⟩
    obtain ⟨s1, s2⟩ := s.lt
    by_cases hij : i < j
    · have hlt : (i : Int) < (j : Int) := by omega
      simp [l107_0, r107_3, h7, h8, hlt]
      refine reg107_4 (i := i) (j := j) (by simp [h7]) (by simp [h8]) (by omega) fun T1 hk h9 => ?_
      have k0 := hk 0 (by simp)
      have k1 := hk 1 (by simp)
      have k6 := hk 6 (by simp)
      have k7 := hk 7 (by simp)
      have k8 := hk 8 (by simp)
      simp [h0, h1, h6, h7, h8] at k0 k1 k6 k7 k8
      obtain ⟨c, hc⟩ : ∃ c, c = (i + j) / 2 := ⟨_, rfl⟩
      rw [← hc] at h9
      obtain ⟨x, hx⟩ : ∃ y, l[c]? = some y := ⟨_, List.getElem?_eq_getElem (by omega)⟩
      simp [r107_5, k0, k1, h9, sidx_at hl.len' (show c < l.length by omega), hl.get hx]
      refine Call.is call155 ?_
      cases hb : natsLess x t with
      | true =>
        simp [kC, r107_6, h9, k0, k1, k6, k8, b_inc (show c < 4611686018427387904 by omega)]
        refine ⟨j - (c + 1), by omega, c + 1, j, rfl, by simp, rfl, ⟨by omega, s2⟩, fun a y ha hy => ?_, s.hi⟩
        by_cases hac : a = c
        · subst hac; rw [hx] at hy; obtain rfl := Option.some.inj hy; exact hb
        · have := List.pairwise_iff_getElem.1 hu a c (by omega) (by omega) (by omega)
          obtain ⟨_, e1⟩ := List.getElem?_eq_some_iff.1 hy
          obtain ⟨_, e2⟩ := List.getElem?_eq_some_iff.1 hx
          rw [e1, e2] at this
          exact less_trans this hb
      | false =>
        simp [kC, r107_7, h9, k0, k1, k6, k7]
        refine ⟨c - i, by omega, i, c, rfl, rfl, rfl, ⟨by omega, by omega⟩, s.lo, fun a y ha hy => ?_⟩
        by_cases hac : a = c
        · subst hac; rw [hx] at hy; obtain rfl := Option.some.inj hy; exact hb
        · have hal := (List.getElem?_eq_some_iff.1 hy).1
          have := List.pairwise_iff_getElem.1 hu c a (by omega) hal (by omega)
          obtain ⟨_, e1⟩ := List.getElem?_eq_some_iff.1 hy
          obtain ⟨_, e2⟩ := List.getElem?_eq_some_iff.1 hx
          rw [e1, e2] at this
          cases hyt : natsLess y t with
          | false => rfl
          | true => rw [less_trans this hyt] at hb; cases hb
    · have hlt : ¬ (i : Int) < (j : Int) := by omega
      have hji : i = j := by omega
      subst hji
      by_cases hil : i < l.length
      · have hlt2 : (i : Int) < (l.length : Int) := by omega
        obtain ⟨x, hx⟩ : ∃ y, l[i]? = some y := ⟨_, List.getElem?_eq_getElem hil⟩
        cases hxt : x == t with
        | true =>
          have : x = t := by simpa using hxt
          subst this
          simp [l107_0, r107_3, r107_8, h0, h1, h6, h7, h8, hil, sidx_at hl.len' hil, hl.get hx]
          exact .inl ⟨i, rfl, hx⟩
        | false =>
          simp [l107_0, r107_3, r107_8, h0, h1, h6, h7, h8, hil, sidx_at hl.len' hil, hl.get hx, hxt]
          refine Call.is call156 ?_
          simp [kC]
          refine .inr ⟨i, rfl, fun hmem => ?_⟩
          obtain ⟨a, ha, hat⟩ := List.getElem_of_mem hmem
          have hat' : l[a]? = some t := by rw [List.getElem?_eq_getElem ha, hat]
          rcases Nat.lt_trichotomy a i with h | h | h
          · have := s.lo a t h hat'; rw [less_irr] at this; cases this
          · subst h; rw [hx] at hat'; obtain rfl := Option.some.inj hat'; simp at hxt
          · have := List.pairwise_iff_getElem.1 hu i a hil ha h
            rw [hat] at this
            obtain ⟨_, e2⟩ := List.getElem?_eq_some_iff.1 hx
            rw [e2, s.hi i x (Nat.le_refl _) hx] at this; cases this
      · have hlt2 : ¬ (i : Int) < (l.length : Int) := by omega
        simp [l107_0, r107_3, r107_8, h0, h1, h6, h7, h8, hil]
        refine .inr ⟨i, rfl, fun hmem => ?_⟩
        obtain ⟨a, ha, hat⟩ := List.getElem_of_mem hmem
        have := s.lo a t (by omega) (by rw [List.getElem?_eq_getElem ha, hat])
        rw [less_irr] at this; cases this

end
end K
end Go.Proofs.YtlgbgbngdhhjaaaGreatDoor
