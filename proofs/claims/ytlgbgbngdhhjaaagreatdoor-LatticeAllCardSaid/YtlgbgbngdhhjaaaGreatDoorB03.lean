/- The program's functions, compiled for the abstract machine (1). No condition. -/
import Derived.Test.YtlgbgbngdhhjaaaGreatDoorB02
namespace Go.Proofs.YtlgbgbngdhhjaaaGreatDoor
namespace AM
noncomputable section
open Go
abbrev Rg := List AOper
@[simp] abbrev AOper.p (d : Nat) (o : AOp) : AOper := ⟨some d, .pure o, none⟩
@[simp] abbrev AOper.pt (d : Nat) (o : AOp) (h : Nat) : AOper := ⟨some d, .pure o, some (h, true)⟩
@[simp] abbrev AOper.pf (d : Nat) (o : AOp) (h : Nat) : AOper := ⟨some d, .pure o, some (h, false)⟩
@[simp] abbrev AOper.r (d : Nat) (o : AOp) : AOper := ⟨some d, .read o, none⟩
@[simp] abbrev AOper.rt (d : Nat) (o : AOp) (h : Nat) : AOper := ⟨some d, .read o, some (h, true)⟩
@[simp] abbrev AOper.rf (d : Nat) (o : AOp) (h : Nat) : AOper := ⟨some d, .read o, some (h, false)⟩
@[simp] abbrev AOper.n (d : Nat) (o : AOp) : AOper := ⟨some d, .new o, none⟩
@[simp] abbrev AOper.nt (d : Nat) (o : AOp) (h : Nat) : AOper := ⟨some d, .new o, some (h, true)⟩
@[simp] abbrev AOper.nf (d : Nat) (o : AOp) (h : Nat) : AOper := ⟨some d, .new o, some (h, false)⟩
@[simp] abbrev AOper.e (d : Nat) (o : AOp) : AOper := ⟨some d, .eff o, none⟩
@[simp] abbrev AOper.et (d : Nat) (o : AOp) (h : Nat) : AOper := ⟨some d, .eff o, some (h, true)⟩
@[simp] abbrev AOper.ef (d : Nat) (o : AOp) (h : Nat) : AOper := ⟨some d, .eff o, some (h, false)⟩
@[simp] abbrev AOper.c (d : Nat) (f : Nat) (a : List AOpd) : AOper := ⟨some d, .call f a, none⟩
@[simp] abbrev AOper.ct (d : Nat) (f : Nat) (a : List AOpd) (h : Nat) : AOper := ⟨some d, .call f a, some (h, true)⟩
@[simp] abbrev AOper.cf (d : Nat) (f : Nat) (a : List AOpd) (h : Nat) : AOper := ⟨some d, .call f a, some (h, false)⟩
@[simp] abbrev AOper.m (d : Nat) (x : Nat) : AOper := ⟨some d, .pure (.mov (.t x)), none⟩
@[simp] abbrev AOper.mt (d : Nat) (x : Nat) (h : Nat) : AOper := ⟨some d, .pure (.mov (.t x)), some (h, true)⟩
@[simp] abbrev AOper.mf (d : Nat) (x : Nat) (h : Nat) : AOper := ⟨some d, .pure (.mov (.t x)), some (h, false)⟩
@[simp] abbrev AOper.mi (d : Nat) (n : Int) : AOper := ⟨some d, .pure (.mov (.c (.i .i64 n))), none⟩
@[simp] abbrev AOper.mit (d : Nat) (n : Int) (h : Nat) : AOper := ⟨some d, .pure (.mov (.c (.i .i64 n))), some (h, true)⟩
@[simp] abbrev AOper.mif (d : Nat) (n : Int) (h : Nat) : AOper := ⟨some d, .pure (.mov (.c (.i .i64 n))), some (h, false)⟩
@[simp] abbrev AOper.mb (d : Nat) (b : Bool) : AOper := ⟨some d, .pure (.mov (.c (.b b))), none⟩
@[simp] abbrev AOper.mbt (d : Nat) (b : Bool) (h : Nat) : AOper := ⟨some d, .pure (.mov (.c (.b b))), some (h, true)⟩
@[simp] abbrev AOper.mbf (d : Nat) (b : Bool) (h : Nat) : AOper := ⟨some d, .pure (.mov (.c (.b b))), some (h, false)⟩
@[simp] abbrev AOper.no (d : Nat) (x : Nat) : AOper := ⟨some d, .pure (.not (.t x)), none⟩
@[simp] abbrev AOper.not (d : Nat) (x : Nat) (h : Nat) : AOper := ⟨some d, .pure (.not (.t x)), some (h, true)⟩
@[simp] abbrev AOper.nof (d : Nat) (x : Nat) (h : Nat) : AOper := ⟨some d, .pure (.not (.t x)), some (h, false)⟩
@[simp] abbrev AOper.ln (d : Nat) (x : Nat) : AOper := ⟨some d, .pure (.len (.t x)), none⟩
@[simp] abbrev AOper.lnt (d : Nat) (x : Nat) (h : Nat) : AOper := ⟨some d, .pure (.len (.t x)), some (h, true)⟩
@[simp] abbrev AOper.lnf (d : Nat) (x : Nat) (h : Nat) : AOper := ⟨some d, .pure (.len (.t x)), some (h, false)⟩
@[simp] abbrev AOper.nk (d : Nat) (x : Nat) : AOper := ⟨some d, .pure (.nilck (.t x)), none⟩
@[simp] abbrev AOper.nkt (d : Nat) (x : Nat) (h : Nat) : AOper := ⟨some d, .pure (.nilck (.t x)), some (h, true)⟩
@[simp] abbrev AOper.nkf (d : Nat) (x : Nat) (h : Nat) : AOper := ⟨some d, .pure (.nilck (.t x)), some (h, false)⟩
@[simp] abbrev AOper.fa (d : Nat) (f x : Nat) : AOper := ⟨some d, .pure (.fieldA f (.t x)), none⟩
@[simp] abbrev AOper.fat (d : Nat) (f x : Nat) (h : Nat) : AOper := ⟨some d, .pure (.fieldA f (.t x)), some (h, true)⟩
@[simp] abbrev AOper.faf (d : Nat) (f x : Nat) (h : Nat) : AOper := ⟨some d, .pure (.fieldA f (.t x)), some (h, false)⟩
@[simp] abbrev AOper.ex (d : Nat) (k x : Nat) : AOper := ⟨some d, .pure (.ext k (.t x)), none⟩
@[simp] abbrev AOper.ext (d : Nat) (k x : Nat) (h : Nat) : AOper := ⟨some d, .pure (.ext k (.t x)), some (h, true)⟩
@[simp] abbrev AOper.exf (d : Nat) (k x : Nat) (h : Nat) : AOper := ⟨some d, .pure (.ext k (.t x)), some (h, false)⟩
@[simp] abbrev AOper.ix (d : Nat) (e x i : Nat) : AOper := ⟨some d, .pure (.idxA e (.t x) (.t i)), none⟩
@[simp] abbrev AOper.ixt (d : Nat) (e x i : Nat) (h : Nat) : AOper := ⟨some d, .pure (.idxA e (.t x) (.t i)), some (h, true)⟩
@[simp] abbrev AOper.ixf (d : Nat) (e x i : Nat) (h : Nat) : AOper := ⟨some d, .pure (.idxA e (.t x) (.t i)), some (h, false)⟩
@[simp] abbrev AOper.an (d : Nat) (a b : Nat) : AOper := ⟨some d, .pure (.pick (.t a) (.t b) (.c (.b false))), none⟩
@[simp] abbrev AOper.ant (d : Nat) (a b : Nat) (h : Nat) : AOper := ⟨some d, .pure (.pick (.t a) (.t b) (.c (.b false))), some (h, true)⟩
@[simp] abbrev AOper.anf (d : Nat) (a b : Nat) (h : Nat) : AOper := ⟨some d, .pure (.pick (.t a) (.t b) (.c (.b false))), some (h, false)⟩
@[simp] abbrev AOper.oo (d : Nat) (a b : Nat) : AOper := ⟨some d, .pure (.pick (.t a) (.c (.b true)) (.t b)), none⟩
@[simp] abbrev AOper.oot (d : Nat) (a b : Nat) (h : Nat) : AOper := ⟨some d, .pure (.pick (.t a) (.c (.b true)) (.t b)), some (h, true)⟩
@[simp] abbrev AOper.oof (d : Nat) (a b : Nat) (h : Nat) : AOper := ⟨some d, .pure (.pick (.t a) (.c (.b true)) (.t b)), some (h, false)⟩
@[simp] abbrev AOper.bi (d : Nat) (o : BinOp) (x y : Nat) : AOper := ⟨some d, .pure (.bin o (.t x) (.t y)), none⟩
@[simp] abbrev AOper.bit (d : Nat) (o : BinOp) (x y : Nat) (h : Nat) : AOper := ⟨some d, .pure (.bin o (.t x) (.t y)), some (h, true)⟩
@[simp] abbrev AOper.bif (d : Nat) (o : BinOp) (x y : Nat) (h : Nat) : AOper := ⟨some d, .pure (.bin o (.t x) (.t y)), some (h, false)⟩
@[simp] abbrev AOper.bn (d : Nat) (o : BinOp) (x : Nat) (n : Int) : AOper := ⟨some d, .pure (.bin o (.t x) (.c (.i .i64 n))), none⟩
@[simp] abbrev AOper.bnt (d : Nat) (o : BinOp) (x : Nat) (n : Int) (h : Nat) : AOper := ⟨some d, .pure (.bin o (.t x) (.c (.i .i64 n))), some (h, true)⟩
@[simp] abbrev AOper.bnf (d : Nat) (o : BinOp) (x : Nat) (n : Int) (h : Nat) : AOper := ⟨some d, .pure (.bin o (.t x) (.c (.i .i64 n))), some (h, false)⟩
@[simp] abbrev AOper.l1 (d : Nat) (x : Nat) : AOper := ⟨some d, .read (.load 1 false (.t x)), none⟩
@[simp] abbrev AOper.l1t (d : Nat) (x : Nat) (h : Nat) : AOper := ⟨some d, .read (.load 1 false (.t x)), some (h, true)⟩
@[simp] abbrev AOper.l1f (d : Nat) (x : Nat) (h : Nat) : AOper := ⟨some d, .read (.load 1 false (.t x)), some (h, false)⟩
@[simp] abbrev AOper.la (d : Nat) (n x : Nat) : AOper := ⟨some d, .read (.load n true (.t x)), none⟩
@[simp] abbrev AOper.lat (d : Nat) (n x : Nat) (h : Nat) : AOper := ⟨some d, .read (.load n true (.t x)), some (h, true)⟩
@[simp] abbrev AOper.laf (d : Nat) (n x : Nat) (h : Nat) : AOper := ⟨some d, .read (.load n true (.t x)), some (h, false)⟩
@[simp] abbrev AOper.bx (d : Nat) (x : Nat) : AOper := ⟨some d, .new (.box (.t x)), none⟩
@[simp] abbrev AOper.bxt (d : Nat) (x : Nat) (h : Nat) : AOper := ⟨some d, .new (.box (.t x)), some (h, true)⟩
@[simp] abbrev AOper.bxf (d : Nat) (x : Nat) (h : Nat) : AOper := ⟨some d, .new (.box (.t x)), some (h, false)⟩
@[simp] abbrev AOper.al (d : Nat) (z : List AVal) : AOper := ⟨some d, .new (.alloc z), none⟩
@[simp] abbrev AOper.alt (d : Nat) (z : List AVal) (h : Nat) : AOper := ⟨some d, .new (.alloc z), some (h, true)⟩
@[simp] abbrev AOper.alf (d : Nat) (z : List AVal) (h : Nat) : AOper := ⟨some d, .new (.alloc z), some (h, false)⟩
@[simp] abbrev AOper.e0 (o : AOp) : AOper := ⟨none, .eff o, none⟩
@[simp] abbrev AOper.st (n a v : Nat) : AOper := ⟨none, .eff (.store n (.t a) (.t v)), none⟩
@[simp] abbrev ACode.rr (l : Rg) (x : ACode) : ACode := .seq (.region l) x
@[simp] abbrev ACode.rg (l : Rg) : ACode := .region l
@[simp] abbrev ACode.k (l : List Nat) (x : ACode) : ACode := .mask l x
@[simp] abbrev ACode.s (x y : ACode) : ACode := .seq x y
@[simp] abbrev ACode.cr (n : Nat) (l : Rg) : ACode := .cond (.t n) (.seq (.region l) .ret) .skip
@[simp] abbrev ACode.cc (n : Nat) (x y : ACode) : ACode := .cond (.t n) x y
end
end AM
end Go.Proofs.YtlgbgbngdhhjaaaGreatDoor

set_option maxRecDepth 100000
namespace Go.Proofs.YtlgbgbngdhhjaaaGreatDoor
namespace K
open Go AM

def r3_0 : Rg :=[.bx 2 0,
 .bx 3 1,
 .mb 4 false]
def r3_1 : Rg :=[.c 13 8 [],
 .no 14 13,
 .m 15 14,
 .laf 16 2 2 15,
 .laf 17 2 3 15,
 .nf 18 (.bsl 2 2 [.nsl,(.i .i64 0)] [(0,(.t 16)),(1,(.t 17))]) 15,
 .cf 19 9 [(.t 18)] 15,
 .nof 20 19 15,
 .oo 21 15 20,
 .m 22 21,
 .faf 23 0 2 22,
 .l1f 24 23 22,
 .lnf 25 24 22,
 .bnf 26 .gtr 25 8 22,
 .oo 27 22 26,
 .m 28 27,
 .faf 29 0 3 28,
 .l1f 30 29 28,
 .lnf 31 30 28,
 .bnf 32 .gtr 31 8 28,
 .oo 33 28 32]
def r3_2 : Rg :=[.c 34 8 [],
 .m 4 34]
def r3_3 : Rg :=[.la 36 2 2,
 .la 37 2 3,
 .c 38 10 [(.t 36),(.t 37)],
 .m 35 38,
 .ex 39 0 35,
 .ex 40 1 35,
 .al 5 [.nsl,(.i .i64 0)],
 .st 2 5 39,
 .m 6 40]
def r3_4 : Rg :=[.la 42 2 2,
 .la 43 2 3,
 .c 44 11 [(.t 42),(.t 43)],
 .m 41 44,
 .ex 45 0 41,
 .ex 46 1 41,
 .al 7 [.nsl,(.i .i64 0)],
 .st 2 7 45,
 .m 8 46]
def r3_5 : Rg :=[.m 47 6,
 .bn 48 .neq 47 0,
 .m 49 48,
 .mf 50 8 49,
 .bnf 51 .neq 50 0 49,
 .oo 52 49 51]
def r3_6 : Rg :=[.m 53 6,
 .bn 54 .neq 53 0,
 .m 55 54,
 .mt 56 6 55,
 .bnt 57 .eql 56 20 55,
 .an 58 55 57,
 .m 59 58,
 .mf 60 8 59,
 .bnf 61 .eql 60 20 59,
 .oo 62 59 61,
 .m 4 62]
def r3_7 : Rg :=[.la 64 2 2,
 .la 65 2 5,
 .c 66 11 [(.t 64),(.t 65)],
 .m 63 66,
 .ex 67 0 63,
 .ex 68 1 63,
 .al 9 [.nsl,(.i .i64 0)],
 .st 2 9 67,
 .m 10 68]
def r3_8 : Rg :=[.la 70 2 2,
 .la 71 2 7,
 .c 72 10 [(.t 70),(.t 71)],
 .m 69 72,
 .ex 73 0 69,
 .ex 74 1 69,
 .al 11 [.nsl,(.i .i64 0)],
 .st 2 11 73,
 .m 12 74]
def r3_9 : Rg :=[.m 75 10,
 .bn 76 .neq 75 0,
 .m 77 76,
 .mf 78 12 77,
 .bnf 79 .neq 78 0 77,
 .oo 80 77 79]
def r3_10 : Rg :=[.m 81 10,
 .bn 82 .eql 81 20,
 .m 83 82,
 .mf 84 12 83,
 .bnf 85 .eql 84 20 83,
 .oo 86 83 85,
 .m 4 86]
def r3_11 : Rg :=[.la 87 2 9,
 .la 88 2 2,
 .c 89 12 [(.t 87),(.t 88)],
 .m 90 89,
 .lat 91 2 11 90,
 .lat 92 2 2 90,
 .ct 93 12 [(.t 91),(.t 92)] 90,
 .an 94 90 93,
 .m 4 94]
def c3 : ACode := (.rr r3_0 (.k [2,3] (.s (.rr r3_1 (.k [2,3,33] (.cr 33 r3_2))) (.k [2,3] (.rr r3_3 (.k [2,3,5,6] (.rr r3_4 (.k [2,5,6,7,8] (.s (.rr r3_5 (.k [2,5,6,7,8,52] (.cr 52 r3_6))) (.k [2,5,7] (.rr r3_7 (.k [2,7,9,10] (.rr r3_8 (.k [2,9,10,11,12] (.s (.rr r3_9 (.k [2,9,10,11,12,80] (.cr 80 r3_10))) (.k [2,9,11] (.rr r3_11 .ret)))))))))))))))))
def a3 : AFunc := ⟨95,c3,[.tmp 4]⟩

def r4_0 : Rg :=[.bx 3 0,
 .bx 4 1,
 .bx 5 2,
 .mb 6 false]
def r4_1 : Rg :=[.c 11 8 [],
 .no 12 11,
 .m 13 12,
 .laf 14 2 3 13,
 .laf 15 2 4 13,
 .laf 16 2 5 13,
 .nf 17 (.bsl 2 3 [.nsl,(.i .i64 0)] [(0,(.t 14)),(1,(.t 15)),(2,(.t 16))]) 13,
 .cf 18 9 [(.t 17)] 13,
 .nof 19 18 13,
 .oo 20 13 19]
def r4_2 : Rg :=[.c 21 8 [],
 .m 6 21]
def r4_3 : Rg :=[.la 23 2 3,
 .la 24 2 4,
 .c 25 11 [(.t 23),(.t 24)],
 .m 22 25,
 .ex 26 0 22,
 .ex 27 1 22,
 .al 7 [.nsl,(.i .i64 0)],
 .st 2 7 26,
 .m 8 27]
def r4_4 : Rg :=[.la 29 2 3,
 .la 30 2 4,
 .c 31 10 [(.t 29),(.t 30)],
 .m 28 31,
 .ex 32 0 28,
 .ex 33 1 28,
 .al 9 [.nsl,(.i .i64 0)],
 .st 2 9 32,
 .m 10 33]
def r4_5 : Rg :=[.m 34 8,
 .bn 35 .neq 34 0,
 .m 36 35,
 .mf 37 10 36,
 .bnf 38 .neq 37 0 36,
 .oo 39 36 38]
def r4_6 : Rg :=[.m 40 8,
 .bn 41 .eql 40 0,
 .m 42 41,
 .mf 43 8 42,
 .bnf 44 .eql 43 20 42,
 .oo 45 42 44,
 .m 46 45,
 .mt 47 10 46,
 .bnt 48 .eql 47 0 46,
 .mt 49 48 46,
 .mf 50 10 49,
 .bnf 51 .eql 50 20 49,
 .oot 52 49 51 46,
 .an 53 46 52,
 .m 6 53]
def r4_7 : Rg :=[.la 54 2 7,
 .c 55 13 [(.t 54)],
 .no 56 55,
 .m 57 56,
 .laf 58 2 9 57,
 .cf 59 13 [(.t 58)] 57,
 .nof 60 59 57,
 .oo 61 57 60,
 .m 62 61,
 .laf 63 2 3 62,
 .laf 64 2 7 62,
 .cf 65 14 [(.t 63),(.t 64)] 62,
 .nof 66 65 62,
 .oo 67 62 66,
 .m 68 67,
 .laf 69 2 4 68,
 .laf 70 2 7 68,
 .cf 71 14 [(.t 69),(.t 70)] 68,
 .nof 72 71 68,
 .oo 73 68 72,
 .m 74 73,
 .laf 75 2 9 74,
 .laf 76 2 3 74,
 .cf 77 14 [(.t 75),(.t 76)] 74,
 .nof 78 77 74,
 .oo 79 74 78,
 .m 80 79,
 .laf 81 2 9 80,
 .laf 82 2 4 80,
 .cf 83 14 [(.t 81),(.t 82)] 80,
 .nof 84 83 80,
 .oo 85 80 84]
def r4_8 : Rg :=[.mb 6 false]
def r4_9 : Rg :=[.la 86 2 3,
 .la 87 2 5,
 .c 88 14 [(.t 86),(.t 87)],
 .m 89 88,
 .lat 90 2 4 89,
 .lat 91 2 5 89,
 .ct 92 14 [(.t 90),(.t 91)] 89,
 .an 93 89 92,
 .m 94 93,
 .lat 95 2 7 94,
 .lat 96 2 5 94,
 .ct 97 14 [(.t 95),(.t 96)] 94,
 .not 98 97 94,
 .an 99 94 98]
def r4_10 : Rg :=[.mb 6 false]
def r4_11 : Rg :=[.la 100 2 5,
 .la 101 2 3,
 .c 102 14 [(.t 100),(.t 101)],
 .m 103 102,
 .lat 104 2 5 103,
 .lat 105 2 4 103,
 .ct 106 14 [(.t 104),(.t 105)] 103,
 .an 107 103 106,
 .no 108 107,
 .m 109 108,
 .laf 110 2 5 109,
 .laf 111 2 9 109,
 .cf 112 14 [(.t 110),(.t 111)] 109,
 .oo 113 109 112,
 .m 6 113]
def c4 : ACode := (.rr r4_0 (.k [3,4,5] (.s (.rr r4_1 (.k [3,4,5,20] (.cr 20 r4_2))) (.k [3,4,5] (.rr r4_3 (.k [3,4,5,7,8] (.rr r4_4 (.k [3,4,5,7,8,9,10] (.s (.rr r4_5 (.k [3,4,5,7,8,9,10,39] (.cr 39 r4_6))) (.k [3,4,5,7,9] (.s (.rr r4_7 (.k [3,4,5,7,9,85] (.cr 85 r4_8))) (.k [3,4,5,7,9] (.s (.rr r4_9 (.k [3,4,5,9,99] (.cr 99 r4_10))) (.k [3,4,5,9] (.rr r4_11 .ret)))))))))))))))
def a4 : AFunc := ⟨114,c4,[.tmp 6]⟩

def r5_0 : Rg :=[.bx 2 0,
 .bx 3 1,
 .mb 4 false]
def r5_1 : Rg :=[.c 17 8 [],
 .no 18 17,
 .m 19 18,
 .laf 20 2 2 19,
 .laf 21 2 3 19,
 .nf 22 (.bsl 2 2 [.nsl,(.i .i64 0)] [(0,(.t 20)),(1,(.t 21))]) 19,
 .cf 23 9 [(.t 22)] 19,
 .nof 24 23 19,
 .oo 25 19 24,
 .m 26 25,
 .faf 27 0 2 26,
 .l1f 28 27 26,
 .lnf 29 28 26,
 .bnf 30 .gtr 29 15 26,
 .oo 31 26 30,
 .m 32 31,
 .faf 33 0 3 32,
 .l1f 34 33 32,
 .lnf 35 34 32,
 .bnf 36 .gtr 35 15 32,
 .oo 37 32 36]
def r5_2 : Rg :=[.c 38 8 [],
 .m 4 38]
def r5_3 : Rg :=[.la 40 2 2,
 .la 41 2 3,
 .c 42 11 [(.t 40),(.t 41)],
 .m 39 42,
 .ex 43 0 39,
 .ex 44 1 39,
 .al 5 [.nsl,(.i .i64 0)],
 .st 2 5 43,
 .m 6 44]
def r5_4 : Rg :=[.la 46 2 3,
 .la 47 2 2,
 .c 48 11 [(.t 46),(.t 47)],
 .m 45 48,
 .ex 49 0 45,
 .ex 50 1 45,
 .al 7 [.nsl,(.i .i64 0)],
 .st 2 7 49,
 .m 8 50]
def r5_5 : Rg :=[.la 52 2 2,
 .la 53 2 3,
 .c 54 10 [(.t 52),(.t 53)],
 .m 51 54,
 .ex 55 0 51,
 .ex 56 1 51,
 .al 9 [.nsl,(.i .i64 0)],
 .st 2 9 55,
 .m 10 56]
def r5_6 : Rg :=[.la 58 2 3,
 .la 59 2 2,
 .c 60 10 [(.t 58),(.t 59)],
 .m 57 60,
 .ex 61 0 57,
 .ex 62 1 57,
 .al 11 [.nsl,(.i .i64 0)],
 .st 2 11 61,
 .m 12 62]
def r5_7 : Rg :=[.m 63 6,
 .m 64 8,
 .bi 65 .neq 63 64,
 .m 66 65,
 .mf 67 10 66,
 .mf 68 12 66,
 .bif 69 .neq 67 68 66,
 .oo 70 66 69,
 .m 71 70,
 .mf 72 6 71,
 .bnf 73 .neq 72 0 71,
 .oo 74 71 73,
 .m 75 74,
 .mf 76 10 75,
 .bnf 77 .neq 76 0 75,
 .oo 78 75 77]
def r5_8 : Rg :=[.m 79 6,
 .m 80 8,
 .bi 81 .eql 79 80,
 .m 82 81,
 .mt 83 10 82,
 .mt 84 12 82,
 .bit 85 .eql 83 84 82,
 .an 86 82 85,
 .m 4 86]
def r5_9 : Rg :=[.la 87 2 5,
 .la 88 2 7,
 .c 89 12 [(.t 87),(.t 88)],
 .no 90 89,
 .m 91 90,
 .laf 92 2 9 91,
 .laf 93 2 11 91,
 .cf 94 12 [(.t 92),(.t 93)] 91,
 .nof 95 94 91,
 .oo 96 91 95]
def r5_10 : Rg :=[.mb 4 false]
def r5_11 : Rg :=[.la 97 2 2,
 .la 98 2 3,
 .c 99 14 [(.t 97),(.t 98)],
 .m 100 99,
 .lat 101 2 5 100,
 .lat 102 2 3 100,
 .ct 103 12 [(.t 101),(.t 102)] 100,
 .not 104 103 100,
 .mt 105 104 100,
 .laf 106 2 9 105,
 .laf 107 2 2 105,
 .cf 108 12 [(.t 106),(.t 107)] 105,
 .nof 109 108 105,
 .oot 110 105 109 100,
 .an 111 100 110]
def r5_12 : Rg :=[.mb 4 false]
def r5_13 : Rg :=[.la 113 2 2,
 .la 114 2 2,
 .c 115 11 [(.t 113),(.t 114)],
 .m 112 115,
 .ex 116 0 112,
 .ex 117 1 112,
 .al 13 [.nsl,(.i .i64 0)],
 .st 2 13 116,
 .m 14 117]
def r5_14 : Rg :=[.la 119 2 2,
 .la 120 2 2,
 .c 121 10 [(.t 119),(.t 120)],
 .m 118 121,
 .ex 122 0 118,
 .ex 123 1 118,
 .al 15 [.nsl,(.i .i64 0)],
 .st 2 15 122,
 .m 16 123]
def r5_15 : Rg :=[.m 124 14,
 .bn 125 .eql 124 0,
 .m 126 125,
 .mt 127 16 126,
 .bnt 128 .eql 127 0 126,
 .an 129 126 128,
 .m 130 129,
 .lat 131 2 13 130,
 .lat 132 2 2 130,
 .ct 133 12 [(.t 131),(.t 132)] 130,
 .an 134 130 133,
 .m 135 134,
 .lat 136 2 15 135,
 .lat 137 2 2 135,
 .ct 138 12 [(.t 136),(.t 137)] 135,
 .an 139 135 138,
 .m 4 139]
def c5 : ACode := (.rr r5_0 (.k [2,3] (.s (.rr r5_1 (.k [2,3,37] (.cr 37 r5_2))) (.k [2,3] (.rr r5_3 (.k [2,3,5,6] (.rr r5_4 (.k [2,3,5,6,7,8] (.rr r5_5 (.k [2,3,5,6,7,8,9,10] (.rr r5_6 (.k [2,3,5,6,7,8,9,10,11,12] (.s (.rr r5_7 (.k [2,3,5,6,7,8,9,10,11,12,78] (.cr 78 r5_8))) (.k [2,3,5,7,9,11] (.s (.rr r5_9 (.k [2,3,5,9,96] (.cr 96 r5_10))) (.k [2,3,5,9] (.s (.rr r5_11 (.k [2,111] (.cr 111 r5_12))) (.k [2] (.rr r5_13 (.k [2,13,14] (.rr r5_14 (.k [2,13,14,15,16] (.rr r5_15 .ret)))))))))))))))))))))))
def a5 : AFunc := ⟨140,c5,[.tmp 4]⟩

def r6_0 : Rg :=[.bx 4 0,
 .bx 5 1,
 .bx 6 2,
 .mb 8 false]
def r6_1 : Rg :=[.c 13 8 [],
 .no 14 13,
 .m 15 14,
 .laf 16 2 4 15,
 .laf 17 2 5 15,
 .laf 18 2 6 15,
 .nf 19 (.bsl 2 3 [.nsl,(.i .i64 0)] [(0,(.t 16)),(1,(.t 17)),(2,(.t 18))]) 15,
 .cf 20 9 [(.t 19)] 15,
 .nof 21 20 15,
 .oo 22 15 21,
 .m 23 22,
 .faf 24 0 4 23,
 .l1f 25 24 23,
 .lnf 26 25 23,
 .bnf 27 .gtr 26 5 23,
 .oo 28 23 27,
 .m 29 28,
 .faf 30 0 5 29,
 .l1f 31 30 29,
 .lnf 32 31 29,
 .bnf 33 .gtr 32 5 29,
 .oo 34 29 33,
 .m 35 34,
 .faf 36 0 6 35,
 .l1f 37 36 35,
 .lnf 38 37 35,
 .bnf 39 .gtr 38 5 35,
 .oo 40 35 39]
def r6_2 : Rg :=[.c 41 8 [],
 .m 8 41]
def r6_3 : Rg :=[.la 43 2 4,
 .la 44 2 5,
 .la 45 2 6,
 .n 46 (.bsl 2 3 [.nsl,(.i .i64 0)] [(0,(.t 43)),(1,(.t 44)),(2,(.t 45))]),
 .m 47 3,
 .c 48 15 [(.t 46),(.t 47)],
 .m 42 48,
 .ex 49 0 42,
 .ex 50 1 42,
 .al 9 [.nsl,(.i .i64 0)],
 .st 2 9 49,
 .m 10 50]
def r6_4 : Rg :=[.la 52 2 6,
 .la 53 2 4,
 .la 54 2 5,
 .n 55 (.bsl 2 3 [.nsl,(.i .i64 0)] [(0,(.t 52)),(1,(.t 53)),(2,(.t 54))]),
 .m 56 3,
 .c 57 15 [(.t 55),(.t 56)],
 .m 51 57,
 .ex 58 0 51,
 .ex 59 1 51,
 .al 11 [.nsl,(.i .i64 0)],
 .st 2 11 58,
 .m 12 59]
def r6_5 : Rg :=[.m 60 10,
 .bn 61 .neq 60 0,
 .m 62 61,
 .mf 63 12 62,
 .bnf 64 .neq 63 0 62,
 .oo 65 62 64]
def r6_6 : Rg :=[.m 66 10,
 .bn 67 .eql 66 20,
 .m 68 67,
 .mf 69 12 68,
 .bnf 70 .eql 69 20 68,
 .oo 71 68 70,
 .m 8 71]
def r6_7 : Rg :=[.la 72 2 9,
 .la 73 2 11,
 .c 74 12 [(.t 72),(.t 73)],
 .m 8 74]
def c6 : ACode := (.rr r6_0 (.k [3,4,5,6] (.s (.rr r6_1 (.k [3,4,5,6,40] (.cr 40 r6_2))) (.k [3,4,5,6] (.rr r6_3 (.k [3,4,5,6,9,10] (.rr r6_4 (.k [9,10,11,12] (.s (.rr r6_5 (.k [9,10,11,12,65] (.cr 65 r6_6))) (.k [9,11] (.rr r6_7 .ret)))))))))))
def a6 : AFunc := ⟨75,c6,[.tmp 8]⟩

def r7_0 : Rg :=[.bx 4 1,
 .mb 6 false]
def r7_1 : Rg :=[.c 14 8 [],
 .no 15 14,
 .m 16 15,
 .mf 17 0 16,
 .lnf 18 17 16,
 .bnf 19 .gtr 18 4 16,
 .oo 20 16 19,
 .m 21 20,
 .laf 22 2 4 21,
 .nf 23 (.bsl 2 1 [.nsl,(.i .i64 0)] [(0,(.t 22))]) 21,
 .cf 24 9 [(.t 23)] 21,
 .nof 25 24 21,
 .oo 26 21 25]
def r7_2 : Rg :=[.c 27 8 [],
 .m 6 27]
def r7_3 : Rg :=[.m 28 0,
 .ln 29 28,
 .mi 30 0]
def r7_4 : Rg :=[.bi 31 .lss 30 29]
def r7_5 : Rg :=[.ix 32 2 28 30,
 .la 33 2 32,
 .al 8 [.nsl,(.i .i64 0)],
 .st 2 8 33]
def r7_6 : Rg :=[.fa 34 0 8,
 .l1 35 34,
 .ln 36 35,
 .bn 37 .gtr 36 8,
 .m 38 37,
 .laf 39 2 8 38,
 .cf 40 16 [(.t 39)] 38,
 .nof 41 40 38,
 .oo 42 38 41]
def r7_7 : Rg :=[.mb 6 true]
def r7_8 : Rg :=[.bn 43 .add 30 1,
 .m 30 43]
def l7_0 : ACode := (.k [0,2,4,28,29,30] (.rr r7_4 (.k [0,2,4,28,29,30,31] (.s (.cc 31 .skip (.exit 0)) (.k [0,2,4,28,29,30] (.s (.block 1 (.rr r7_5 (.k [0,2,4,8,28,29,30] (.rr r7_6 (.k [0,2,4,28,29,30,42] (.cr 42 r7_7)))))) (.k [0,2,4,28,29,30] (.rg r7_8))))))))
def r7_9 : Rg :=[.m 45 0,
 .m 46 2,
 .c 47 15 [(.t 45),(.t 46)],
 .m 44 47,
 .ex 48 0 44,
 .ex 49 1 44,
 .al 9 [.nsl,(.i .i64 0)],
 .st 2 9 48,
 .m 10 49]
def r7_10 : Rg :=[.m 50 10,
 .bn 51 .eql 50 20]
def r7_11 : Rg :=[.fa 52 0 9,
 .l1 53 52,
 .ln 54 53,
 .bn 55 .eql 54 0,
 .m 6 55]
def r7_12 : Rg :=[.m 56 0,
 .c 57 9 [(.t 56)],
 .no 58 57]
def r7_13 : Rg :=[.m 59 10,
 .bn 60 .eql 59 14,
 .m 61 60,
 .fat 62 0 9 61,
 .l1t 63 62 61,
 .lnt 64 63 61,
 .bnt 65 .eql 64 0 61,
 .an 66 61 65,
 .m 6 66]
def r7_14 : Rg :=[.mb 11 true]
def r7_15 : Rg :=[.m 67 0,
 .ln 68 67,
 .mi 69 0]
def r7_16 : Rg :=[.bi 70 .lss 69 68]
def r7_17 : Rg :=[.ix 71 2 67 69,
 .la 72 2 71,
 .al 13 [.nsl,(.i .i64 0)],
 .st 2 13 72]
def r7_18 : Rg :=[.m 73 2,
 .m 74 73,
 .lat 75 2 13 74,
 .lat 76 2 9 74,
 .ct 77 14 [(.t 75),(.t 76)] 74,
 .not 78 77 74,
 .an 79 74 78,
 .m 80 79,
 .mf 81 2 80,
 .nof 82 81 80,
 .mf 83 82 80,
 .lat 84 2 9 83,
 .lat 85 2 13 83,
 .ct 86 14 [(.t 84),(.t 85)] 83,
 .not 87 86 83,
 .anf 88 83 87 80,
 .oo 89 80 88]
def r7_19 : Rg :=[.mb 6 false]
def r7_20 : Rg :=[.m 90 11,
 .m 91 90,
 .mt 92 2 91,
 .mt 93 92 91,
 .lat 94 2 13 93,
 .lat 95 2 4 93,
 .ct 96 14 [(.t 94),(.t 95)] 93,
 .ant 97 93 96 91,
 .mt 98 97 91,
 .mf 99 2 98,
 .nof 100 99 98,
 .mf 101 100 98,
 .lat 102 2 4 101,
 .lat 103 2 13 101,
 .ct 104 14 [(.t 102),(.t 103)] 101,
 .anf 105 101 104 98,
 .oot 106 98 105 91,
 .an 107 91 106,
 .m 11 107]
def r7_21 : Rg :=[.bn 108 .add 69 1,
 .m 69 108]
def l7_1 : ACode := (.k [2,4,9,10,11,67,68,69] (.rr r7_16 (.k [2,4,9,10,11,67,68,69,70] (.s (.cc 70 .skip (.exit 2)) (.k [2,4,9,10,11,67,68,69] (.s (.block 3 (.rr r7_17 (.k [2,4,9,10,11,13,67,68,69] (.s (.rr r7_18 (.k [2,4,9,10,11,13,67,68,69,89] (.cr 89 r7_19))) (.k [2,4,9,10,11,13,67,68,69] (.rg r7_20)))))) (.k [2,4,9,10,11,67,68,69] (.rg r7_21))))))))
def r7_22 : Rg :=[.m 109 10,
 .bn 110 .eql 109 0,
 .m 111 110,
 .mt 112 11 111,
 .not 113 112 111,
 .mt 114 113 111,
 .mf 115 2 114,
 .mf 116 115 114,
 .lat 117 2 9 116,
 .lat 118 2 4 116,
 .ct 119 14 [(.t 117),(.t 118)] 116,
 .anf 120 116 119 114,
 .oot 121 114 120 111,
 .mt 122 121 111,
 .mf 123 2 122,
 .nof 124 123 122,
 .mf 125 124 122,
 .lat 126 2 4 125,
 .lat 127 2 9 125,
 .ct 128 14 [(.t 126),(.t 127)] 125,
 .anf 129 125 128 122,
 .oot 130 122 129 111,
 .an 131 111 130,
 .m 6 131]
def c7 : ACode := (.rr r7_0 (.k [0,2,4] (.s (.rr r7_1 (.k [0,2,4,26] (.cr 26 r7_2))) (.k [0,2,4] (.s (.rr r7_3 (.k [0,2,4,28,29,30] (.block 0 (.loop l7_0)))) (.k [0,2,4] (.rr r7_9 (.k [0,2,4,9,10] (.s (.rr r7_10 (.k [0,2,4,9,10,51] (.cr 51 r7_11))) (.k [0,2,4,9,10] (.s (.rr r7_12 (.k [0,2,4,9,10,58] (.cr 58 r7_13))) (.k [0,2,4,9,10] (.rr r7_14 (.k [0,2,4,9,10,11] (.s (.rr r7_15 (.k [2,4,9,10,11,67,68,69] (.block 2 (.loop l7_1)))) (.k [2,4,9,10,11] (.rr r7_22 .ret)))))))))))))))))
def a7 : AFunc := ⟨132,c7,[.tmp 6]⟩

def r8_0 : Rg :=[.mb 0 false]
def r8_1 : Rg :=[.c 6 17 [(.c (.s [123,97,58,32,105,110,116,44,32,98,58,32,105,110,116,125]))],
 .c 7 17 [(.c (.s [123,97,58,32,115,116,114,125]))],
 .c 8 11 [(.t 6),(.t 7)],
 .m 5 8,
 .ex 9 0 5,
 .ex 10 1 5,
 .al 1 [.nsl,(.i .i64 0)],
 .st 2 1 9,
 .m 2 10]
def r8_2 : Rg :=[.c 12 17 [(.c (.s [91,35,97,32,105,110,116,32,124,32,35,98,32,105,110,116,93]))],
 .c 13 17 [(.c (.s [91,35,98,32,97,110,121,93]))],
 .c 14 10 [(.t 12),(.t 13)],
 .m 11 14,
 .ex 15 0 11,
 .ex 16 1 11,
 .al 3 [.nsl,(.i .i64 0)],
 .st 2 3 15,
 .m 4 16]
def d8_3 : List DItem :=[⟨0,.m 17 2,[2],[]⟩,
 ⟨1,.bn 18 .eql 17 0,[17],[]⟩,
 ⟨2,.m 19 18,[18],[]⟩,
 ⟨3,.mt 20 4 19,[4,19],[]⟩,
 ⟨4,.bnt 21 .eql 20 0 19,[20,19],[]⟩,
 ⟨5,.an 22 19 21,[19,21],[]⟩,
 ⟨6,.m 23 22,[22],[]⟩,
 ⟨7,.lat 24 2 1 23,[1,23],[]⟩,
 ⟨8,.ct 25 17 [(.c (.s [123,97,58,32,97,110,121,125]))] 23,[23],[7]⟩,
 ⟨9,.ct 26 18 [(.t 24),(.t 25)] 23,[24,25,23],[]⟩,
 ⟨10,.an 27 23 26,[23,26],[]⟩,
 ⟨11,.m 28 27,[27],[]⟩,
 ⟨12,.lat 29 2 3 28,[3,28],[]⟩,
 ⟨13,.ct 30 17 [(.c (.s [91,35,98,32,105,110,116,93]))] 28,[28],[12]⟩,
 ⟨14,.ct 31 18 [(.t 29),(.t 30)] 28,[29,30,28],[]⟩,
 ⟨15,.an 32 28 31,[28,31],[]⟩,
 ⟨16,.m 0 32,[32],[]⟩]
def c8 : ACode := (.rr r8_0 (.k [] (.rr r8_1 (.k [1,2] (.rr r8_2 (.k [1,2,3,4] (.s (.draw d8_3) .ret)))))))
def a8 : AFunc := ⟨33,c8,[.tmp 0]⟩

def r9_0 : Rg :=[.mb 2 false]
def r9_1 : Rg :=[.m 5 0,
 .ln 6 5,
 .mi 7 0]
def r9_2 : Rg :=[.bi 8 .lss 7 6]
def r9_3 : Rg :=[.ix 9 2 5 7,
 .la 10 2 9,
 .al 4 [.nsl,(.i .i64 0)],
 .st 2 4 10]
def r9_4 : Rg :=[.la 11 2 4,
 .c 12 16 [(.t 11)],
 .no 13 12,
 .m 14 13,
 .laf 15 2 4 14,
 .cf 16 13 [(.t 15)] 14,
 .nof 17 16 14,
 .oo 18 14 17]
def r9_5 : Rg :=[.mb 2 false]
def r9_6 : Rg :=[.bn 19 .add 7 1,
 .m 7 19]
def l9_0 : ACode := (.k [5,6,7] (.rr r9_2 (.k [5,6,7,8] (.s (.cc 8 .skip (.exit 0)) (.k [5,6,7] (.s (.block 1 (.rr r9_3 (.k [4,5,6,7] (.rr r9_4 (.k [5,6,7,18] (.cr 18 r9_5)))))) (.k [5,6,7] (.rg r9_6))))))))
def r9_7 : Rg :=[.mb 2 true]
def c9 : ACode := (.rr r9_0 (.k [0] (.s (.rr r9_1 (.k [5,6,7] (.block 0 (.loop l9_0)))) (.k [] (.rr r9_7 .ret)))))
def a9 : AFunc := ⟨20,c9,[.tmp 2]⟩

def r10_0 : Rg :=[.bx 2 0,
 .bx 3 1,
 .al 4 [.nsl,(.i .i64 0)],
 .mi 5 0]
def r10_1 : Rg :=[.la 6 2 2,
 .la 7 2 3,
 .c 8 19 [(.t 6),(.t 7),(.c (.b false))],
 .ex 9 0 8,
 .ex 10 1 8,
 .st 2 4 9,
 .m 5 10]
def c10 : ACode := (.rr r10_0 (.k [2,3,4] (.rr r10_1 .ret)))
def a10 : AFunc := ⟨11,c10,[.cell 4 2 true,.tmp 5]⟩

def r11_0 : Rg :=[.bx 2 0,
 .bx 3 1,
 .al 4 [.nsl,(.i .i64 0)],
 .mi 5 0]
def r11_1 : Rg :=[.la 6 2 2,
 .la 7 2 3,
 .c 8 19 [(.t 6),(.t 7),(.c (.b true))],
 .ex 9 0 8,
 .ex 10 1 8,
 .st 2 4 9,
 .m 5 10]
def c11 : ACode := (.rr r11_0 (.k [2,3,4] (.rr r11_1 .ret)))
def a11 : AFunc := ⟨11,c11,[.cell 4 2 true,.tmp 5]⟩

def r12_0 : Rg :=[.bx 2 0,
 .bx 3 1,
 .mb 4 false]
def r12_1 : Rg :=[.la 5 2 2,
 .la 6 2 3,
 .c 7 14 [(.t 5),(.t 6)],
 .m 8 7,
 .lat 9 2 3 8,
 .lat 10 2 2 8,
 .ct 11 14 [(.t 9),(.t 10)] 8,
 .an 12 8 11,
 .m 4 12]
def c12 : ACode := (.rr r12_0 (.k [2,3] (.rr r12_1 .ret)))
def a12 : AFunc := ⟨13,c12,[.tmp 4]⟩

def r13_0 : Rg :=[.bx 1 0,
 .mb 2 false]
def r13_1 : Rg :=[.fa 10 0 1,
 .l1 11 10,
 .ln 12 11,
 .bn 13 .eql 12 0,
 .m 14 13,
 .faf 15 0 1 14,
 .l1f 16 15 14,
 .lnf 17 16 14,
 .bnf 18 .gtr 17 4096 14,
 .oo 19 14 18,
 .m 20 19,
 .faf 21 1 1 20,
 .l1f 22 21 20,
 .bnf 23 .lss 22 0 20,
 .oo 24 20 23,
 .m 25 24,
 .faf 26 1 1 25,
 .l1f 27 26 25,
 .faf 28 0 1 25,
 .l1f 29 28 25,
 .lnf 30 29 25,
 .bif 31 .geq 27 30 25,
 .oo 32 25 31]
def r13_2 : Rg :=[.mb 2 false]
def r13_3 : Rg :=[.fa 33 0 1,
 .l1 34 33,
 .ln 35 34,
 .mi 36 0]
def r13_4 : Rg :=[.bi 37 .lss 36 35]
def r13_5 : Rg :=[.ix 38 4 34 36,
 .la 39 4 38,
 .al 4 [(.i .i64 0),.nsl,.nsl,(.b false)],
 .st 4 4 39]
def r13_6 : Rg :=[.fa 40 2 4,
 .l1 41 40,
 .ln 42 41,
 .mi 43 0]
def r13_7 : Rg :=[.bi 44 .lss 43 42]
def r13_8 : Rg :=[.m 45 43,
 .ix 46 1 41 43,
 .l1 47 46,
 .m 5 45,
 .m 6 47]
def r13_9 : Rg :=[.m 48 6,
 .bn 49 .lss 48 0,
 .m 50 49,
 .mf 51 6 50,
 .faf 52 0 1 50,
 .l1f 53 52 50,
 .lnf 54 53 50,
 .bif 55 .geq 51 54 50,
 .oo 56 50 55,
 .m 57 56,
 .faf 58 1 4 57,
 .l1f 59 58 57,
 .lnf 60 59 57,
 .bnf 61 .gtr 60 0 57,
 .mf 62 61 57,
 .mt 63 5 62,
 .fat 64 1 4 62,
 .l1t 65 64 62,
 .lnt 66 65 62,
 .bit 67 .geq 63 66 62,
 .anf 68 62 67 57,
 .oo 69 57 68]
def r13_10 : Rg :=[.mb 2 false]
def r13_11 : Rg :=[.bn 70 .add 43 1,
 .m 43 70]
def l13_0 : ACode := (.k [1,4,34,35,36,41,42,43] (.rr r13_7 (.k [1,4,34,35,36,41,42,43,44] (.s (.cc 44 .skip (.exit 2)) (.k [1,4,34,35,36,41,42,43] (.s (.block 3 (.rr r13_8 (.k [1,4,5,6,34,35,36,41,42,43] (.rr r13_9 (.k [1,4,34,35,36,41,42,43,69] (.cr 69 r13_10)))))) (.k [1,4,34,35,36,41,42,43] (.rg r13_11))))))))
def r13_12 : Rg :=[.fa 71 1 4,
 .l1 72 71,
 .ln 73 72,
 .mi 74 0]
def r13_13 : Rg :=[.bi 75 .lss 74 73]
def r13_14 : Rg :=[.m 76 74,
 .m 7 76]
def d13_15 : List DItem :=[⟨0,.m 77 7,[7],[]⟩,
 ⟨1,.bn 78 .gtr 77 0,[77],[]⟩,
 ⟨2,.m 79 78,[78],[]⟩,
 ⟨3,.fat 80 1 4 79,[4,79],[]⟩,
 ⟨4,.l1t 81 80 79,[80,79],[]⟩,
 ⟨5,.mt 82 7 79,[7,79],[]⟩,
 ⟨6,.bnt 83 .sub 82 1 79,[82,79],[]⟩,
 ⟨7,.ixt 84 1 81 83 79,[81,83,79],[]⟩,
 ⟨8,.l1t 85 84 79,[84,79],[]⟩,
 ⟨9,.fat 86 1 4 79,[4,79],[]⟩,
 ⟨10,.l1t 87 86 79,[86,79],[]⟩,
 ⟨11,.mt 88 7 79,[7,79],[]⟩,
 ⟨12,.ixt 89 1 87 88 79,[87,88,79],[]⟩,
 ⟨13,.l1t 90 89 79,[89,79],[]⟩,
 ⟨14,.bit 91 .geq 85 90 79,[85,90,79],[]⟩,
 ⟨15,.an 92 79 91,[79,91],[]⟩]
def r13_16 : Rg :=[.mb 2 false]
def r13_17 : Rg :=[.fa 93 0 4,
 .l1 94 93,
 .bn 95 .eql 94 8,
 .m 96 95,
 .fat 97 1 4 96,
 .l1t 98 97 96,
 .mt 99 7 96,
 .ixt 100 1 98 99 96,
 .l1t 101 100 96,
 .ct 102 20 [(.t 101)] 96,
 .not 103 102 96,
 .an 104 96 103,
 .m 105 104,
 .faf 106 0 4 105,
 .l1f 107 106 105,
 .bnf 108 .eql 107 9 105,
 .mf 109 108 105,
 .fat 110 1 4 109,
 .l1t 111 110 109,
 .mt 112 7 109,
 .ixt 113 1 111 112 109,
 .l1t 114 113 109,
 .ct 115 21 [(.t 114)] 109,
 .not 116 115 109,
 .anf 117 109 116 105,
 .oo 118 105 117]
def r13_18 : Rg :=[.mb 2 false]
def r13_19 : Rg :=[.bn 119 .add 74 1,
 .m 74 119]
def l13_1 : ACode := (.k [1,4,34,35,36,73,74] (.rr r13_13 (.k [1,4,34,35,36,73,74,75] (.s (.cc 75 .skip (.exit 4)) (.k [1,4,34,35,36,73,74] (.s (.block 5 (.rr r13_14 (.k [1,4,7,34,35,36,73,74] (.s (.s (.draw d13_15) (.k [1,4,7,34,35,36,73,74,92] (.cr 92 r13_16))) (.k [1,4,7,34,35,36,73,74] (.rr r13_17 (.k [1,4,34,35,36,73,74,118] (.cr 118 r13_18)))))))) (.k [1,4,34,35,36,73,74] (.rg r13_19))))))))
def r13_20 : Rg :=[.mi 8 0,
 .mi 9 0]
def r13_21 : Rg :=[.fa 121 0 4,
 .l1 122 121,
 .bn 123 .eql 122 7,
 .m 120 123]
def r13_22 : Rg :=[.mi 8 2]
def r13_23 : Rg :=[.fa 125 0 4,
 .l1 126 125,
 .bn 127 .eql 126 8,
 .m 128 127,
 .faf 129 0 4 128,
 .l1f 130 129 128,
 .bnf 131 .eql 130 9 128,
 .oo 132 128 131,
 .m 124 132]
def d13_24 : List DItem :=[⟨0,.fa 133 1 4,[4],[]⟩,
 ⟨1,.l1 134 133,[133],[]⟩,
 ⟨2,.ln 135 134,[134],[]⟩,
 ⟨3,.fa 136 1 4,[4],[]⟩,
 ⟨4,.l1 137 136,[136],[]⟩,
 ⟨5,.ln 138 137,[137],[]⟩,
 ⟨6,.m 8 135,[135],[]⟩,
 ⟨7,.m 9 138,[138],[]⟩]
def r13_25 : Rg :=[.fa 140 0 4,
 .l1 141 140,
 .bn 142 .lss 141 0,
 .m 143 142,
 .faf 144 0 4 143,
 .l1f 145 144 143,
 .bnf 146 .gtr 145 6 143,
 .oo 147 143 146,
 .m 139 147]
def r13_26 : Rg :=[.mb 2 false]
def r13_27 : Rg :=[.fa 148 2 4,
 .l1 149 148,
 .ln 150 149,
 .m 151 8,
 .bi 152 .neq 150 151,
 .m 153 152,
 .faf 154 1 4 153,
 .l1f 155 154 153,
 .lnf 156 155 153,
 .mf 157 9 153,
 .bif 158 .neq 156 157 153,
 .oo 159 153 158,
 .m 160 159,
 .faf 161 3 4 160,
 .l1f 162 161 160,
 .mf 163 162 160,
 .fat 164 0 4 163,
 .l1t 165 164 163,
 .bnt 166 .neq 165 9 163,
 .anf 167 163 166 160,
 .oo 168 160 167]
def r13_28 : Rg :=[.mb 2 false]
def r13_29 : Rg :=[.bn 169 .add 36 1,
 .m 36 169]
def l13_2 : ACode := (.k [1,34,35,36] (.rr r13_4 (.k [1,34,35,36,37] (.s (.cc 37 .skip (.exit 0)) (.k [1,34,35,36] (.s (.block 1 (.rr r13_5 (.k [1,4,34,35,36] (.s (.rr r13_6 (.k [1,4,34,35,36,41,42,43] (.block 2 (.loop l13_0)))) (.k [1,4,34,35,36] (.s (.rr r13_12 (.k [1,4,34,35,36,73,74] (.block 4 (.loop l13_1)))) (.k [1,4,34,35,36] (.rr r13_20 (.k [1,4,8,9,34,35,36] (.s (.block 6 (.rr r13_21 (.k [1,4,8,9,34,35,36,120] (.cc 120 (.rg r13_22) (.rr r13_23 (.k [1,4,8,9,34,35,36,124] (.cc 124 (.draw d13_24) (.rr r13_25 (.k [1,4,8,9,34,35,36,139] (.cr 139 r13_26)))))))))) (.k [1,4,8,9,34,35,36] (.rr r13_27 (.k [1,34,35,36,168] (.cr 168 r13_28)))))))))))))) (.k [1,34,35,36] (.rg r13_29))))))))
def r13_30 : Rg :=[.mb 2 true]
def c13 : ACode := (.rr r13_0 (.k [1] (.s (.rr r13_1 (.k [1,32] (.cr 32 r13_2))) (.k [1] (.s (.rr r13_3 (.k [1,34,35,36] (.block 0 (.loop l13_2)))) (.k [] (.rr r13_30 .ret)))))))
def a13 : AFunc := ⟨170,c13,[.tmp 2]⟩

def r14_0 : Rg :=[.bx 2 0,
 .bx 3 1,
 .mb 4 false]
def d14_1 : List DItem :=[⟨0,.fa 5 0 2,[2],[]⟩,
 ⟨1,.l1 6 5,[5],[]⟩,
 ⟨2,.fa 7 0 3,[3],[]⟩,
 ⟨3,.l1 8 7,[7],[]⟩,
 ⟨8,.fa 13 1 2,[2],[]⟩,
 ⟨9,.l1 14 13,[13],[]⟩,
 ⟨12,.fa 17 1 3,[3],[]⟩,
 ⟨13,.l1 18 17,[17],[]⟩,
 ⟨4,.c 9 22 [(.t 6),(.t 8)],[6,8],[13,12,9,8]⟩,
 ⟨5,.nk 10 9,[9],[]⟩,
 ⟨6,.fa 11 2 10,[10],[]⟩,
 ⟨7,.l1 12 11,[11],[]⟩,
 ⟨10,.ix 15 1 12 14,[12,14],[]⟩,
 ⟨11,.l1 16 15,[15],[]⟩,
 ⟨14,.ix 19 1 16 18,[16,18],[]⟩,
 ⟨15,.l1 20 19,[19],[]⟩,
 ⟨16,.m 4 20,[20],[]⟩]
def c14 : ACode := (.rr r14_0 (.k [2,3] (.s (.draw d14_1) .ret)))
def a14 : AFunc := ⟨21,c14,[.tmp 4]⟩

def r15_0 : Rg :=[.al 4 [.nsl,(.i .i64 0)],
 .mi 5 0]
def r15_1 : Rg :=[.c 11 23 [(.c (.i .i64 5))],
 .al 6 [.nsl,(.i .i64 0)],
 .st 2 6 11]
def r15_2 : Rg :=[.m 12 1]
def r15_3 : Rg :=[.c 13 23 [(.c (.i .i64 6))],
 .st 2 6 13]
def r15_4 : Rg :=[.m 14 0,
 .ln 15 14,
 .mi 16 0]
def r15_5 : Rg :=[.bi 17 .lss 16 15]
def r15_6 : Rg :=[.ix 18 2 14 16,
 .la 19 2 18,
 .al 8 [.nsl,(.i .i64 0)],
 .st 2 8 19]
def r15_7 : Rg :=[.la 21 2 6,
 .la 22 2 8,
 .m 23 1,
 .c 24 19 [(.t 21),(.t 22),(.t 23)],
 .m 20 24,
 .ex 25 0 20,
 .ex 26 1 20,
 .al 9 [.nsl,(.i .i64 0)],
 .st 2 9 25,
 .m 10 26]
def r15_8 : Rg :=[.m 27 10,
 .bn 28 .neq 27 0]
def r15_9 : Rg :=[.p 29 (.build [.nsl,(.i .i64 0)] []),
 .m 30 10,
 .st 2 4 29,
 .m 5 30]
def r15_10 : Rg :=[.la 31 2 9,
 .st 2 6 31]
def r15_11 : Rg :=[.bn 32 .add 16 1,
 .m 16 32]
def l15_0 : ACode := (.k [1,4,6,14,15,16] (.rr r15_5 (.k [1,4,6,14,15,16,17] (.s (.cc 17 .skip (.exit 0)) (.k [1,4,6,14,15,16] (.s (.block 1 (.rr r15_6 (.k [1,4,6,8,14,15,16] (.rr r15_7 (.k [1,4,6,9,10,14,15,16] (.s (.rr r15_8 (.k [1,4,6,9,10,14,15,16,28] (.cr 28 r15_9))) (.k [1,4,6,9,14,15,16] (.rg r15_10)))))))) (.k [1,4,6,14,15,16] (.rg r15_11))))))))
def r15_12 : Rg :=[.la 33 2 6,
 .st 2 4 33,
 .mi 5 0]
def c15 : ACode := (.rr r15_0 (.k [0,1,4] (.rr r15_1 (.k [0,1,4,6] (.s (.rr r15_2 (.k [0,1,4,6,12] (.cc 12 (.rg r15_3) .skip))) (.k [0,1,4,6] (.s (.rr r15_4 (.k [1,4,6,14,15,16] (.block 0 (.loop l15_0)))) (.k [4,6] (.rr r15_12 .ret)))))))))
def a15 : AFunc := ⟨34,c15,[.cell 4 2 true,.tmp 5]⟩

def r16_0 : Rg :=[.bx 1 0,
 .mb 2 false]
def r16_1 : Rg :=[.fa 7 0 1,
 .l1 8 7,
 .ln 9 8,
 .mi 10 0]
def r16_2 : Rg :=[.bi 11 .lss 10 9]
def r16_3 : Rg :=[.ix 12 4 8 10,
 .la 13 4 12,
 .al 4 [(.i .i64 0),.nsl,.nsl,(.b false)],
 .st 4 4 13]
def r16_4 : Rg :=[.fa 14 2 4,
 .l1 15 14,
 .ln 16 15,
 .bn 17 .gtr 16 20,
 .m 18 17,
 .faf 19 1 4 18,
 .l1f 20 19 18,
 .lnf 21 20 18,
 .bnf 22 .gtr 21 20 18,
 .oo 23 18 22]
def r16_5 : Rg :=[.mb 2 false]
def r16_6 : Rg :=[.fa 24 1 4,
 .l1 25 24,
 .ln 26 25,
 .mi 27 0]
def r16_7 : Rg :=[.bi 28 .lss 27 26]
def r16_8 : Rg :=[.ix 29 1 25 27,
 .l1 30 29,
 .m 6 30]
def r16_9 : Rg :=[.m 31 6,
 .p 32 (.lenS (.t 31)),
 .bn 33 .gtr 32 60]
def r16_10 : Rg :=[.mb 2 false]
def r16_11 : Rg :=[.bn 34 .add 27 1,
 .m 27 34]
def l16_0 : ACode := (.k [1,8,9,10,25,26,27] (.rr r16_7 (.k [1,8,9,10,25,26,27,28] (.s (.cc 28 .skip (.exit 2)) (.k [1,8,9,10,25,26,27] (.s (.block 3 (.rr r16_8 (.k [1,6,8,9,10,25,26,27] (.rr r16_9 (.k [1,8,9,10,25,26,27,33] (.cr 33 r16_10)))))) (.k [1,8,9,10,25,26,27] (.rg r16_11))))))))
def r16_12 : Rg :=[.bn 35 .add 10 1,
 .m 10 35]
def l16_1 : ACode := (.k [1,8,9,10] (.rr r16_2 (.k [1,8,9,10,11] (.s (.cc 11 .skip (.exit 0)) (.k [1,8,9,10] (.s (.block 1 (.rr r16_3 (.k [1,4,8,9,10] (.s (.rr r16_4 (.k [1,4,8,9,10,23] (.cr 23 r16_5))) (.k [1,4,8,9,10] (.rr r16_6 (.k [1,8,9,10,25,26,27] (.block 2 (.loop l16_0))))))))) (.k [1,8,9,10] (.rg r16_12))))))))
def r16_13 : Rg :=[.fa 36 0 1,
 .l1 37 36,
 .ln 38 37,
 .bn 39 .leq 38 25,
 .m 2 39]
def c16 : ACode := (.rr r16_0 (.k [1] (.s (.rr r16_1 (.k [1,8,9,10] (.block 0 (.loop l16_1)))) (.k [1] (.rr r16_13 .ret)))))
def a16 : AFunc := ⟨40,c16,[.tmp 2]⟩

def r17_0 : Rg :=[.al 2 [.nsl,(.i .i64 0)]]
def r17_1 : Rg :=[.m 8 0,
 .e 9 (.stb (.t 8)),
 .c 10 24 [(.t 9)],
 .m 7 10,
 .ex 11 0 7,
 .ex 12 1 7,
 .al 3 [.nsl,.nsl,.nsl],
 .al 4 [(.i .i64 0),(.i .i64 0),(.s [])],
 .st 3 3 11,
 .st 3 4 12]
def r17_2 : Rg :=[.la 14 3 3,
 .fa 15 1 3,
 .l1 16 15,
 .ln 17 16,
 .bn 18 .sub 17 1,
 .c 19 25 [(.t 14),(.t 18)],
 .m 13 19,
 .ex 20 0 13,
 .ex 21 1 13,
 .al 5 [.nsl,(.i .i64 0)],
 .st 2 5 20,
 .m 6 21]
def r17_3 : Rg :=[.la 22 2 5,
 .st 2 2 22]
def c17 : ACode := (.rr r17_0 (.k [0,2] (.rr r17_1 (.k [2,3] (.rr r17_2 (.k [2,5] (.rr r17_3 .ret)))))))
def a17 : AFunc := ⟨23,c17,[.cell 2 2 true]⟩

def r18_0 : Rg :=[.bx 2 0,
 .bx 3 1,
 .mb 4 false]
def r18_1 : Rg :=[.la 10 2 2,
 .c 11 26 [(.t 10)],
 .m 9 11,
 .ex 12 0 9,
 .ex 13 1 9,
 .m 5 12,
 .m 6 13]
def r18_2 : Rg :=[.la 15 2 3,
 .c 16 26 [(.t 15)],
 .m 14 16,
 .ex 17 0 14,
 .ex 18 1 14,
 .m 7 17,
 .m 8 18]
def r18_3 : Rg :=[.m 19 6,
 .bn 20 .eql 19 0,
 .m 21 20,
 .mt 22 8 21,
 .bnt 23 .eql 22 0 21,
 .an 24 21 23,
 .m 25 24,
 .mt 26 5 25,
 .mt 27 7 25,
 .ct 28 27 [(.t 26),(.t 27)] 25,
 .an 29 25 28,
 .m 4 29]
def c18 : ACode := (.rr r18_0 (.k [2,3] (.rr r18_1 (.k [3,5,6] (.rr r18_2 (.k [5,6,7,8] (.rr r18_3 .ret)))))))
def a18 : AFunc := ⟨30,c18,[.tmp 4]⟩

def r19_0 : Rg :=[.bx 3 0,
 .bx 4 1,
 .al 6 [.nsl,(.i .i64 0)],
 .mi 7 0]
def r19_1 : Rg :=[.la 12 2 3,
 .c 13 28 [(.t 12)],
 .bn 14 .neq 13 0,
 .m 15 14,
 .laf 16 2 4 15,
 .cf 17 28 [(.t 16)] 15,
 .bnf 18 .neq 17 0 15,
 .oo 19 15 18]
def r19_2 : Rg :=[.p 20 (.build [.nsl,(.i .i64 0)] []),
 .st 2 6 20,
 .mi 7 14]
def r19_3 : Rg :=[.fa 21 0 3,
 .l1 22 21,
 .fa 23 0 4,
 .l1 24 23,
 .n 25 (.mkmap),
 .p 26 (.build [.nsl,.nsl,.nm,.nsl,.nsl] [(0,1,(.t 22)),(1,1,(.t 24)),(2,1,(.t 25))]),
 .bx 27 26,
 .m 8 27]
def r19_4 : Rg :=[.m 28 8,
 .fa 29 1 3,
 .l1 30 29,
 .fa 31 1 4,
 .l1 32 31,
 .m 33 2,
 .p 34 (.build [(.i .i64 0),(.i .i64 0),(.b false)] [(0,1,(.t 30)),(1,1,(.t 32)),(2,1,(.t 33))]),
 .c 35 29 [(.t 28),(.t 34)]]
def r19_5 : Rg :=[.m 36 8,
 .nk 37 36,
 .fa 38 4 37,
 .l1 39 38,
 .ln 40 39,
 .bn 41 .gtr 40 0]
def r19_6 : Rg :=[.m 42 8,
 .nk 43 42,
 .fa 44 3 43,
 .l1 45 44,
 .ln 46 45,
 .bn 47 .gtr 46 4096]
def r19_7 : Rg :=[.p 48 (.build [.nsl,(.i .i64 0)] []),
 .st 2 6 48,
 .mi 7 20]
def r19_8 : Rg :=[.m 49 8,
 .nk 50 49,
 .fa 51 4 50,
 .l1 52 51,
 .p 53 (.idxA 3 (.t 52) (.c (.i .i64 0))),
 .la 54 3 53,
 .al 9 [(.i .i64 0),(.i .i64 0),(.b false)],
 .st 3 9 54]
def r19_9 : Rg :=[.m 55 8,
 .m 56 8,
 .nk 57 56,
 .fa 58 4 57,
 .l1 59 58,
 .p 60 (.slc 3 (.t 59) (some (.c (.i .i64 1))) none none),
 .nk 61 55,
 .fa 62 4 61,
 .st 1 62 60]
def d19_10 : List DItem :=[⟨0,.m 63 8,[8],[]⟩,
 ⟨1,.nk 64 63,[63],[]⟩,
 ⟨2,.fa 65 2 64,[64],[]⟩,
 ⟨3,.l1 66 65,[65],[]⟩,
 ⟨4,.la 67 3 9,[9],[]⟩,
 ⟨5,.r 68 (.look .part (.i .i64 0) false (.t 66) (.t 67)),[66,67],[]⟩,
 ⟨6,.m 10 68,[68],[]⟩]
def r19_11 : Rg :=[.m 69 8,
 .la 70 3 9,
 .c 71 30 [(.t 69),(.t 70)],
 .al 11 [(.i .i64 0),.nsl,.nsl,(.b false)],
 .st 4 11 71]
def d19_12 : List DItem :=[⟨0,.m 72 8,[8],[]⟩,
 ⟨1,.nk 73 72,[72],[]⟩,
 ⟨2,.fa 74 3 73,[73],[]⟩,
 ⟨3,.l1 75 74,[74],[]⟩,
 ⟨4,.m 76 10,[10],[]⟩,
 ⟨5,.la 77 4 11,[11],[]⟩,
 ⟨6,.ix 78 4 75 76,[75,76],[]⟩,
 ⟨7,.st 4 78 77,[78,77],[]⟩]
def l19_0 : ACode := (.k [6,8] (.s (.rr r19_5 (.k [6,8,41] (.cc 41 .skip (.exit 0)))) (.k [6,8] (.block 1 (.s (.rr r19_6 (.k [6,8,47] (.cr 47 r19_7))) (.k [6,8] (.rr r19_8 (.k [6,8,9] (.rr r19_9 (.k [6,8,9] (.s (.draw d19_10) (.k [6,8,9,10] (.rr r19_11 (.k [6,8,10,11] (.draw d19_12)))))))))))))))
def r19_13 : Rg :=[.m 79 8,
 .nk 80 79,
 .fa 81 3 80,
 .l1 82 81,
 .p 83 (.build [.nsl,(.i .i64 0)] [(0,1,(.t 82))]),
 .c 84 31 [(.t 83)],
 .ex 85 0 84,
 .ex 86 1 84,
 .st 2 6 85,
 .m 7 86]
def c19 : ACode := (.rr r19_0 (.k [2,3,4,6] (.s (.rr r19_1 (.k [2,3,4,6,19] (.cr 19 r19_2))) (.k [2,3,4,6] (.rr r19_3 (.k [2,3,4,6,8] (.rr r19_4 (.k [6,8] (.s (.block 0 (.loop l19_0)) (.k [6,8] (.rr r19_13 .ret)))))))))))
def a19 : AFunc := ⟨87,c19,[.cell 6 2 true,.tmp 7]⟩

def r20_0 : Rg :=[.mb 2 false]
def r20_1 : Rg :=[.m 3 0,
 .c 4 21 [(.t 3)],
 .m 5 4,
 .mt 6 0 5,
 .ct 7 32 [(.t 6)] 5,
 .not 8 7 5,
 .an 9 5 8,
 .m 2 9]
def c20 : ACode := (.rr r20_0 (.k [0] (.rr r20_1 .ret)))
def a20 : AFunc := ⟨10,c20,[.tmp 2]⟩

def r21_0 : Rg :=[.mb 2 false]
def r21_1 : Rg :=[.mi 3 0]
def r21_2 : Rg :=[.m 6 3,
 .m 7 0,
 .p 8 (.lenS (.t 7)),
 .bi 9 .lss 6 8]
def r21_3 : Rg :=[.m 12 0,
 .m 13 3,
 .p 14 (.idxS (.t 12) (.t 13)),
 .m 4 14]
def r21_4 : Rg :=[.m 15 4,
 .p 16 (.bin .geq (.t 15) (.c (.i .u8 97))),
 .m 17 16,
 .mt 18 4 17,
 .pt 19 (.bin .leq (.t 18) (.c (.i .u8 122))) 17,
 .an 20 17 19,
 .m 21 20,
 .mf 22 4 21,
 .pf 23 (.bin .eql (.t 22) (.c (.i .u8 95))) 21,
 .oo 24 21 23,
 .m 5 24]
def r21_5 : Rg :=[.m 25 5,
 .no 26 25,
 .m 27 26,
 .mt 28 3 27,
 .bnt 29 .eql 28 0 27,
 .mt 30 29 27,
 .mf 31 4 30,
 .pf 32 (.bin .lss (.t 31) (.c (.i .u8 48))) 30,
 .oot 33 30 32 27,
 .mt 34 33 27,
 .mf 35 4 34,
 .pf 36 (.bin .gtr (.t 35) (.c (.i .u8 57))) 34,
 .oot 37 34 36 27,
 .an 38 27 37]
def r21_6 : Rg :=[.mb 2 false]
def r21_7 : Rg :=[.m 10 3,
 .bn 11 .add 10 1,
 .m 3 11]
def l21_0 : ACode := (.k [0,3] (.s (.rr r21_2 (.k [0,3,9] (.cc 9 .skip (.exit 0)))) (.k [0,3] (.s (.block 1 (.rr r21_3 (.k [0,3,4] (.rr r21_4 (.k [0,3,4,5] (.rr r21_5 (.k [0,3,38] (.cr 38 r21_6)))))))) (.k [0,3] (.rg r21_7))))))
def r21_8 : Rg :=[.m 39 0,
 .p 40 (.bin .neq (.t 39) (.c (.s []))),
 .m 2 40]
def c21 : ACode := (.rr r21_0 (.k [0] (.s (.rr r21_1 (.k [0,3] (.block 0 (.loop l21_0)))) (.k [0] (.rr r21_8 .ret)))))
def a21 : AFunc := ⟨41,c21,[.tmp 2]⟩

def r22_0 : Rg :=[.p 4 (.mov (.c .np))]
def r22_1 : Rg :=[.m 9 0,
 .m 10 1,
 .m 11 0,
 .ln 12 11,
 .m 13 1,
 .ln 14 13,
 .c 15 33 [(.t 12),(.t 14)],
 .m 16 1,
 .ln 17 16,
 .m 18 0,
 .ln 19 18,
 .c 20 33 [(.t 17),(.t 19)],
 .p 21 (.build [.nsl,.nsl,.nsl,.nsl] [(0,1,(.t 9)),(1,1,(.t 10)),(2,1,(.t 15)),(3,1,(.t 20))]),
 .bx 22 21,
 .m 5 22]
def r22_2 : Rg :=[.mb 6 true]
def r22_3 : Rg :=[.m 23 6]
def r22_4 : Rg :=[.mb 6 false]
def r22_5 : Rg :=[.m 24 0,
 .ln 25 24,
 .mi 26 0]
def r22_6 : Rg :=[.bi 27 .lss 26 25]
def r22_7 : Rg :=[.m 28 26,
 .m 7 28]
def r22_8 : Rg :=[.m 29 1,
 .ln 30 29,
 .mi 31 0]
def r22_9 : Rg :=[.bi 32 .lss 31 30]
def r22_10 : Rg :=[.m 33 31,
 .m 8 33]
def d22_11 : List DItem :=[⟨0,.m 34 5,[5],[]⟩,
 ⟨1,.nk 35 34,[34],[]⟩,
 ⟨2,.fa 36 2 35,[35],[]⟩,
 ⟨3,.l1 37 36,[36],[]⟩,
 ⟨4,.m 38 7,[7],[]⟩,
 ⟨5,.ix 39 1 37 38,[37,38],[]⟩,
 ⟨6,.l1 40 39,[39],[]⟩,
 ⟨7,.m 41 8,[8],[]⟩,
 ⟨8,.ix 42 1 40 41,[40,41],[]⟩,
 ⟨9,.l1 43 42,[42],[]⟩,
 ⟨10,.m 44 43,[43],[]⟩,
 ⟨11,.mt 45 0 44,[0,44],[]⟩,
 ⟨12,.mt 46 1 44,[1,44],[]⟩,
 ⟨13,.mt 47 5 44,[5,44],[]⟩,
 ⟨14,.nkt 48 47 44,[47,44],[]⟩,
 ⟨15,.fat 49 2 48 44,[48,44],[]⟩,
 ⟨16,.l1t 50 49 44,[49,44],[]⟩,
 ⟨17,.mt 51 5 44,[5,44],[]⟩,
 ⟨18,.nkt 52 51 44,[51,44],[]⟩,
 ⟨19,.fat 53 3 52 44,[52,44],[]⟩,
 ⟨20,.l1t 54 53 44,[53,44],[]⟩,
 ⟨21,.mt 55 7 44,[7,44],[]⟩,
 ⟨22,.mt 56 8 44,[8,44],[]⟩,
 ⟨23,.ct 57 34 [(.t 45),(.t 46),(.t 50),(.t 54),(.t 55),(.t 56)] 44,[45,46,50,54,55,56,44],[]⟩,
 ⟨24,.not 58 57 44,[57,44],[]⟩,
 ⟨25,.an 59 44 58,[44,58],[]⟩]
def r22_12 : Rg :=[.m 60 5,
 .nk 61 60,
 .fa 62 2 61,
 .l1 63 62,
 .m 64 7,
 .ix 65 1 63 64,
 .l1 66 65,
 .m 67 8,
 .ix 68 1 66 67,
 .e0 (.store 1 (.t 68) (.c (.b false)))]
def r22_13 : Rg :=[.mb 6 true]
def d22_14 : List DItem :=[⟨0,.m 69 5,[5],[]⟩,
 ⟨1,.nk 70 69,[69],[]⟩,
 ⟨2,.fa 71 3 70,[70],[]⟩,
 ⟨3,.l1 72 71,[71],[]⟩,
 ⟨4,.m 73 8,[8],[]⟩,
 ⟨5,.ix 74 1 72 73,[72,73],[]⟩,
 ⟨6,.l1 75 74,[74],[]⟩,
 ⟨7,.m 76 7,[7],[]⟩,
 ⟨8,.ix 77 1 75 76,[75,76],[]⟩,
 ⟨9,.l1 78 77,[77],[]⟩,
 ⟨10,.m 79 78,[78],[]⟩,
 ⟨11,.mt 80 1 79,[1,79],[]⟩,
 ⟨12,.mt 81 0 79,[0,79],[]⟩,
 ⟨13,.mt 82 5 79,[5,79],[]⟩,
 ⟨14,.nkt 83 82 79,[82,79],[]⟩,
 ⟨15,.fat 84 3 83 79,[83,79],[]⟩,
 ⟨16,.l1t 85 84 79,[84,79],[]⟩,
 ⟨17,.mt 86 5 79,[5,79],[]⟩,
 ⟨18,.nkt 87 86 79,[86,79],[]⟩,
 ⟨19,.fat 88 2 87 79,[87,79],[]⟩,
 ⟨20,.l1t 89 88 79,[88,79],[]⟩,
 ⟨21,.mt 90 8 79,[8,79],[]⟩,
 ⟨22,.mt 91 7 79,[7,79],[]⟩,
 ⟨23,.ct 92 34 [(.t 80),(.t 81),(.t 85),(.t 89),(.t 90),(.t 91)] 79,[80,81,85,89,90,91,79],[]⟩,
 ⟨24,.not 93 92 79,[92,79],[]⟩,
 ⟨25,.an 94 79 93,[79,93],[]⟩]
def r22_15 : Rg :=[.m 95 5,
 .nk 96 95,
 .fa 97 3 96,
 .l1 98 97,
 .m 99 8,
 .ix 100 1 98 99,
 .l1 101 100,
 .m 102 7,
 .ix 103 1 101 102,
 .e0 (.store 1 (.t 103) (.c (.b false)))]
def r22_16 : Rg :=[.mb 6 true]
def r22_17 : Rg :=[.bn 104 .add 31 1,
 .m 31 104]
def l22_0 : ACode := (.k [0,1,5,6,7,25,26,30,31] (.rr r22_9 (.k [0,1,5,6,7,25,26,30,31,32] (.s (.cc 32 .skip (.exit 4)) (.k [0,1,5,6,7,25,26,30,31] (.s (.block 5 (.rr r22_10 (.k [0,1,5,6,7,8,25,26,30,31] (.s (.s (.draw d22_11) (.k [0,1,5,6,7,8,25,26,30,31,59] (.cc 59 (.rr r22_12 (.k [0,1,5,7,8,25,26,30,31] (.rg r22_13))) .skip))) (.k [0,1,5,6,7,8,25,26,30,31] (.s (.draw d22_14) (.k [0,1,5,6,7,8,25,26,30,31,94] (.cc 94 (.rr r22_15 (.k [0,1,5,7,25,26,30,31] (.rg r22_16))) .skip)))))))) (.k [0,1,5,6,7,25,26,30,31] (.rg r22_17))))))))
def r22_18 : Rg :=[.bn 105 .add 26 1,
 .m 26 105]
def l22_1 : ACode := (.k [0,1,5,6,25,26] (.rr r22_6 (.k [0,1,5,6,25,26,27] (.s (.cc 27 .skip (.exit 2)) (.k [0,1,5,6,25,26] (.s (.block 3 (.rr r22_7 (.k [0,1,5,6,7,25,26] (.rr r22_8 (.k [0,1,5,6,7,25,26,30,31] (.block 4 (.loop l22_0))))))) (.k [0,1,5,6,25,26] (.rg r22_18))))))))
def l22_2 : ACode := (.k [0,1,5,6] (.s (.rr r22_3 (.k [0,1,5,23] (.cc 23 .skip (.exit 0)))) (.k [0,1,5] (.block 1 (.rr r22_4 (.k [0,1,5,6] (.rr r22_5 (.k [0,1,5,6,25,26] (.block 2 (.loop l22_1))))))))))
def r22_19 : Rg :=[.m 106 5,
 .m 4 106]
def c22 : ACode := (.rr r22_0 (.k [0,1] (.rr r22_1 (.k [0,1,5] (.s (.rr r22_2 (.k [0,1,5,6] (.block 0 (.loop l22_2)))) (.k [5] (.rr r22_19 .ret)))))))
def a22 : AFunc := ⟨107,c22,[.tmp 4]⟩

def r23_0 : Rg :=[.al 2 [.nsl,(.i .i64 0)]]
def r23_1 : Rg :=[.m 3 0,
 .bn 4 .lss 3 0,
 .m 5 4,
 .mf 6 0 5,
 .bnf 7 .gtr 6 6 5,
 .oo 8 5 7]
def r23_2 : Rg :=[.p 9 (.build [.nsl,(.i .i64 0)] []),
 .st 2 2 9]
def r23_3 : Rg :=[.m 10 0,
 .p 11 (.build [(.i .i64 0),.nsl,.nsl,(.b false)] [(0,1,(.t 10))]),
 .n 12 (.bsl 4 1 [(.i .i64 0),.nsl,.nsl,(.b false)] [(0,(.t 11))]),
 .p 13 (.build [.nsl,(.i .i64 0)] [(0,1,(.t 12))]),
 .st 2 2 13]
def c23 : ACode := (.rr r23_0 (.k [0,2] (.s (.rr r23_1 (.k [0,2,8] (.cr 8 r23_2))) (.k [0,2] (.rr r23_3 .ret)))))
def a23 : AFunc := ⟨14,c23,[.cell 2 2 true]⟩

def r24_0 : Rg :=[.al 2 [.nsl,.nsl,.nsl],
 .al 3 [(.i .i64 0),(.i .i64 0),(.s [])]]
def r24_1 : Rg :=[.m 4 0,
 .c 5 35 [(.t 4),(.c (.f 36 []))],
 .ex 6 0 5,
 .ex 7 1 5,
 .st 3 2 6,
 .st 3 3 7]
def c24 : ACode := (.rr r24_0 (.k [0,2,3] (.rr r24_1 .ret)))
def a24 : AFunc := ⟨8,c24,[.cell 2 3 true,.cell 3 3 true]⟩

def r25_0 : Rg :=[.bx 2 0,
 .al 4 [.nsl,(.i .i64 0)],
 .mi 5 0]
def r25_1 : Rg :=[.la 10 3 2,
 .c 11 38 [(.t 10)],
 .st 3 2 11]
def r25_2 : Rg :=[.la 12 3 2,
 .c 13 39 [(.t 12)],
 .m 6 13]
def r25_3 : Rg :=[.m 14 6,
 .bn 15 .neq 14 0]
def r25_4 : Rg :=[.p 16 (.build [.nsl,(.i .i64 0)] []),
 .m 17 6,
 .st 2 4 16,
 .m 5 17]
def r25_5 : Rg :=[.m 18 1,
 .bn 19 .lss 18 0,
 .m 20 19,
 .mf 21 1 20,
 .faf 22 1 2 20,
 .l1f 23 22 20,
 .lnf 24 23 20,
 .bif 25 .geq 21 24 20,
 .oo 26 20 25]
def r25_6 : Rg :=[.p 27 (.build [.nsl,(.i .i64 0)] []),
 .st 2 4 27,
 .mi 5 13]
def r25_7 : Rg :=[.la 28 3 2,
 .n 29 (.mkmap),
 .p 30 (.build [.nsl,.nsl,.nsl,.nm,.nsl] [(0,3,(.t 28)),(3,1,(.t 29))]),
 .bx 31 30,
 .m 7 31]
def r25_8 : Rg :=[.m 33 7,
 .m 34 1,
 .c 35 40 [(.t 33),(.t 34)],
 .m 32 35,
 .ex 36 0 32,
 .ex 37 1 32,
 .m 8 36,
 .m 9 37]
def r25_9 : Rg :=[.m 38 9,
 .bn 39 .neq 38 0]
def r25_10 : Rg :=[.p 40 (.build [.nsl,(.i .i64 0)] []),
 .m 41 9,
 .st 2 4 40,
 .m 5 41]
def r25_11 : Rg :=[.m 42 7,
 .nk 43 42,
 .fa 44 4 43,
 .l1 45 44,
 .m 46 8,
 .c 47 41 [(.t 45),(.t 46)],
 .st 2 4 47,
 .mi 5 0]
def c25 : ACode := (.rr r25_0 (.k [1,2,4] (.rr r25_1 (.k [1,2,4] (.s (.rr r25_2 (.k [1,2,4,6] (.rr r25_3 (.k [1,2,4,6,15] (.cr 15 r25_4))))) (.k [1,2,4] (.s (.rr r25_5 (.k [1,2,4,26] (.cr 26 r25_6))) (.k [1,2,4] (.rr r25_7 (.k [1,4,7] (.rr r25_8 (.k [4,7,8,9] (.s (.rr r25_9 (.k [4,7,8,9,39] (.cr 39 r25_10))) (.k [4,7,8] (.rr r25_11 .ret)))))))))))))))
def a25 : AFunc := ⟨48,c25,[.cell 4 2 true,.tmp 5]⟩

def r26_0 : Rg :=[.bx 1 0,
 .p 2 (.mov (.c .nsl)),
 .mi 3 0]
def r26_1 : Rg :=[.la 13 2 1,
 .c 14 31 [(.t 13)],
 .m 12 14,
 .ex 15 0 12,
 .ex 16 1 12,
 .al 4 [.nsl,(.i .i64 0)],
 .st 2 4 15,
 .m 5 16]
def r26_2 : Rg :=[.m 17 5,
 .bn 18 .neq 17 0]
def r26_3 : Rg :=[.m 19 5,
 .p 2 (.mov (.c .nsl)),
 .m 3 19]
def r26_4 : Rg :=[.p 6 (.mov (.c .nsl))]
def r26_5 : Rg :=[.fa 20 0 4,
 .l1 21 20,
 .ln 22 21,
 .mi 23 0]
def r26_6 : Rg :=[.bi 24 .lss 23 22]
def r26_7 : Rg :=[.ix 25 4 21 23,
 .la 26 4 25,
 .al 8 [(.i .i64 0),.nsl,.nsl,(.b false)],
 .st 4 8 26]
def r26_8 : Rg :=[.fa 27 0 8,
 .l1 28 27,
 .fa 29 3 8,
 .l1 30 29,
 .p 31 (.build [(.i .i64 0),.nsl,.nsl,(.b false)] [(0,1,(.t 28)),(3,1,(.t 30))]),
 .c 32 42 [(.t 31)],
 .m 9 32]
def r26_9 : Rg :=[.m 33 6,
 .m 34 9,
 .e 35 (.app 1 1 (.t 33) (.t 34)),
 .m 6 35]
def r26_10 : Rg :=[.fa 36 2 8,
 .l1 37 36,
 .ln 38 37,
 .mi 39 0]
def r26_11 : Rg :=[.bi 40 .lss 39 38]
def r26_12 : Rg :=[.m 41 39,
 .ix 42 1 37 39,
 .l1 43 42,
 .m 10 41,
 .m 11 43]
def r26_13 : Rg :=[.fa 44 1 8,
 .l1 45 44,
 .ln 46 45,
 .bn 47 .gtr 46 0]
def r26_14 : Rg :=[.m 48 6,
 .fa 49 1 8,
 .l1 50 49,
 .m 51 10,
 .ix 52 1 50 51,
 .l1 53 52,
 .e 54 (.app 1 1 (.t 48) (.t 53)),
 .n 55 (.bsl 1 1 [(.i .u8 0)] [(0,(.c (.i .u8 58)))]),
 .e 56 (.app 1 1 (.t 54) (.t 55)),
 .m 6 56]
def r26_15 : Rg :=[.m 57 6,
 .m 58 11,
 .c 59 43 [(.t 57),(.t 58),(.c (.i .i64 10))],
 .n 60 (.bsl 1 1 [(.i .u8 0)] [(0,(.c (.i .u8 44)))]),
 .e 61 (.app 1 1 (.t 59) (.t 60)),
 .m 6 61]
def r26_16 : Rg :=[.bn 62 .add 39 1,
 .m 39 62]
def l26_0 : ACode := (.k [6,8,21,22,23,37,38,39] (.rr r26_11 (.k [6,8,21,22,23,37,38,39,40] (.s (.cc 40 .skip (.exit 2)) (.k [6,8,21,22,23,37,38,39] (.s (.block 3 (.rr r26_12 (.k [6,8,10,11,21,22,23,37,38,39] (.s (.rr r26_13 (.k [6,8,10,11,21,22,23,37,38,39,47] (.cc 47 (.rg r26_14) .skip))) (.k [6,8,11,21,22,23,37,38,39] (.rg r26_15)))))) (.k [6,8,21,22,23,37,38,39] (.rg r26_16))))))))
def r26_17 : Rg :=[.m 63 6,
 .n 64 (.bsl 1 1 [(.i .u8 0)] [(0,(.c (.i .u8 59)))]),
 .e 65 (.app 1 1 (.t 63) (.t 64)),
 .m 6 65]
def r26_18 : Rg :=[.bn 66 .add 23 1,
 .m 23 66]
def l26_1 : ACode := (.k [6,21,22,23] (.rr r26_6 (.k [6,21,22,23,24] (.s (.cc 24 .skip (.exit 0)) (.k [6,21,22,23] (.s (.block 1 (.rr r26_7 (.k [6,8,21,22,23] (.rr r26_8 (.k [6,8,9,21,22,23] (.rr r26_9 (.k [6,8,21,22,23] (.s (.rr r26_10 (.k [6,8,21,22,23,37,38,39] (.block 2 (.loop l26_0)))) (.k [6,21,22,23] (.rg r26_17)))))))))) (.k [6,21,22,23] (.rg r26_18))))))))
def r26_19 : Rg :=[.m 67 6,
 .m 2 67,
 .mi 3 0]
def c26 : ACode := (.rr r26_0 (.k [1] (.rr r26_1 (.k [4,5] (.s (.rr r26_2 (.k [4,5,18] (.cr 18 r26_3))) (.k [4] (.rr r26_4 (.k [4,6] (.s (.rr r26_5 (.k [6,21,22,23] (.block 0 (.loop l26_1)))) (.k [6] (.rr r26_19 .ret)))))))))))
def a26 : AFunc := ⟨68,c26,[.tmp 2,.tmp 3]⟩

def r27_0 : Rg :=[.mb 4 false]
def r27_1 : Rg :=[.m 5 0,
 .r 6 (.bts (.t 5)),
 .m 7 1,
 .r 8 (.bts (.t 7)),
 .bi 9 .eql 6 8,
 .m 4 9]
def c27 : ACode := (.rr r27_0 (.k [0,1] (.rr r27_1 .ret)))
def a27 : AFunc := ⟨10,c27,[.tmp 4]⟩

def r28_0 : Rg :=[.bx 1 0,
 .mi 2 0]
def r28_1 : Rg :=[.fa 5 0 1,
 .l1 6 5,
 .ln 7 6,
 .bn 8 .eql 7 0,
 .m 9 8,
 .faf 10 0 1 9,
 .l1f 11 10 9,
 .lnf 12 11 9,
 .bnf 13 .gtr 12 4096 9,
 .oo 14 9 13,
 .m 15 14,
 .faf 16 1 1 15,
 .l1f 17 16 15,
 .bnf 18 .lss 17 0 15,
 .oo 19 15 18,
 .m 20 19,
 .faf 21 1 1 20,
 .l1f 22 21 20,
 .faf 23 0 1 20,
 .l1f 24 23 20,
 .lnf 25 24 20,
 .bif 26 .geq 22 25 20,
 .oo 27 20 26]
def r28_2 : Rg :=[.mi 2 14]
def r28_3 : Rg :=[.fa 28 0 1,
 .l1 29 28,
 .ln 30 29,
 .mi 31 0]
def r28_4 : Rg :=[.bi 32 .lss 31 30]
def r28_5 : Rg :=[.ix 33 4 29 31,
 .la 34 4 33,
 .al 4 [(.i .i64 0),.nsl,.nsl,(.b false)],
 .st 4 4 34]
def r28_6 : Rg :=[.la 35 4 4,
 .fa 36 0 1,
 .l1 37 36,
 .ln 38 37,
 .c 39 44 [(.t 35),(.t 38)],
 .no 40 39]
def r28_7 : Rg :=[.mi 2 14]
def r28_8 : Rg :=[.bn 41 .add 31 1,
 .m 31 41]
def l28_0 : ACode := (.k [1,29,30,31] (.rr r28_4 (.k [1,29,30,31,32] (.s (.cc 32 .skip (.exit 0)) (.k [1,29,30,31] (.s (.block 1 (.rr r28_5 (.k [1,4,29,30,31] (.rr r28_6 (.k [1,29,30,31,40] (.cr 40 r28_7)))))) (.k [1,29,30,31] (.rg r28_8))))))))
def r28_9 : Rg :=[.mi 2 0]
def c28 : ACode := (.rr r28_0 (.k [1] (.s (.rr r28_1 (.k [1,27] (.cr 27 r28_2))) (.k [1] (.s (.rr r28_3 (.k [1,29,30,31] (.block 0 (.loop l28_0)))) (.k [] (.rr r28_9 .ret)))))))
def a28 : AFunc := ⟨42,c28,[.tmp 2]⟩

def r29_0 : Rg :=[.bx 3 1,
 .mi 4 0]
def d29_1 : List DItem :=[⟨0,.m 9 0,[0],[]⟩,
 ⟨1,.nk 10 9,[9],[]⟩,
 ⟨2,.fa 11 2 10,[10],[]⟩,
 ⟨3,.l1 12 11,[11],[]⟩,
 ⟨4,.la 13 3 3,[3],[]⟩,
 ⟨5,.r 14 (.look .part (.i .i64 0) true (.t 12) (.t 13)),[12,13],[]⟩,
 ⟨6,.m 8 14,[14],[]⟩,
 ⟨7,.ex 15 0 8,[8],[]⟩,
 ⟨8,.ex 16 1 8,[8],[]⟩,
 ⟨9,.m 5 15,[15],[]⟩,
 ⟨10,.m 6 16,[16],[]⟩]
def r29_2 : Rg :=[.m 17 6]
def r29_3 : Rg :=[.m 18 5,
 .m 4 18]
def r29_4 : Rg :=[.m 19 0,
 .nk 20 19,
 .fa 21 3 20,
 .l1 22 21,
 .ln 23 22,
 .m 7 23]
def d29_5 : List DItem :=[⟨0,.m 24 0,[0],[]⟩,
 ⟨1,.nk 25 24,[24],[]⟩,
 ⟨2,.fa 26 2 25,[25],[]⟩,
 ⟨3,.l1 27 26,[26],[]⟩,
 ⟨4,.la 28 3 3,[3],[]⟩,
 ⟨5,.m 29 7,[7],[]⟩,
 ⟨6,.e0 (.upd .part (.t 27) (.t 28) (.t 29)),[27,28,29],[]⟩]
def r29_6 : Rg :=[.m 30 0,
 .m 31 0,
 .nk 32 31,
 .fa 33 3 32,
 .l1 34 33,
 .p 35 (.build [(.i .i64 0),.nsl,.nsl,(.b false)] []),
 .n 36 (.bsl 4 1 [(.i .i64 0),.nsl,.nsl,(.b false)] [(0,(.t 35))]),
 .e 37 (.app 4 64 (.t 34) (.t 36)),
 .nk 38 30,
 .fa 39 3 38,
 .st 1 39 37]
def d29_7 : List DItem :=[⟨0,.m 40 0,[0],[]⟩,
 ⟨1,.m 41 0,[0],[]⟩,
 ⟨2,.nk 42 41,[41],[]⟩,
 ⟨3,.fa 43 4 42,[42],[]⟩,
 ⟨4,.l1 44 43,[43],[]⟩,
 ⟨5,.la 45 3 3,[3],[]⟩,
 ⟨6,.n 46 (.bsl 3 1 [(.i .i64 0),(.i .i64 0),(.b false)] [(0,(.t 45))]),[45],[]⟩,
 ⟨7,.e 47 (.app 3 24 (.t 44) (.t 46)),[44,46],[0]⟩,
 ⟨8,.nk 48 40,[40],[]⟩,
 ⟨9,.fa 49 4 48,[48],[]⟩,
 ⟨10,.st 1 49 47,[49,47],[]⟩]
def r29_8 : Rg :=[.m 50 7,
 .m 4 50]
def c29 : ACode := (.rr r29_0 (.k [0,3] (.s (.s (.draw d29_1) (.k [0,3,5,6] (.rr r29_2 (.k [0,3,5,17] (.cr 17 r29_3))))) (.k [0,3] (.rr r29_4 (.k [0,3,7] (.s (.draw d29_5) (.k [0,3,7] (.rr r29_6 (.k [0,3,7] (.s (.draw d29_7) (.k [7] (.rr r29_8 .ret)))))))))))))
def a29 : AFunc := ⟨51,c29,[.tmp 4]⟩

def r30_0 : Rg :=[.bx 3 1,
 .al 4 [(.i .i64 0),.nsl,.nsl,(.b false)]]
def r30_1 : Rg :=[.fa 12 0 3,
 .l1 13 12,
 .bn 14 .lss 13 0,
 .m 15 14,
 .faf 16 1 3 15,
 .l1f 17 16 15,
 .bnf 18 .lss 17 0 15,
 .oo 19 15 18]
def r30_2 : Rg :=[.m 20 0,
 .la 21 3 3,
 .c 22 45 [(.t 20),(.t 21)],
 .st 4 4 22]
def d30_3 : List DItem :=[⟨0,.m 23 0,[0],[]⟩,
 ⟨1,.nk 24 23,[23],[]⟩,
 ⟨2,.fa 25 0 24,[24],[]⟩,
 ⟨3,.l1 26 25,[25],[]⟩,
 ⟨4,.fa 27 0 3,[3],[]⟩,
 ⟨5,.l1 28 27,[27],[]⟩,
 ⟨6,.ix 29 4 26 28,[26,28],[]⟩,
 ⟨7,.la 30 4 29,[29],[]⟩,
 ⟨8,.m 31 0,[0],[]⟩,
 ⟨9,.nk 32 31,[31],[]⟩,
 ⟨10,.fa 33 1 32,[32],[]⟩,
 ⟨11,.l1 34 33,[33],[]⟩,
 ⟨12,.fa 35 1 3,[3],[]⟩,
 ⟨13,.l1 36 35,[35],[]⟩,
 ⟨14,.ix 37 4 34 36,[34,36],[]⟩,
 ⟨15,.la 38 4 37,[37],[]⟩,
 ⟨16,.al 5 [(.i .i64 0),.nsl,.nsl,(.b false)],[],[]⟩,
 ⟨17,.al 6 [(.i .i64 0),.nsl,.nsl,(.b false)],[],[]⟩,
 ⟨18,.st 4 5 30,[5,30],[15,14,13,12,11,10,9,8]⟩,
 ⟨19,.st 4 6 38,[6,38],[]⟩]
def r30_4 : Rg :=[.mi 7 6,
 .mi 8 5]
def r30_5 : Rg :=[.fa 39 2 3,
 .l1 40 39,
 .no 41 40]
def r30_6 : Rg :=[.m 42 8,
 .m 43 7,
 .m 7 42,
 .m 8 43]
def r30_7 : Rg :=[.fa 45 0 5,
 .l1 46 45,
 .m 47 7,
 .bi 48 .eql 46 47,
 .m 49 48,
 .faf 50 0 6 49,
 .l1f 51 50 49,
 .mf 52 8 49,
 .bif 53 .eql 51 52 49,
 .oo 54 49 53,
 .m 44 54]
def r30_8 : Rg :=[.m 55 0,
 .fa 56 1 3,
 .l1 57 56,
 .fa 58 2 3,
 .l1 59 58,
 .p 60 (.build [(.i .i64 0),(.i .i64 0),(.b false)] [(0,1,(.c (.i .i64 (-1)))),(1,1,(.t 57)),(2,1,(.t 59))]),
 .c 61 45 [(.t 55),(.t 60)],
 .st 4 4 61]
def r30_9 : Rg :=[.fa 63 0 6,
 .l1 64 63,
 .m 65 7,
 .bi 66 .eql 64 65,
 .m 67 66,
 .faf 68 0 5 67,
 .l1f 69 68 67,
 .mf 70 8 67,
 .bif 71 .eql 69 70 67,
 .oo 72 67 71,
 .m 62 72]
def r30_10 : Rg :=[.m 73 0,
 .fa 74 0 3,
 .l1 75 74,
 .fa 76 2 3,
 .l1 77 76,
 .p 78 (.build [(.i .i64 0),(.i .i64 0),(.b false)] [(0,1,(.t 75)),(1,1,(.c (.i .i64 (-1)))),(2,1,(.t 77))]),
 .c 79 45 [(.t 73),(.t 78)],
 .st 4 4 79]
def r30_11 : Rg :=[.fa 81 0 5,
 .l1 82 81,
 .fa 83 0 6,
 .l1 84 83,
 .bi 85 .neq 82 84,
 .m 80 85]
def r30_12 : Rg :=[.m 86 8,
 .p 87 (.build [(.i .i64 0),.nsl,.nsl,(.b false)] [(0,1,(.t 86))]),
 .st 4 4 87]
def r30_13 : Rg :=[.fa 89 0 5,
 .l1 90 89,
 .bn 91 .eql 90 7,
 .m 88 91]
def d30_14 : List DItem :=[⟨0,.m 92 0,[0],[]⟩,
 ⟨1,.fa 93 2 5,[5],[]⟩,
 ⟨2,.l1 94 93,[93],[]⟩,
 ⟨3,.p 95 (.idxA 1 (.t 94) (.c (.i .i64 0))),[94],[]⟩,
 ⟨4,.l1 96 95,[95],[]⟩,
 ⟨5,.fa 97 2 6,[6],[]⟩,
 ⟨6,.l1 98 97,[97],[]⟩,
 ⟨7,.p 99 (.idxA 1 (.t 98) (.c (.i .i64 0))),[98],[]⟩,
 ⟨8,.l1 100 99,[99],[]⟩,
 ⟨9,.fa 101 2 3,[3],[]⟩,
 ⟨10,.l1 102 101,[101],[]⟩,
 ⟨11,.no 103 102,[102],[]⟩,
 ⟨12,.p 104 (.build [(.i .i64 0),(.i .i64 0),(.b false)] [(0,1,(.t 96)),(1,1,(.t 100)),(2,1,(.t 103))]),[96,100,103],[]⟩,
 ⟨13,.c 105 29 [(.t 92),(.t 104)],[92,104],[]⟩,
 ⟨14,.m 9 105,[105],[]⟩]
def d30_15 : List DItem :=[⟨0,.m 106 9,[9],[]⟩,
 ⟨1,.m 107 0,[0],[]⟩,
 ⟨2,.fa 108 2 5,[5],[]⟩,
 ⟨3,.l1 109 108,[108],[]⟩,
 ⟨4,.p 110 (.idxA 1 (.t 109) (.c (.i .i64 1))),[109],[]⟩,
 ⟨5,.l1 111 110,[110],[]⟩,
 ⟨6,.fa 112 2 6,[6],[]⟩,
 ⟨7,.l1 113 112,[112],[]⟩,
 ⟨8,.p 114 (.idxA 1 (.t 113) (.c (.i .i64 1))),[113],[]⟩,
 ⟨9,.l1 115 114,[114],[]⟩,
 ⟨10,.fa 116 2 3,[3],[]⟩,
 ⟨11,.l1 117 116,[116],[]⟩,
 ⟨12,.p 118 (.build [(.i .i64 0),(.i .i64 0),(.b false)] [(0,1,(.t 111)),(1,1,(.t 115)),(2,1,(.t 117))]),[111,115,117],[]⟩,
 ⟨13,.c 119 29 [(.t 107),(.t 118)],[107,118],[0]⟩,
 ⟨14,.n 120 (.bsl 1 2 [(.i .i64 0)] [(0,(.t 106)),(1,(.t 119))]),[106,119],[]⟩,
 ⟨15,.p 121 (.build [(.i .i64 0),.nsl,.nsl,(.b false)] [(0,1,(.c (.i .i64 7))),(2,1,(.t 120))]),[120],[]⟩,
 ⟨16,.st 4 4 121,[4,121],[]⟩]
def r30_16 : Rg :=[.fa 123 0 5,
 .l1 124 123,
 .bn 125 .eql 124 8,
 .m 126 125,
 .fat 127 2 3 126,
 .l1t 128 127 126,
 .an 129 126 128,
 .m 122 129]
def d30_17 : List DItem :=[⟨0,.m 130 0,[0],[]⟩,
 ⟨1,.la 131 3 3,[3],[]⟩,
 ⟨2,.fa 132 1 5,[5],[]⟩,
 ⟨3,.l1 133 132,[132],[]⟩,
 ⟨4,.fa 134 1 6,[6],[]⟩,
 ⟨5,.l1 135 134,[134],[]⟩,
 ⟨6,.c 136 47 [(.t 133),(.t 135)],[133,135],[1,0]⟩,
 ⟨7,.c 137 46 [(.t 130),(.t 131),(.t 136),(.c (.b false))],[130,131,136],[]⟩,
 ⟨8,.st 4 4 137,[4,137],[]⟩]
def r30_18 : Rg :=[.fa 139 0 5,
 .l1 140 139,
 .bn 141 .eql 140 8,
 .m 138 141]
def d30_19 : List DItem :=[⟨0,.m 142 0,[0],[]⟩,
 ⟨1,.la 143 3 3,[3],[]⟩,
 ⟨2,.fa 144 1 5,[5],[]⟩,
 ⟨3,.l1 145 144,[144],[]⟩,
 ⟨4,.fa 146 1 6,[6],[]⟩,
 ⟨5,.l1 147 146,[146],[]⟩,
 ⟨6,.c 148 48 [(.t 145),(.t 147)],[145,147],[1,0]⟩,
 ⟨7,.c 149 46 [(.t 142),(.t 143),(.t 148),(.c (.b false))],[142,143,148],[]⟩,
 ⟨8,.st 4 4 149,[4,149],[]⟩]
def r30_20 : Rg :=[.fa 151 0 5,
 .l1 152 151,
 .bn 153 .eql 152 9,
 .m 150 153]
def r30_21 : Rg :=[.la 155 4 5,
 .la 156 4 6,
 .fa 157 2 3,
 .l1 158 157,
 .c 159 49 [(.t 155),(.t 156),(.t 158)],
 .m 154 159,
 .ex 160 0 154,
 .ex 161 1 154,
 .m 10 160,
 .m 11 161]
def r30_22 : Rg :=[.m 162 0,
 .la 163 3 3,
 .m 164 10,
 .m 165 11,
 .c 166 46 [(.t 162),(.t 163),(.t 164),(.t 165)],
 .st 4 4 166]
def r30_23 : Rg :=[.fa 167 0 5,
 .l1 168 167,
 .p 169 (.build [(.i .i64 0),.nsl,.nsl,(.b false)] [(0,1,(.t 168))]),
 .st 4 4 169]
def c30 : ACode := (.rr r30_0 (.k [0,3,4] (.s (.rr r30_1 (.k [0,3,4,19] (.cr 19 r30_2))) (.k [0,3,4] (.s (.draw d30_3) (.k [0,3,4,5,6] (.rr r30_4 (.k [0,3,4,5,6,7,8] (.s (.rr r30_5 (.k [0,3,4,5,6,7,8,41] (.cc 41 (.rg r30_6) .skip))) (.k [0,3,4,5,6,7,8] (.s (.block 0 (.rr r30_7 (.k [0,3,4,5,6,7,8,44] (.cc 44 (.rr r30_8 .ret) (.rr r30_9 (.k [0,3,4,5,6,8,62] (.cc 62 (.rr r30_10 .ret) (.rr r30_11 (.k [0,3,4,5,6,8,80] (.cc 80 (.rr r30_12 .ret) (.rr r30_13 (.k [0,3,4,5,6,88] (.cc 88 (.s (.draw d30_14) (.k [0,3,4,5,6,9] (.s (.draw d30_15) .ret))) (.rr r30_16 (.k [0,3,4,5,6,122] (.cc 122 (.s (.draw d30_17) .ret) (.rr r30_18 (.k [0,3,4,5,6,138] (.cc 138 (.s (.draw d30_19) .ret) (.rr r30_20 (.k [0,3,4,5,6,150] (.cc 150 (.rr r30_21 (.k [0,3,4,10,11] (.rr r30_22 .ret))) .skip)))))))))))))))))))))) (.k [4,5] (.rr r30_23 .ret)))))))))))))
def a30 : AFunc := ⟨170,c30,[.cell 4 4 true]⟩

end K
end Go.Proofs.YtlgbgbngdhhjaaaGreatDoor

set_option maxRecDepth 100000
namespace Go.Proofs.YtlgbgbngdhhjaaaGreatDoor
namespace K
open Go AM

def r31_0 : Rg :=[.bx 1 0,
 .al 2 [.nsl,(.i .i64 0)],
 .mi 3 0]
def r31_1 : Rg :=[.la 5 2 1,
 .c 6 28 [(.t 5)],
 .m 4 6]
def r31_2 : Rg :=[.m 7 4,
 .bn 8 .neq 7 0]
def r31_3 : Rg :=[.p 9 (.build [.nsl,(.i .i64 0)] []),
 .m 10 4,
 .st 2 2 9,
 .m 3 10]
def r31_4 : Rg :=[.fa 11 0 1,
 .l1 12 11,
 .fa 13 1 1,
 .l1 14 13,
 .c 15 41 [(.t 12),(.t 14)],
 .st 2 2 15,
 .mi 3 0]
def c31 : ACode := (.rr r31_0 (.k [1,2] (.s (.rr r31_1 (.k [1,2,4] (.rr r31_2 (.k [1,2,4,8] (.cr 8 r31_3))))) (.k [1,2] (.rr r31_4 .ret)))))
def a31 : AFunc := ⟨16,c31,[.cell 2 2 true,.tmp 3]⟩

def r32_0 : Rg :=[.mb 2 false]
def r32_1 : Rg :=[.m 5 0,
 .p 6 (.bin .eql (.t 5) (.c (.s [])))]
def r32_2 : Rg :=[.mb 2 false]
def r32_3 : Rg :=[.mi 3 0]
def r32_4 : Rg :=[.m 7 3,
 .m 8 0,
 .p 9 (.lenS (.t 8)),
 .bi 10 .lss 7 9]
def r32_5 : Rg :=[.m 13 0,
 .m 14 3,
 .p 15 (.idxS (.t 13) (.t 14)),
 .p 16 (.bin .lss (.t 15) (.c (.i .u8 97))),
 .m 17 16,
 .mf 18 0 17,
 .mf 19 3 17,
 .pf 20 (.idxS (.t 18) (.t 19)) 17,
 .pf 21 (.bin .gtr (.t 20) (.c (.i .u8 122))) 17,
 .oo 22 17 21]
def r32_6 : Rg :=[.mb 2 false]
def r32_7 : Rg :=[.m 11 3,
 .bn 12 .add 11 1,
 .m 3 12]
def l32_0 : ACode := (.k [0,3] (.s (.rr r32_4 (.k [0,3,10] (.cc 10 .skip (.exit 0)))) (.k [0,3] (.s (.block 1 (.rr r32_5 (.k [0,3,22] (.cr 22 r32_6)))) (.k [0,3] (.rg r32_7))))))
def r32_8 : Rg :=[.mi 4 0]
def r32_9 : Rg :=[.m 23 4,
 .m 24 0,
 .p 25 (.lenS (.t 24)),
 .bi 26 .add 23 25,
 .bn 27 .add 26 2,
 .bn 28 .leq 27 89]
def r32_10 : Rg :=[.m 31 4,
 .m 32 4,
 .m 33 0,
 .p 34 (.lenS (.t 33)),
 .bi 35 .add 32 34,
 .bn 36 .add 35 2,
 .p 37 (.slcS (.c (.s [32,102,117,110,32,108,101,116,32,114,101,99,32,105,110,32,105,102,32,116,104,101,110,32,101,108,115,101,32,99,97,115,101,32,111,102,32,101,110,100,32,116,114,117,101,32,102,97,108,115,101,32,105,110,116,32,98,111,111,108,32,115,116,114,32,102,108,111,97,116,32,100,121,110,32,97,110,121,32,110,111,110,101,32,116,121,112,101,32])) (some (.t 31)) (some (.t 36))),
 .m 38 0,
 .p 39 (.bin .add (.c (.s [32])) (.t 38)),
 .p 40 (.bin .add (.t 39) (.c (.s [32]))),
 .bi 41 .eql 37 40]
def r32_11 : Rg :=[.mb 2 true]
def r32_12 : Rg :=[.m 29 4,
 .bn 30 .add 29 1,
 .m 4 30]
def l32_1 : ACode := (.k [0,4] (.s (.rr r32_9 (.k [0,4,28] (.cc 28 .skip (.exit 2)))) (.k [0,4] (.s (.block 3 (.rr r32_10 (.k [0,4,41] (.cr 41 r32_11)))) (.k [0,4] (.rg r32_12))))))
def r32_13 : Rg :=[.mb 2 false]
def c32 : ACode := (.rr r32_0 (.k [0] (.s (.rr r32_1 (.k [0,6] (.cr 6 r32_2))) (.k [0] (.s (.rr r32_3 (.k [0,3] (.block 0 (.loop l32_0)))) (.k [0] (.s (.rr r32_8 (.k [0,4] (.block 2 (.loop l32_1)))) (.k [] (.rr r32_13 .ret)))))))))
def a32 : AFunc := ⟨42,c32,[.tmp 2]⟩

def r33_0 : Rg :=[.p 4 (.mov (.c .nsl))]
def r33_1 : Rg :=[.n 9 (.bsl 1 0 [.nsl] []),
 .m 5 9]
def r33_2 : Rg :=[.mi 6 0]
def r33_3 : Rg :=[.m 10 6,
 .m 11 0,
 .bi 12 .lss 10 11]
def r33_4 : Rg :=[.n 15 (.bsl 1 0 [(.b false)] []),
 .m 7 15]
def r33_5 : Rg :=[.mi 8 0]
def r33_6 : Rg :=[.m 16 8,
 .m 17 1,
 .bi 18 .lss 16 17]
def r33_7 : Rg :=[.m 21 7,
 .n 22 (.bsl 1 1 [(.b false)] [(0,(.c (.b true)))]),
 .e 23 (.app 1 1 (.t 21) (.t 22)),
 .m 7 23]
def r33_8 : Rg :=[.m 19 8,
 .bn 20 .add 19 1,
 .m 8 20]
def l33_0 : ACode := (.k [0,1,5,6,7,8] (.s (.rr r33_6 (.k [0,1,5,6,7,8,18] (.cc 18 .skip (.exit 2)))) (.k [0,1,5,6,7,8] (.s (.block 3 (.rg r33_7)) (.k [0,1,5,6,7,8] (.rg r33_8))))))
def r33_9 : Rg :=[.m 24 5,
 .m 25 7,
 .n 26 (.bsl 1 1 [.nsl] [(0,(.t 25))]),
 .e 27 (.app 1 24 (.t 24) (.t 26)),
 .m 5 27]
def r33_10 : Rg :=[.m 13 6,
 .bn 14 .add 13 1,
 .m 6 14]
def l33_1 : ACode := (.k [0,1,5,6] (.s (.rr r33_3 (.k [0,1,5,6,12] (.cc 12 .skip (.exit 0)))) (.k [0,1,5,6] (.s (.block 1 (.rr r33_4 (.k [0,1,5,6,7] (.s (.rr r33_5 (.k [0,1,5,6,7,8] (.block 2 (.loop l33_0)))) (.k [0,1,5,6,7] (.rg r33_9)))))) (.k [0,1,5,6] (.rg r33_10))))))
def r33_11 : Rg :=[.m 28 5,
 .m 4 28]
def c33 : ACode := (.rr r33_0 (.k [0,1] (.rr r33_1 (.k [0,1,5] (.s (.rr r33_2 (.k [0,1,5,6] (.block 0 (.loop l33_1)))) (.k [5] (.rr r33_11 .ret)))))))
def a33 : AFunc := ⟨29,c33,[.tmp 4]⟩

def r34_0 : Rg :=[.mb 12 false]
def d34_1 : List DItem :=[⟨0,.m 23 0,[0],[]⟩,
 ⟨1,.m 24 4,[4],[]⟩,
 ⟨2,.ix 25 4 23 24,[23,24],[]⟩,
 ⟨3,.la 26 4 25,[25],[]⟩,
 ⟨4,.m 27 1,[1],[]⟩,
 ⟨5,.m 28 5,[5],[]⟩,
 ⟨6,.ix 29 4 27 28,[27,28],[]⟩,
 ⟨7,.la 30 4 29,[29],[]⟩,
 ⟨8,.al 13 [(.i .i64 0),.nsl,.nsl,(.b false)],[],[]⟩,
 ⟨9,.al 14 [(.i .i64 0),.nsl,.nsl,(.b false)],[],[]⟩,
 ⟨10,.st 4 13 26,[13,26],[7,6,5,4]⟩,
 ⟨11,.st 4 14 30,[14,30],[]⟩]
def r34_2 : Rg :=[.fa 31 0 13,
 .l1 32 31,
 .bn 33 .eql 32 6,
 .m 34 33,
 .faf 35 0 14 34,
 .l1f 36 35 34,
 .bnf 37 .eql 36 5 34,
 .oo 38 34 37]
def r34_3 : Rg :=[.mb 12 true]
def r34_4 : Rg :=[.fa 39 0 13,
 .l1 40 39,
 .fa 41 0 14,
 .l1 42 41,
 .bi 43 .neq 40 42]
def r34_5 : Rg :=[.mb 12 false]
def r34_6 : Rg :=[.fa 44 0 13,
 .l1 45 44]
def r34_7 : Rg :=[.bn 47 .eql 45 7,
 .m 46 47]
def d34_8 : List DItem :=[⟨0,.m 48 3,[3],[]⟩,
 ⟨1,.fa 49 2 14,[14],[]⟩,
 ⟨2,.l1 50 49,[49],[]⟩,
 ⟨3,.p 51 (.idxA 1 (.t 50) (.c (.i .i64 0))),[50],[]⟩,
 ⟨4,.l1 52 51,[51],[]⟩,
 ⟨5,.ix 53 1 48 52,[48,52],[]⟩,
 ⟨6,.l1 54 53,[53],[]⟩,
 ⟨7,.fa 55 2 13,[13],[]⟩,
 ⟨8,.l1 56 55,[55],[]⟩,
 ⟨9,.p 57 (.idxA 1 (.t 56) (.c (.i .i64 0))),[56],[]⟩,
 ⟨10,.l1 58 57,[57],[]⟩,
 ⟨11,.ix 59 1 54 58,[54,58],[]⟩,
 ⟨12,.l1 60 59,[59],[]⟩,
 ⟨13,.m 61 60,[60],[]⟩,
 ⟨14,.mt 62 2 61,[2,61],[]⟩,
 ⟨15,.fat 63 2 13 61,[13,61],[]⟩,
 ⟨16,.l1t 64 63 61,[63,61],[]⟩,
 ⟨17,.pt 65 (.idxA 1 (.t 64) (.c (.i .i64 1))) 61,[64,61],[]⟩,
 ⟨18,.l1t 66 65 61,[65,61],[]⟩,
 ⟨19,.ixt 67 1 62 66 61,[62,66,61],[]⟩,
 ⟨20,.l1t 68 67 61,[67,61],[]⟩,
 ⟨21,.fat 69 2 14 61,[14,61],[]⟩,
 ⟨22,.l1t 70 69 61,[69,61],[]⟩,
 ⟨23,.pt 71 (.idxA 1 (.t 70) (.c (.i .i64 1))) 61,[70,61],[]⟩,
 ⟨24,.l1t 72 71 61,[71,61],[]⟩,
 ⟨25,.ixt 73 1 68 72 61,[68,72,61],[]⟩,
 ⟨26,.l1t 74 73 61,[73,61],[]⟩,
 ⟨27,.an 75 61 74,[61,74],[]⟩,
 ⟨28,.m 12 75,[75],[]⟩]
def r34_9 : Rg :=[.bn 77 .eql 45 8,
 .m 76 77]
def r34_10 : Rg :=[.fa 78 1 14,
 .l1 79 78,
 .ln 80 79,
 .mi 81 0]
def r34_11 : Rg :=[.bi 82 .lss 81 80]
def r34_12 : Rg :=[.m 83 81,
 .ix 84 1 79 81,
 .l1 85 84,
 .m 15 83,
 .m 16 85]
def r34_13 : Rg :=[.la 86 4 13,
 .m 87 16,
 .c 88 50 [(.t 86),(.t 87)],
 .m 17 88]
def d34_14 : List DItem :=[⟨0,.m 89 17,[17],[]⟩,
 ⟨1,.bn 90 .lss 89 0,[89],[]⟩,
 ⟨2,.m 91 90,[90],[]⟩,
 ⟨3,.mf 92 2 91,[2,91],[]⟩,
 ⟨4,.mf 93 17 91,[17,91],[]⟩,
 ⟨5,.ixf 94 1 92 93 91,[92,93,91],[]⟩,
 ⟨6,.l1f 95 94 91,[94,91],[]⟩,
 ⟨7,.faf 96 2 14 91,[14,91],[]⟩,
 ⟨8,.l1f 97 96 91,[96,91],[]⟩,
 ⟨9,.mf 98 15 91,[15,91],[]⟩,
 ⟨10,.ixf 99 1 97 98 91,[97,98,91],[]⟩,
 ⟨11,.l1f 100 99 91,[99,91],[]⟩,
 ⟨12,.ixf 101 1 95 100 91,[95,100,91],[]⟩,
 ⟨13,.l1f 102 101 91,[101,91],[]⟩,
 ⟨14,.nof 103 102 91,[102,91],[]⟩,
 ⟨15,.oo 104 91 103,[91,103],[]⟩]
def r34_15 : Rg :=[.mb 12 false]
def r34_16 : Rg :=[.bn 105 .add 81 1,
 .m 81 105]
def l34_0 : ACode := (.k [2,13,14,79,80,81] (.rr r34_11 (.k [2,13,14,79,80,81,82] (.s (.cc 82 .skip (.exit 1)) (.k [2,13,14,79,80,81] (.s (.block 2 (.rr r34_12 (.k [2,13,14,15,16,79,80,81] (.rr r34_13 (.k [2,13,14,15,17,79,80,81] (.s (.draw d34_14) (.k [2,13,14,79,80,81,104] (.cr 104 r34_15)))))))) (.k [2,13,14,79,80,81] (.rg r34_16))))))))
def r34_17 : Rg :=[.bn 107 .eql 45 9,
 .m 106 107]
def r34_18 : Rg :=[.fa 108 3 13,
 .l1 109 108,
 .m 110 109,
 .fat 111 3 14 110,
 .l1t 112 111 110,
 .not 113 112 110,
 .an 114 110 113]
def r34_19 : Rg :=[.mb 12 false]
def r34_20 : Rg :=[.fa 115 1 13,
 .l1 116 115,
 .ln 117 116,
 .mi 118 0]
def r34_21 : Rg :=[.bi 119 .lss 118 117]
def r34_22 : Rg :=[.m 120 118,
 .ix 121 1 116 118,
 .l1 122 121,
 .m 18 120,
 .m 19 122]
def r34_23 : Rg :=[.la 123 4 14,
 .m 124 19,
 .c 125 50 [(.t 123),(.t 124)],
 .m 20 125]
def r34_24 : Rg :=[.m 126 20,
 .bn 127 .lss 126 0,
 .m 128 127,
 .fat 129 3 14 128,
 .l1t 130 129 128,
 .not 131 130 128,
 .an 132 128 131,
 .m 133 132,
 .mf 134 20 133,
 .bnf 135 .geq 134 0 133,
 .mf 136 135 133,
 .mt 137 2 136,
 .fat 138 2 13 136,
 .l1t 139 138 136,
 .mt 140 18 136,
 .ixt 141 1 139 140 136,
 .l1t 142 141 136,
 .ixt 143 1 137 142 136,
 .l1t 144 143 136,
 .mt 145 20 136,
 .ixt 146 1 144 145 136,
 .l1t 147 146 136,
 .not 148 147 136,
 .anf 149 136 148 133,
 .oo 150 133 149]
def r34_25 : Rg :=[.mb 12 false]
def r34_26 : Rg :=[.bn 151 .add 118 1,
 .m 118 151]
def l34_1 : ACode := (.k [1,2,13,14,116,117,118] (.rr r34_21 (.k [1,2,13,14,116,117,118,119] (.s (.cc 119 .skip (.exit 3)) (.k [1,2,13,14,116,117,118] (.s (.block 4 (.rr r34_22 (.k [1,2,13,14,18,19,116,117,118] (.rr r34_23 (.k [1,2,13,14,18,20,116,117,118] (.rr r34_24 (.k [1,2,13,14,116,117,118,150] (.cr 150 r34_25)))))))) (.k [1,2,13,14,116,117,118] (.rg r34_26))))))))
def r34_27 : Rg :=[.fa 152 1 14,
 .l1 153 152,
 .ln 154 153,
 .mi 155 0]
def r34_28 : Rg :=[.bi 156 .lss 155 154]
def r34_29 : Rg :=[.m 157 155,
 .ix 158 1 153 155,
 .l1 159 158,
 .m 21 157,
 .m 22 159]
def r34_30 : Rg :=[.fa 160 3 13,
 .l1 161 160,
 .m 162 161,
 .lat 163 4 13 162,
 .mt 164 22 162,
 .ct 165 50 [(.t 163),(.t 164)] 162,
 .bnt 166 .lss 165 0 162,
 .an 167 162 166,
 .m 168 167,
 .mt 169 1 168,
 .fat 170 2 14 168,
 .l1t 171 170 168,
 .mt 172 21 168,
 .ixt 173 1 171 172 168,
 .l1t 174 173 168,
 .ixt 175 4 169 174 168,
 .fat 176 0 175 168,
 .l1t 177 176 168,
 .bnt 178 .neq 177 5 168,
 .an 179 168 178]
def r34_31 : Rg :=[.mb 12 false]
def r34_32 : Rg :=[.bn 180 .add 155 1,
 .m 155 180]
def l34_2 : ACode := (.k [1,13,14,153,154,155] (.rr r34_28 (.k [1,13,14,153,154,155,156] (.s (.cc 156 .skip (.exit 5)) (.k [1,13,14,153,154,155] (.s (.block 6 (.rr r34_29 (.k [1,13,14,21,22,153,154,155] (.rr r34_30 (.k [1,13,14,153,154,155,179] (.cr 179 r34_31)))))) (.k [1,13,14,153,154,155] (.rg r34_32))))))))
def r34_33 : Rg :=[.mb 12 true]
def c34 : ACode := (.rr r34_0 (.k [0,1,2,3,4,5] (.s (.draw d34_1) (.k [1,2,3,13,14] (.s (.rr r34_2 (.k [1,2,3,13,14,38] (.cr 38 r34_3))) (.k [1,2,3,13,14] (.s (.rr r34_4 (.k [1,2,3,13,14,43] (.cr 43 r34_5))) (.k [1,2,3,13,14] (.s (.rr r34_6 (.k [1,2,3,13,14,45] (.block 0 (.rr r34_7 (.k [1,2,3,13,14,45,46] (.cc 46 (.s (.draw d34_8) .ret) (.rr r34_9 (.k [1,2,13,14,45,76] (.cc 76 (.rr r34_10 (.k [2,13,14,79,80,81] (.block 1 (.loop l34_0)))) (.rr r34_17 (.k [1,2,13,14,106] (.cc 106 (.s (.rr r34_18 (.k [1,2,13,14,114] (.cr 114 r34_19))) (.k [1,2,13,14] (.s (.rr r34_20 (.k [1,2,13,14,116,117,118] (.block 3 (.loop l34_1)))) (.k [1,13,14] (.rr r34_27 (.k [1,13,14,153,154,155] (.block 5 (.loop l34_2)))))))) .skip)))))))))))) (.k [] (.rr r34_33 .ret)))))))))))
def a34 : AFunc := ⟨181,c34,[.tmp 12]⟩

def r35_0 : Rg :=[.al 4 [.nsl,.nsl,.nsl],
 .al 5 [(.i .i64 0),(.i .i64 0),(.s [])]]
def r35_1 : Rg :=[.m 9 0,
 .c 10 51 [(.t 9)],
 .m 8 10,
 .ex 11 0 8,
 .ex 12 1 8,
 .m 6 11,
 .st 3 5 12]
def r35_2 : Rg :=[.fa 13 0 5,
 .l1 14 13,
 .bn 15 .neq 14 0]
def d35_3 : List DItem :=[⟨0,.p 16 (.build [.nsl,.nsl,.nsl] []),[],[]⟩,
 ⟨1,.la 17 3 5,[5],[]⟩,
 ⟨2,.st 3 4 16,[4,16],[1]⟩,
 ⟨3,.st 3 5 17,[5,17],[]⟩]
def r35_4 : Rg :=[.p 18 (.mkfn 52 [(.t 4),(.t 5)]),
 ⟨none,(.dfrv (.t 18) []),none⟩]
def r35_5 : Rg :=[.m 19 6,
 .c 20 53 [],
 .p 21 (.build [.nsl,(.i .i64 0),(.i .i64 0),.np] [(0,1,(.t 19)),(3,1,(.t 20))]),
 .bx 22 21,
 .m 7 22]
def r35_6 : Rg :=[.m 23 1,
 .m 24 7,
 ⟨(some 25),(.callv (.t 23) [(.t 24)]),none⟩]
def r35_7 : Rg :=[.m 26 7,
 .c 27 54 [(.t 26),(.c (.i .i64 0))]]
def r35_8 : Rg :=[.m 28 7,
 .nk 29 28,
 .fa 30 3 29,
 .l1 31 30,
 .c 32 55 [(.t 31)],
 .p 33 (.build [(.i .i64 0),(.i .i64 0),(.s [])] []),
 .st 3 4 32,
 .st 3 5 33]
def c35 : ACode := (.rr r35_0 (.k [0,1,4,5] (.rr r35_1 (.k [1,4,5,6] (.s (.rr r35_2 (.k [1,4,5,6,15] (.cc 15 (.s (.draw d35_3) .ret) .skip))) (.k [1,4,5,6] (.rr r35_4 (.k [1,4,5,6] (.rr r35_5 (.k [1,4,5,7] (.rr r35_6 (.k [4,5,7] (.rr r35_7 (.k [4,5,7] (.rr r35_8 .ret)))))))))))))))
def a35 : AFunc := ⟨34,c35,[.cell 4 3 true,.cell 5 3 true]⟩

def r36_0 : Rg :=[.m 2 0,
 .c 3 37 [(.t 2)]]
def c36 : ACode := (.rg r36_0)
def a36 : AFunc := ⟨4,c36,[]⟩

def r37_0 : Rg :=[.mi 2 0]
def r37_1 : Rg :=[.m 5 0,
 .c 6 56 [(.t 5)]]
def r37_2 : Rg :=[.m 7 0,
 ⟨none,(.dfr 57 [(.t 7)]),none⟩]
def r37_3 : Rg :=[.m 8 0,
 .c 9 58 [(.t 8)],
 .m 3 9]
def r37_4 : Rg :=[.m 10 0,
 .n 11 (.bsl 1 1 [(.s [])] [(0,(.c (.s [45,62])))]),
 .c 12 59 [(.t 10),(.t 11)],
 .no 13 12]
def r37_5 : Rg :=[.m 14 3,
 .m 2 14]
def r37_6 : Rg :=[.m 15 0,
 .c 16 60 [(.t 15)],
 .p 17 (.field 2 1 false (.t 16)),
 .m 4 17]
def r37_7 : Rg :=[.m 18 0,
 .m 19 4,
 .m 20 3,
 .m 21 0,
 .c 22 37 [(.t 21)],
 .n 23 (.bsl 1 2 [(.i .i64 0)] [(0,(.t 20)),(1,(.t 22))]),
 .p 24 (.build [(.i .i64 0),(.i .i64 0),(.s []),.nsl,.nsl,(.b false)] [(0,1,(.c (.i .i64 7))),(1,1,(.t 19)),(4,1,(.t 23))]),
 .c 25 61 [(.t 18),(.t 24)],
 .m 2 25]
def c37 : ACode := (.rr r37_0 (.k [0] (.rr r37_1 (.k [0] (.rr r37_2 (.k [0] (.rr r37_3 (.k [0,3] (.s (.rr r37_4 (.k [0,3,13] (.cr 13 r37_5))) (.k [0,3] (.rr r37_6 (.k [0,3,4] (.rr r37_7 .ret)))))))))))))
def a37 : AFunc := ⟨26,c37,[.tmp 2]⟩

def r38_0 : Rg :=[.bx 1 0,
 .al 2 [.nsl,.nsl,.nsl]]
def r38_1 : Rg :=[.fa 11 0 1,
 .l1 12 11,
 .ln 13 12,
 .bn 14 .gtr 13 0]
def r38_2 : Rg :=[.la 15 3 1,
 .st 3 2 15]
def r38_3 : Rg :=[.n 16 (.mkmap),
 .m 3 16]
def r38_4 : Rg :=[.fa 17 1 1,
 .l1 18 17,
 .ln 19 18,
 .mi 20 0]
def r38_5 : Rg :=[.bi 21 .lss 20 19]
def r38_6 : Rg :=[.ix 22 6 18 20,
 .la 23 6 22,
 .al 5 [(.i .i64 0),(.i .i64 0),(.s []),.nsl,.nsl,(.b false)],
 .st 6 5 23]
def r38_7 : Rg :=[.fa 24 4 5,
 .l1 25 24,
 .ln 26 25,
 .mi 27 0]
def r38_8 : Rg :=[.bi 28 .lss 27 26]
def r38_9 : Rg :=[.ix 29 1 25 27,
 .l1 30 29,
 .m 7 30]
def r38_10 : Rg :=[.m 31 3,
 .m 32 7,
 .e0 (.upd (.int .i64) (.t 31) (.t 32) (.c (.b true)))]
def r38_11 : Rg :=[.bn 33 .add 27 1,
 .m 27 33]
def l38_0 : ACode := (.k [1,2,3,18,19,20,25,26,27] (.rr r38_8 (.k [1,2,3,18,19,20,25,26,27,28] (.s (.cc 28 .skip (.exit 2)) (.k [1,2,3,18,19,20,25,26,27] (.s (.block 3 (.rr r38_9 (.k [1,2,3,7,18,19,20,25,26,27] (.rg r38_10)))) (.k [1,2,3,18,19,20,25,26,27] (.rg r38_11))))))))
def r38_12 : Rg :=[.bn 34 .add 20 1,
 .m 20 34]
def l38_1 : ACode := (.k [1,2,3,18,19,20] (.rr r38_5 (.k [1,2,3,18,19,20,21] (.s (.cc 21 .skip (.exit 0)) (.k [1,2,3,18,19,20] (.s (.block 1 (.rr r38_6 (.k [1,2,3,5,18,19,20] (.rr r38_7 (.k [1,2,3,18,19,20,25,26,27] (.block 2 (.loop l38_0))))))) (.k [1,2,3,18,19,20] (.rg r38_12))))))))
def r38_13 : Rg :=[.fa 35 2 1,
 .l1 36 35,
 .ln 37 36,
 .mi 38 0]
def r38_14 : Rg :=[.bi 39 .lss 38 37]
def r38_15 : Rg :=[.ix 40 3 36 38,
 .la 41 3 40,
 .al 9 [(.s []),(.i .i64 0),(.i .i64 0)],
 .st 3 9 41]
def r38_16 : Rg :=[.m 42 3,
 .fa 43 1 9,
 .l1 44 43,
 .e0 (.upd (.int .i64) (.t 42) (.t 44) (.c (.b true)))]
def r38_17 : Rg :=[.bn 45 .add 38 1,
 .m 38 45]
def l38_2 : ACode := (.k [1,2,3,36,37,38] (.rr r38_14 (.k [1,2,3,36,37,38,39] (.s (.cc 39 .skip (.exit 4)) (.k [1,2,3,36,37,38] (.s (.block 5 (.rr r38_15 (.k [1,2,3,9,36,37,38] (.rg r38_16)))) (.k [1,2,3,36,37,38] (.rg r38_17))))))))
def r38_18 : Rg :=[.p 46 (.build [(.i .i64 0),(.i .i64 0),(.s []),(.i .i64 0),(.i .u64 0),.nsl,.nsl,.nsl] [(0,1,(.c (.i .i64 1)))]),
 .n 47 (.bsl 8 1 [(.i .i64 0),(.i .i64 0),(.s []),(.i .i64 0),(.i .u64 0),.nsl,.nsl,.nsl] [(0,(.t 46))]),
 .fa 48 0 1,
 .st 1 48 47]
def r38_19 : Rg :=[.fa 49 1 1,
 .l1 50 49,
 .ln 51 50,
 .mi 52 0]
def r38_20 : Rg :=[.bi 53 .lss 52 51]
def r38_21 : Rg :=[.m 54 52,
 .m 10 54]
def r38_22 : Rg :=[.m 55 3,
 .m 56 10,
 .r 57 (.look (.int .i64) (.b false) false (.t 55) (.t 56)),
 .no 58 57]
def r38_23 : Rg :=[.fa 59 0 1,
 .l1 60 59,
 .fa 61 0 1,
 .l1 62 61,
 .ln 63 62,
 .bn 64 .sub 63 1,
 .n 65 (.bsl 1 1 [(.i .i64 0)] [(0,(.t 64))]),
 .m 66 10,
 .n 67 (.bsl 1 1 [(.i .i64 0)] [(0,(.t 66))]),
 .p 68 (.build [(.i .i64 0),(.i .i64 0),(.s []),(.i .i64 0),(.i .u64 0),.nsl,.nsl,.nsl] [(0,1,(.c (.i .i64 15))),(6,1,(.t 65)),(7,1,(.t 67))]),
 .n 69 (.bsl 8 1 [(.i .i64 0),(.i .i64 0),(.s []),(.i .i64 0),(.i .u64 0),.nsl,.nsl,.nsl] [(0,(.t 68))]),
 .e 70 (.app 8 120 (.t 60) (.t 69)),
 .fa 71 0 1,
 .st 1 71 70]
def r38_24 : Rg :=[.bn 72 .add 52 1,
 .m 52 72]
def l38_3 : ACode := (.k [1,2,3,51,52] (.rr r38_20 (.k [1,2,3,51,52,53] (.s (.cc 53 .skip (.exit 6)) (.k [1,2,3,51,52] (.s (.block 7 (.rr r38_21 (.k [1,2,3,10,51,52] (.rr r38_22 (.k [1,2,3,10,51,52,58] (.cc 58 (.rg r38_23) .skip)))))) (.k [1,2,3,51,52] (.rg r38_24))))))))
def r38_25 : Rg :=[.la 73 3 1,
 .st 3 2 73]
def c38 : ACode := (.rr r38_0 (.k [1,2] (.s (.rr r38_1 (.k [1,2,14] (.cr 14 r38_2))) (.k [1,2] (.rr r38_3 (.k [1,2,3] (.s (.rr r38_4 (.k [1,2,3,18,19,20] (.block 0 (.loop l38_1)))) (.k [1,2,3] (.s (.rr r38_13 (.k [1,2,3,36,37,38] (.block 4 (.loop l38_2)))) (.k [1,2,3] (.rr r38_18 (.k [1,2,3] (.s (.rr r38_19 (.k [1,2,3,51,52] (.block 6 (.loop l38_3)))) (.k [1,2] (.rr r38_25 .ret)))))))))))))))
def a38 : AFunc := ⟨74,c38,[.cell 2 3 true]⟩

def r39_0 : Rg :=[.bx 1 0,
 .mi 2 0]
def r39_1 : Rg :=[.fa 12 0 1,
 .l1 13 12,
 .ln 14 13,
 .bn 15 .eql 14 0,
 .m 16 15,
 .faf 17 0 1 16,
 .l1f 18 17 16,
 .lnf 19 18 16,
 .bnf 20 .gtr 19 65536 16,
 .oo 21 16 20,
 .m 22 21,
 .faf 23 1 1 22,
 .l1f 24 23 22,
 .lnf 25 24 22,
 .bnf 26 .gtr 25 65536 22,
 .oo 27 22 26]
def r39_2 : Rg :=[.mi 2 14]
def d39_3 : List DItem :=[⟨0,.fa 28 0 1,[1],[]⟩,
 ⟨1,.l1 29 28,[28],[]⟩,
 ⟨2,.ln 30 29,[29],[]⟩,
 ⟨3,.n 31 (.mksl 1 8 [(.i .i64 0)] (.t 30) (.t 30)),[30],[]⟩,
 ⟨4,.fa 32 1 1,[1],[]⟩,
 ⟨5,.l1 33 32,[32],[]⟩,
 ⟨6,.ln 34 33,[33],[]⟩,
 ⟨7,.n 35 (.mksl 1 8 [(.i .i64 0)] (.t 34) (.t 34)),[34],[]⟩,
 ⟨8,.m 3 31,[31],[]⟩,
 ⟨9,.m 4 35,[35],[]⟩]
def r39_4 : Rg :=[.fa 36 0 1,
 .l1 37 36,
 .ln 38 37,
 .mi 39 0]
def r39_5 : Rg :=[.bi 40 .lss 39 38]
def r39_6 : Rg :=[.m 41 39,
 .ix 42 8 37 39,
 .la 43 8 42,
 .al 6 [(.i .i64 0),(.i .i64 0),(.s []),(.i .i64 0),(.i .u64 0),.nsl,.nsl,.nsl],
 .m 5 41,
 .st 8 6 43]
def r39_7 : Rg :=[.la 44 8 6,
 .c 45 62 [(.t 44)],
 .no 46 45,
 .m 47 46,
 .mf 48 3 47,
 .faf 49 6 6 47,
 .l1f 50 49 47,
 .mf 51 5 47,
 .cf 52 63 [(.t 48),(.t 50),(.t 51)] 47,
 .nof 53 52 47,
 .oo 54 47 53,
 .m 55 54,
 .mf 56 4 55,
 .faf 57 7 6 55,
 .l1f 58 57 55,
 .faf 59 1 1 55,
 .l1f 60 59 55,
 .lnf 61 60 55,
 .cf 62 63 [(.t 56),(.t 58),(.t 61)] 55,
 .nof 63 62 55,
 .oo 64 55 63]
def r39_8 : Rg :=[.mi 2 14]
def r39_9 : Rg :=[.bn 65 .add 39 1,
 .m 39 65]
def l39_0 : ACode := (.k [1,3,4,37,38,39] (.rr r39_5 (.k [1,3,4,37,38,39,40] (.s (.cc 40 .skip (.exit 0)) (.k [1,3,4,37,38,39] (.s (.block 1 (.rr r39_6 (.k [1,3,4,5,6,37,38,39] (.rr r39_7 (.k [1,3,4,37,38,39,64] (.cr 64 r39_8)))))) (.k [1,3,4,37,38,39] (.rg r39_9))))))))
def r39_10 : Rg :=[.fa 66 1 1,
 .l1 67 66,
 .ln 68 67,
 .mi 69 0]
def r39_11 : Rg :=[.bi 70 .lss 69 68]
def r39_12 : Rg :=[.m 71 69,
 .ix 72 6 67 69,
 .la 73 6 72,
 .al 8 [(.i .i64 0),(.i .i64 0),(.s []),.nsl,.nsl,(.b false)],
 .m 7 71,
 .st 6 8 73]
def r39_13 : Rg :=[.la 74 6 8,
 .c 75 64 [(.t 74)],
 .no 76 75,
 .m 77 76,
 .mf 78 4 77,
 .faf 79 4 8 77,
 .l1f 80 79 77,
 .mf 81 7 77,
 .cf 82 63 [(.t 78),(.t 80),(.t 81)] 77,
 .nof 83 82 77,
 .oo 84 77 83]
def r39_14 : Rg :=[.mi 2 14]
def r39_15 : Rg :=[.bn 85 .add 69 1,
 .m 69 85]
def l39_1 : ACode := (.k [1,3,4,67,68,69] (.rr r39_11 (.k [1,3,4,67,68,69,70] (.s (.cc 70 .skip (.exit 2)) (.k [1,3,4,67,68,69] (.s (.block 3 (.rr r39_12 (.k [1,3,4,7,8,67,68,69] (.rr r39_13 (.k [1,3,4,67,68,69,84] (.cr 84 r39_14)))))) (.k [1,3,4,67,68,69] (.rg r39_15))))))))
def r39_16 : Rg :=[.fa 86 2 1,
 .l1 87 86,
 .ln 88 87,
 .mi 89 0]
def r39_17 : Rg :=[.bi 90 .lss 89 88]
def r39_18 : Rg :=[.ix 91 3 87 89,
 .la 92 3 91,
 .al 10 [(.s []),(.i .i64 0),(.i .i64 0)],
 .st 3 10 92]
def r39_19 : Rg :=[.fa 93 0 10,
 .l1 94 93,
 .c 95 65 [(.t 94)],
 .no 96 95,
 .m 97 96,
 .mf 98 4 97,
 .faf 99 1 10 97,
 .l1f 100 99 97,
 .nf 101 (.bsl 1 1 [(.i .i64 0)] [(0,(.t 100))]) 97,
 .faf 102 1 1 97,
 .l1f 103 102 97,
 .lnf 104 103 97,
 .cf 105 63 [(.t 98),(.t 101),(.t 104)] 97,
 .nof 106 105 97,
 .oo 107 97 106]
def r39_20 : Rg :=[.mi 2 14]
def r39_21 : Rg :=[.bn 108 .add 89 1,
 .m 89 108]
def l39_2 : ACode := (.k [1,3,4,87,88,89] (.rr r39_17 (.k [1,3,4,87,88,89,90] (.s (.cc 90 .skip (.exit 4)) (.k [1,3,4,87,88,89] (.s (.block 5 (.rr r39_18 (.k [1,3,4,10,87,88,89] (.rr r39_19 (.k [1,3,4,87,88,89,107] (.cr 107 r39_20)))))) (.k [1,3,4,87,88,89] (.rg r39_21))))))))
def r39_22 : Rg :=[.m 109 3,
 .m 110 3,
 .ln 111 110,
 .bn 112 .sub 111 1,
 .ix 113 1 109 112,
 .l1 114 113,
 .bn 115 .add 114 1,
 .ix 116 1 109 112,
 .st 1 116 115]
def r39_23 : Rg :=[.p 11 (.mov (.c (.f 66 [])))]
def r39_24 : Rg :=[.m 117 3,
 .m 118 11,
 .c 119 67 [(.t 117),(.t 118)],
 .m 120 119,
 .mf 121 4 120,
 .mf 122 11 120,
 .cf 123 67 [(.t 121),(.t 122)] 120,
 .oo 124 120 123]
def r39_25 : Rg :=[.mi 2 14]
def r39_26 : Rg :=[.mi 2 0]
def c39 : ACode := (.rr r39_0 (.k [1] (.s (.rr r39_1 (.k [1,27] (.cr 27 r39_2))) (.k [1] (.s (.draw d39_3) (.k [1,3,4] (.s (.rr r39_4 (.k [1,3,4,37,38,39] (.block 0 (.loop l39_0)))) (.k [1,3,4] (.s (.rr r39_10 (.k [1,3,4,67,68,69] (.block 2 (.loop l39_1)))) (.k [1,3,4] (.s (.rr r39_16 (.k [1,3,4,87,88,89] (.block 4 (.loop l39_2)))) (.k [3,4] (.rr r39_22 (.k [3,4] (.rr r39_23 (.k [3,4,11] (.s (.rr r39_24 (.k [124] (.cr 124 r39_25))) (.k [] (.rr r39_26 .ret)))))))))))))))))))
def a39 : AFunc := ⟨125,c39,[.tmp 2]⟩

def r40_0 : Rg :=[.mi 4 0,
 .mi 5 0]
def r40_1 : Rg :=[.m 17 0,
 .nk 18 17,
 .fa 19 0 18,
 .la 20 3 19,
 .m 21 1,
 .c 22 68 [(.t 20),(.t 21)],
 .m 16 22,
 .ex 23 0 16,
 .ex 24 1 16,
 .m 1 23,
 .m 6 24]
def r40_2 : Rg :=[.m 25 6,
 .bn 26 .neq 25 0]
def r40_3 : Rg :=[.m 27 6,
 .mi 4 0,
 .m 5 27]
def r40_4 : Rg :=[.m 29 0,
 .nk 30 29,
 .fa 31 3 30,
 .l1 32 31,
 .m 33 1,
 .r 34 (.look (.int .i64) (.i .i64 0) true (.t 32) (.t 33)),
 .m 28 34,
 .ex 35 0 28,
 .ex 36 1 28,
 .m 7 35,
 .m 8 36]
def r40_5 : Rg :=[.m 37 8]
def r40_6 : Rg :=[.m 38 7,
 .m 4 38,
 .mi 5 0]
def r40_7 : Rg :=[.m 39 0,
 .nk 40 39,
 .fa 41 4 40,
 .l1 42 41,
 .ln 43 42,
 .bn 44 .geq 43 4096]
def r40_8 : Rg :=[.mi 4 0,
 .mi 5 20]
def r40_9 : Rg :=[.m 45 0,
 .nk 46 45,
 .fa 47 0 46,
 .fa 48 1 47,
 .l1 49 48,
 .m 50 1,
 .ix 51 6 49 50,
 .la 52 6 51,
 .al 9 [(.i .i64 0),(.i .i64 0),(.s []),.nsl,.nsl,(.b false)],
 .st 6 9 52]
def r40_10 : Rg :=[.m 53 0,
 .nk 54 53,
 .fa 55 4 54,
 .l1 56 55,
 .ln 57 56,
 .m 10 57]
def r40_11 : Rg :=[.m 58 0,
 .nk 59 58,
 .fa 60 3 59,
 .l1 61 60,
 .m 62 1,
 .m 63 10,
 .e0 (.upd (.int .i64) (.t 61) (.t 62) (.t 63))]
def d40_12 : List DItem :=[⟨0,.fa 64 0 9,[9],[]⟩,
 ⟨1,.l1 65 64,[64],[]⟩,
 ⟨2,.fa 66 3 9,[9],[]⟩,
 ⟨3,.l1 67 66,[66],[]⟩,
 ⟨5,.fa 69 5 9,[9],[]⟩,
 ⟨6,.l1 70 69,[69],[]⟩,
 ⟨8,.al 11 [(.i .i64 0),.nsl,.nsl,(.b false)],[],[]⟩,
 ⟨4,.c 68 69 [(.t 67)],[67],[8,6,5,1,0]⟩,
 ⟨7,.p 71 (.build [(.i .i64 0),.nsl,.nsl,(.b false)] [(0,1,(.t 65)),(1,1,(.t 68)),(3,1,(.t 70))]),[65,68,70],[]⟩,
 ⟨9,.st 4 11 71,[11,71],[]⟩]
def d40_13 : List DItem :=[⟨0,.m 72 0,[0],[]⟩,
 ⟨1,.m 73 0,[0],[]⟩,
 ⟨2,.nk 74 73,[73],[]⟩,
 ⟨3,.fa 75 4 74,[74],[]⟩,
 ⟨4,.l1 76 75,[75],[]⟩,
 ⟨5,.la 77 4 11,[11],[]⟩,
 ⟨6,.n 78 (.bsl 4 1 [(.i .i64 0),.nsl,.nsl,(.b false)] [(0,(.t 77))]),[77],[]⟩,
 ⟨7,.e 79 (.app 4 64 (.t 76) (.t 78)),[76,78],[0]⟩,
 ⟨8,.nk 80 72,[72],[]⟩,
 ⟨9,.fa 81 4 80,[80],[]⟩,
 ⟨10,.st 1 81 79,[81,79],[]⟩]
def r40_14 : Rg :=[.fa 82 4 9,
 .l1 83 82,
 .ln 84 83,
 .mi 85 0]
def r40_15 : Rg :=[.bi 86 .lss 85 84]
def r40_16 : Rg :=[.ix 87 1 83 85,
 .l1 88 87,
 .m 13 88]
def r40_17 : Rg :=[.m 90 0,
 .m 91 13,
 .c 92 40 [(.t 90),(.t 91)],
 .m 89 92,
 .ex 93 0 89,
 .ex 94 1 89,
 .m 14 93,
 .m 15 94]
def r40_18 : Rg :=[.m 95 15,
 .bn 96 .neq 95 0]
def r40_19 : Rg :=[.m 97 15,
 .mi 4 0,
 .m 5 97]
def r40_20 : Rg :=[.fa 98 2 11,
 .l1 99 98,
 .m 100 14,
 .n 101 (.bsl 1 1 [(.i .i64 0)] [(0,(.t 100))]),
 .e 102 (.app 1 8 (.t 99) (.t 101)),
 .fa 103 2 11,
 .st 1 103 102]
def r40_21 : Rg :=[.bn 104 .add 85 1,
 .m 85 104]
def l40_0 : ACode := (.k [0,10,11,83,84,85] (.rr r40_15 (.k [0,10,11,83,84,85,86] (.s (.cc 86 .skip (.exit 0)) (.k [0,10,11,83,84,85] (.s (.block 1 (.rr r40_16 (.k [0,10,11,13,83,84,85] (.rr r40_17 (.k [0,10,11,14,15,83,84,85] (.s (.rr r40_18 (.k [0,10,11,14,15,83,84,85,96] (.cr 96 r40_19))) (.k [0,10,11,14,83,84,85] (.rg r40_20)))))))) (.k [0,10,11,83,84,85] (.rg r40_21))))))))
def r40_22 : Rg :=[.fa 105 1 11,
 .l1 106 105,
 .ln 107 106,
 .bn 108 .gtr 107 0]
def r40_23 : Rg :=[.la 109 4 11,
 .p 110 (.build [(.i .i64 0),.nsl,.nsl,(.b false)] [(0,4,(.t 109))]),
 .p 111 (.mkifc 133 (.t 110)),
 .c 112 70 [(.t 111)]]
def d40_24 : List DItem :=[⟨0,.m 113 0,[0],[]⟩,
 ⟨1,.nk 114 113,[113],[]⟩,
 ⟨2,.fa 115 4 114,[114],[]⟩,
 ⟨3,.l1 116 115,[115],[]⟩,
 ⟨4,.m 117 10,[10],[]⟩,
 ⟨5,.la 118 4 11,[11],[]⟩,
 ⟨6,.ix 119 4 116 117,[116,117],[]⟩,
 ⟨7,.st 4 119 118,[119,118],[]⟩]
def r40_25 : Rg :=[.m 120 10,
 .m 4 120,
 .mi 5 0]
def c40 : ACode := (.rr r40_0 (.k [0,1] (.rr r40_1 (.k [0,1,6] (.s (.rr r40_2 (.k [0,1,6,26] (.cr 26 r40_3))) (.k [0,1] (.s (.rr r40_4 (.k [0,1,7,8] (.rr r40_5 (.k [0,1,7,37] (.cr 37 r40_6))))) (.k [0,1] (.s (.rr r40_7 (.k [0,1,44] (.cr 44 r40_8))) (.k [0,1] (.rr r40_9 (.k [0,1,9] (.rr r40_10 (.k [0,1,9,10] (.rr r40_11 (.k [0,9,10] (.s (.draw d40_12) (.k [0,9,10,11] (.s (.draw d40_13) (.k [0,9,10,11] (.s (.rr r40_14 (.k [0,10,11,83,84,85] (.block 0 (.loop l40_0)))) (.k [0,10,11] (.s (.rr r40_22 (.k [0,10,11,108] (.cc 108 (.rg r40_23) .skip))) (.k [0,10,11] (.s (.draw d40_24) (.k [10] (.rr r40_25 .ret)))))))))))))))))))))))))))
def a40 : AFunc := ⟨121,c40,[.tmp 4,.tmp 5]⟩

def r41_0 : Rg :=[.al 4 [.nsl,(.i .i64 0)]]
def r41_1 : Rg :=[.m 19 0,
 .c 20 71 [(.t 19)],
 .m 5 20]
def r41_2 : Rg :=[.n 21 (.mkmap),
 .m 6 21]
def r41_3 : Rg :=[.m 22 0,
 .ln 23 22,
 .bn 24 .sub 23 1,
 .m 7 24]
def r41_4 : Rg :=[.m 25 7,
 .bn 26 .geq 25 0]
def r41_5 : Rg :=[.m 29 6,
 .m 30 5,
 .m 31 7,
 .ix 32 1 30 31,
 .l1 33 32,
 .m 34 7,
 .e0 (.upd (.int .i64) (.t 29) (.t 33) (.t 34))]
def r41_6 : Rg :=[.m 27 7,
 .bn 28 .sub 27 1,
 .m 7 28]
def l41_0 : ACode := (.k [0,1,4,5,6,7] (.s (.rr r41_4 (.k [0,1,4,5,6,7,26] (.cc 26 .skip (.exit 0)))) (.k [0,1,4,5,6,7] (.s (.block 1 (.rg r41_5)) (.k [0,1,4,5,6,7] (.rg r41_6))))))
def r41_7 : Rg :=[.n 35 (.mkmap),
 .m 36 5,
 .m 37 1,
 .ix 38 1 36 37,
 .l1 39 38,
 .e0 (.upd (.int .i64) (.t 35) (.t 39) (.c (.i .i64 0))),
 .m 40 35,
 .m 8 40]
def r41_8 : Rg :=[.m 41 5,
 .m 42 1,
 .ix 43 1 41 42,
 .l1 44 43,
 .n 45 (.bsl 1 1 [(.i .i64 0)] [(0,(.t 44))]),
 .m 9 45]
def r41_9 : Rg :=[.al 10 [.nsl,(.i .i64 0)]]
def r41_10 : Rg :=[.mi 11 0]
def r41_11 : Rg :=[.m 46 11,
 .m 47 9,
 .ln 48 47,
 .bi 49 .lss 46 48]
def r41_12 : Rg :=[.m 52 0,
 .m 53 6,
 .m 54 9,
 .m 55 11,
 .ix 56 1 54 55,
 .l1 57 56,
 .r 58 (.look (.int .i64) (.i .i64 0) false (.t 53) (.t 57)),
 .ix 59 4 52 58,
 .la 60 4 59,
 .al 12 [(.i .i64 0),.nsl,.nsl,(.b false)],
 .st 4 12 60]
def r41_13 : Rg :=[.fa 61 1 12,
 .l1 62 61,
 .c 63 69 [(.t 62)],
 .fa 64 1 12,
 .st 1 64 63]
def r41_14 : Rg :=[.n 65 (.bsl 1 0 [(.i .i64 0)] []),
 .m 13 65]
def r41_15 : Rg :=[.fa 66 2 12,
 .l1 67 66,
 .ln 68 67,
 .mi 69 0]
def r41_16 : Rg :=[.bi 70 .lss 69 68]
def r41_17 : Rg :=[.ix 71 1 67 69,
 .l1 72 71,
 .m 15 72]
def r41_18 : Rg :=[.m 73 5,
 .m 74 15,
 .ix 75 1 73 74,
 .l1 76 75,
 .m 16 76]
def r41_19 : Rg :=[.m 78 8,
 .m 79 16,
 .r 80 (.look (.int .i64) (.i .i64 0) true (.t 78) (.t 79)),
 .m 77 80,
 .ex 81 0 77,
 .ex 82 1 77,
 .m 17 81,
 .m 18 82]
def r41_20 : Rg :=[.m 83 18,
 .no 84 83]
def r41_21 : Rg :=[.m 85 8,
 .m 86 16,
 .m 87 9,
 .ln 88 87,
 .e0 (.upd (.int .i64) (.t 85) (.t 86) (.t 88))]
def r41_22 : Rg :=[.m 89 9,
 .m 90 16,
 .n 91 (.bsl 1 1 [(.i .i64 0)] [(0,(.t 90))]),
 .e 92 (.app 1 8 (.t 89) (.t 91)),
 .m 9 92]
def r41_23 : Rg :=[.m 93 13,
 .m 94 8,
 .m 95 16,
 .r 96 (.look (.int .i64) (.i .i64 0) false (.t 94) (.t 95)),
 .n 97 (.bsl 1 1 [(.i .i64 0)] [(0,(.t 96))]),
 .e 98 (.app 1 8 (.t 93) (.t 97)),
 .m 13 98]
def r41_24 : Rg :=[.bn 99 .add 69 1,
 .m 69 99]
def l41_1 : ACode := (.k [0,4,5,6,8,9,10,11,12,13,67,68,69] (.rr r41_16 (.k [0,4,5,6,8,9,10,11,12,13,67,68,69,70] (.s (.cc 70 .skip (.exit 4)) (.k [0,4,5,6,8,9,10,11,12,13,67,68,69] (.s (.block 5 (.rr r41_17 (.k [0,4,5,6,8,9,10,11,12,13,15,67,68,69] (.rr r41_18 (.k [0,4,5,6,8,9,10,11,12,13,16,67,68,69] (.s (.rr r41_19 (.k [0,4,5,6,8,9,10,11,12,13,16,18,67,68,69] (.rr r41_20 (.k [0,4,5,6,8,9,10,11,12,13,16,67,68,69,84] (.cc 84 (.rr r41_21 (.k [0,4,5,6,8,9,10,11,12,13,16,67,68,69] (.rg r41_22))) .skip))))) (.k [0,4,5,6,8,9,10,11,12,13,16,67,68,69] (.rg r41_23)))))))) (.k [0,4,5,6,8,9,10,11,12,13,67,68,69] (.rg r41_24))))))))
def r41_25 : Rg :=[.m 100 13,
 .fa 101 2 12,
 .st 1 101 100]
def r41_26 : Rg :=[.fa 102 0 10,
 .l1 103 102,
 .la 104 4 12,
 .n 105 (.bsl 4 1 [(.i .i64 0),.nsl,.nsl,(.b false)] [(0,(.t 104))]),
 .e 106 (.app 4 64 (.t 103) (.t 105)),
 .fa 107 0 10,
 .st 1 107 106]
def r41_27 : Rg :=[.m 50 11,
 .bn 51 .add 50 1,
 .m 11 51]
def l41_2 : ACode := (.k [0,4,5,6,8,9,10,11] (.s (.rr r41_11 (.k [0,4,5,6,8,9,10,11,49] (.cc 49 .skip (.exit 2)))) (.k [0,4,5,6,8,9,10,11] (.s (.block 3 (.rr r41_12 (.k [0,4,5,6,8,9,10,11,12] (.rr r41_13 (.k [0,4,5,6,8,9,10,11,12] (.rr r41_14 (.k [0,4,5,6,8,9,10,11,12,13] (.s (.rr r41_15 (.k [0,4,5,6,8,9,10,11,12,13,67,68,69] (.block 4 (.loop l41_1)))) (.k [0,4,5,6,8,9,10,11,12,13] (.rr r41_25 (.k [0,4,5,6,8,9,10,11,12] (.rg r41_26)))))))))))) (.k [0,4,5,6,8,9,10,11] (.rg r41_27))))))
def r41_28 : Rg :=[.la 108 2 10,
 .st 2 4 108]
def c41 : ACode := (.rr r41_0 (.k [0,1,4] (.rr r41_1 (.k [0,1,4,5] (.rr r41_2 (.k [0,1,4,5,6] (.s (.rr r41_3 (.k [0,1,4,5,6,7] (.block 0 (.loop l41_0)))) (.k [0,1,4,5,6] (.rr r41_7 (.k [0,1,4,5,6,8] (.rr r41_8 (.k [0,4,5,6,8,9] (.rr r41_9 (.k [0,4,5,6,8,9,10] (.s (.rr r41_10 (.k [0,4,5,6,8,9,10,11] (.block 2 (.loop l41_2)))) (.k [4,10] (.rr r41_28 .ret)))))))))))))))))
def a41 : AFunc := ⟨109,c41,[.cell 4 2 true]⟩

def r42_0 : Rg :=[.bx 1 0,
 .p 2 (.mov (.c (.s [])))]
def r42_1 : Rg :=[.fa 6 0 1,
 .l1 7 6,
 .p 8 (.idxS (.c (.s [105,98,115,102,100,42,33,62,123,91])) (.t 7)),
 .p 9 (.convIS (.t 8)),
 .m 3 9]
def r42_2 : Rg :=[.fa 10 3 1,
 .l1 11 10]
def r42_3 : Rg :=[.p 3 (.mov (.c (.s [93])))]
def r42_4 : Rg :=[.fa 12 1 1,
 .l1 13 12,
 .ln 14 13,
 .mi 15 0]
def r42_5 : Rg :=[.bi 16 .lss 15 14]
def r42_6 : Rg :=[.ix 17 1 13 15,
 .l1 18 17,
 .m 5 18]
def r42_7 : Rg :=[.m 19 3,
 .m 20 5,
 .p 21 (.bin .add (.t 20) (.c (.s [58]))),
 .bi 22 .add 19 21,
 .m 3 22]
def r42_8 : Rg :=[.bn 23 .add 15 1,
 .m 15 23]
def l42_0 : ACode := (.k [3,13,14,15] (.rr r42_5 (.k [3,13,14,15,16] (.s (.cc 16 .skip (.exit 0)) (.k [3,13,14,15] (.s (.block 1 (.rr r42_6 (.k [3,5,13,14,15] (.rg r42_7)))) (.k [3,13,14,15] (.rg r42_8))))))))
def r42_9 : Rg :=[.m 24 3,
 .m 2 24]
def c42 : ACode := (.rr r42_0 (.k [1] (.rr r42_1 (.k [1,3] (.s (.rr r42_2 (.k [1,3,11] (.cc 11 (.rg r42_3) .skip))) (.k [1,3] (.s (.rr r42_4 (.k [3,13,14,15] (.block 0 (.loop l42_0)))) (.k [3] (.rr r42_9 .ret)))))))))
def a42 : AFunc := ⟨25,c42,[.tmp 2]⟩

def r44_0 : Rg :=[.bx 2 0,
 .mb 4 false]
def r44_1 : Rg :=[.fa 10 0 2,
 .l1 11 10,
 .bn 12 .eql 11 10,
 .m 13 12,
 .faf 14 1 2 13,
 .l1f 15 14 13,
 .cf 16 73 [(.t 15)] 13,
 .nof 17 16 13,
 .oo 18 13 17]
def r44_2 : Rg :=[.mb 4 false]
def r44_3 : Rg :=[.fa 19 2 2,
 .l1 20 19,
 .ln 21 20,
 .mi 22 0]
def r44_4 : Rg :=[.bi 23 .lss 22 21]
def r44_5 : Rg :=[.ix 24 1 20 22,
 .l1 25 24,
 .m 6 25]
def r44_6 : Rg :=[.m 26 6,
 .bn 27 .lss 26 0,
 .m 28 27,
 .mf 29 6 28,
 .mf 30 1 28,
 .bif 31 .geq 29 30 28,
 .oo 32 28 31]
def r44_7 : Rg :=[.mb 4 false]
def r44_8 : Rg :=[.bn 33 .add 22 1,
 .m 22 33]
def l44_0 : ACode := (.k [1,2,20,21,22] (.rr r44_4 (.k [1,2,20,21,22,23] (.s (.cc 23 .skip (.exit 0)) (.k [1,2,20,21,22] (.s (.block 1 (.rr r44_5 (.k [1,2,6,20,21,22] (.rr r44_6 (.k [1,2,20,21,22,32] (.cr 32 r44_7)))))) (.k [1,2,20,21,22] (.rg r44_8))))))))
def r44_9 : Rg :=[.la 34 4 2,
 .c 35 74 [(.t 34)],
 .al 7 [(.i .i64 0),(.i .i64 0),(.s []),.nsl,.nsl,(.b false)],
 .st 6 7 35]
def r44_10 : Rg :=[.p 36 (.build [(.i .i64 0),(.i .i64 0),(.s []),(.i .i64 0),(.i .u64 0),.nsl,.nsl,.nsl] [(0,1,(.c (.i .i64 1)))]),
 .n 37 (.bsl 1 1 [(.i .i64 0)] [(0,(.c (.i .i64 0)))]),
 .fa 38 2 2,
 .l1 39 38,
 .ln 40 39,
 .n 41 (.bsl 1 1 [(.i .i64 0)] [(0,(.t 40))]),
 .p 42 (.build [(.i .i64 0),(.i .i64 0),(.s []),(.i .i64 0),(.i .u64 0),.nsl,.nsl,.nsl] [(0,1,(.c (.i .i64 15))),(6,1,(.t 37)),(7,1,(.t 41))]),
 .n 43 (.bsl 8 2 [(.i .i64 0),(.i .i64 0),(.s []),(.i .i64 0),(.i .u64 0),.nsl,.nsl,.nsl] [(0,(.t 36)),(1,(.t 42))]),
 .p 44 (.build [.nsl,.nsl,.nsl] [(0,1,(.t 43))]),
 .al 8 [.nsl,.nsl,.nsl],
 .st 3 8 44]
def r44_11 : Rg :=[.fa 45 4 7,
 .e0 (.store 1 (.t 45) (.c .nsl))]
def r44_12 : Rg :=[.fa 46 2 2,
 .l1 47 46,
 .ln 48 47,
 .mi 49 0]
def r44_13 : Rg :=[.bi 50 .lss 49 48]
def r44_14 : Rg :=[.m 51 49,
 .m 9 51]
def r44_15 : Rg :=[.fa 52 4 7,
 .l1 53 52,
 .m 54 9,
 .n 55 (.bsl 1 1 [(.i .i64 0)] [(0,(.t 54))]),
 .e 56 (.app 1 8 (.t 53) (.t 55)),
 .fa 57 4 7,
 .st 1 57 56]
def r44_16 : Rg :=[.fa 58 1 8,
 .l1 59 58,
 .p 60 (.build [(.i .i64 0),(.i .i64 0),(.s []),.nsl,.nsl,(.b false)] [(0,1,(.c (.i .i64 0)))]),
 .n 61 (.bsl 6 1 [(.i .i64 0),(.i .i64 0),(.s []),.nsl,.nsl,(.b false)] [(0,(.t 60))]),
 .e 62 (.app 6 88 (.t 59) (.t 61)),
 .fa 63 1 8,
 .st 1 63 62]
def r44_17 : Rg :=[.bn 64 .add 49 1,
 .m 49 64]
def l44_1 : ACode := (.k [7,8,48,49] (.rr r44_13 (.k [7,8,48,49,50] (.s (.cc 50 .skip (.exit 2)) (.k [7,8,48,49] (.s (.block 3 (.rr r44_14 (.k [7,8,9,48,49] (.rr r44_15 (.k [7,8,48,49] (.rg r44_16)))))) (.k [7,8,48,49] (.rg r44_17))))))))
def r44_18 : Rg :=[.fa 65 1 8,
 .l1 66 65,
 .la 67 6 7,
 .n 68 (.bsl 6 1 [(.i .i64 0),(.i .i64 0),(.s []),.nsl,.nsl,(.b false)] [(0,(.t 67))]),
 .e 69 (.app 6 88 (.t 66) (.t 68)),
 .fa 70 1 8,
 .st 1 70 69]
def r44_19 : Rg :=[.la 71 3 8,
 .c 72 39 [(.t 71)],
 .bn 73 .eql 72 0,
 .m 4 73]
def c44 : ACode := (.rr r44_0 (.k [1,2] (.s (.rr r44_1 (.k [1,2,18] (.cr 18 r44_2))) (.k [1,2] (.s (.rr r44_3 (.k [1,2,20,21,22] (.block 0 (.loop l44_0)))) (.k [2] (.rr r44_9 (.k [2,7] (.rr r44_10 (.k [2,7,8] (.rr r44_11 (.k [2,7,8] (.s (.rr r44_12 (.k [7,8,48,49] (.block 2 (.loop l44_1)))) (.k [7,8] (.rr r44_18 (.k [8] (.rr r44_19 .ret)))))))))))))))))
def a44 : AFunc := ⟨74,c44,[.tmp 4]⟩

def r45_0 : Rg :=[.bx 3 1,
 .al 4 [(.i .i64 0),.nsl,.nsl,(.b false)]]
def r45_1 : Rg :=[.al 5 [(.i .i64 0),.nsl,.nsl,(.b false)]]
def r45_2 : Rg :=[.fa 10 1 3,
 .l1 11 10,
 .bn 12 .lss 11 0]
def d45_3 : List DItem :=[⟨0,.m 13 0,[0],[]⟩,
 ⟨1,.nk 14 13,[13],[]⟩,
 ⟨2,.fa 15 0 14,[14],[]⟩,
 ⟨3,.l1 16 15,[15],[]⟩,
 ⟨4,.fa 17 0 3,[3],[]⟩,
 ⟨5,.l1 18 17,[17],[]⟩,
 ⟨6,.ix 19 4 16 18,[16,18],[]⟩,
 ⟨7,.la 20 4 19,[19],[]⟩,
 ⟨8,.st 4 5 20,[5,20],[]⟩]
def d45_4 : List DItem :=[⟨0,.m 21 0,[0],[]⟩,
 ⟨1,.nk 22 21,[21],[]⟩,
 ⟨2,.fa 23 1 22,[22],[]⟩,
 ⟨3,.l1 24 23,[23],[]⟩,
 ⟨4,.fa 25 1 3,[3],[]⟩,
 ⟨5,.l1 26 25,[25],[]⟩,
 ⟨6,.ix 27 4 24 26,[24,26],[]⟩,
 ⟨7,.la 28 4 27,[27],[]⟩,
 ⟨8,.st 4 5 28,[5,28],[]⟩]
def d45_5 : List DItem :=[⟨0,.fa 29 0 5,[5],[]⟩,
 ⟨1,.l1 30 29,[29],[]⟩,
 ⟨2,.fa 31 1 5,[5],[]⟩,
 ⟨3,.l1 32 31,[31],[]⟩,
 ⟨5,.fa 34 3 5,[5],[]⟩,
 ⟨6,.l1 35 34,[34],[]⟩,
 ⟨8,.al 6 [(.i .i64 0),.nsl,.nsl,(.b false)],[],[]⟩,
 ⟨4,.c 33 69 [(.t 32)],[32],[8,6,5,1,0]⟩,
 ⟨7,.p 36 (.build [(.i .i64 0),.nsl,.nsl,(.b false)] [(0,1,(.t 30)),(1,1,(.t 33)),(3,1,(.t 35))]),[30,33,35],[]⟩,
 ⟨9,.st 4 6 36,[6,36],[]⟩]
def r45_6 : Rg :=[.fa 37 2 5,
 .l1 38 37,
 .ln 39 38,
 .mi 40 0]
def r45_7 : Rg :=[.bi 41 .lss 40 39]
def r45_8 : Rg :=[.m 42 40,
 .ix 43 1 38 40,
 .l1 44 43,
 .m 7 42,
 .m 8 44]
def r45_9 : Rg :=[.fa 45 2 3,
 .l1 46 45,
 .fa 47 0 5,
 .l1 48 47,
 .bn 49 .eql 48 7,
 .m 50 49,
 .mt 51 7 50,
 .bnt 52 .eql 51 0 50,
 .an 53 50 52,
 .p 54 (.eqt (.bool) true (.t 46) (.t 53)),
 .m 9 54]
def r45_10 : Rg :=[.fa 55 1 3,
 .l1 56 55,
 .bn 57 .lss 56 0]
def d45_11 : List DItem :=[⟨0,.fa 58 2 6,[6],[]⟩,
 ⟨1,.l1 59 58,[58],[]⟩,
 ⟨2,.m 60 0,[0],[]⟩,
 ⟨3,.m 61 8,[8],[]⟩,
 ⟨4,.m 62 9,[9],[]⟩,
 ⟨5,.p 63 (.build [(.i .i64 0),(.i .i64 0),(.b false)] [(0,1,(.t 61)),(1,1,(.c (.i .i64 (-1)))),(2,1,(.t 62))]),[61,62],[]⟩,
 ⟨6,.c 64 29 [(.t 60),(.t 63)],[60,63],[1,0]⟩,
 ⟨7,.n 65 (.bsl 1 1 [(.i .i64 0)] [(0,(.t 64))]),[64],[]⟩,
 ⟨8,.e 66 (.app 1 8 (.t 59) (.t 65)),[59,65],[]⟩,
 ⟨9,.fa 67 2 6,[6],[]⟩,
 ⟨10,.st 1 67 66,[67,66],[]⟩]
def d45_12 : List DItem :=[⟨0,.fa 68 2 6,[6],[]⟩,
 ⟨1,.l1 69 68,[68],[]⟩,
 ⟨2,.m 70 0,[0],[]⟩,
 ⟨3,.m 71 8,[8],[]⟩,
 ⟨4,.m 72 9,[9],[]⟩,
 ⟨5,.p 73 (.build [(.i .i64 0),(.i .i64 0),(.b false)] [(0,1,(.c (.i .i64 (-1)))),(1,1,(.t 71)),(2,1,(.t 72))]),[71,72],[]⟩,
 ⟨6,.c 74 29 [(.t 70),(.t 73)],[70,73],[1,0]⟩,
 ⟨7,.n 75 (.bsl 1 1 [(.i .i64 0)] [(0,(.t 74))]),[74],[]⟩,
 ⟨8,.e 76 (.app 1 8 (.t 69) (.t 75)),[69,75],[]⟩,
 ⟨9,.fa 77 2 6,[6],[]⟩,
 ⟨10,.st 1 77 76,[77,76],[]⟩]
def r45_13 : Rg :=[.bn 78 .add 40 1,
 .m 40 78]
def l45_0 : ACode := (.k [0,3,4,5,6,38,39,40] (.rr r45_7 (.k [0,3,4,5,6,38,39,40,41] (.s (.cc 41 .skip (.exit 0)) (.k [0,3,4,5,6,38,39,40] (.s (.block 1 (.rr r45_8 (.k [0,3,4,5,6,7,8,38,39,40] (.rr r45_9 (.k [0,3,4,5,6,8,9,38,39,40] (.rr r45_10 (.k [0,3,4,5,6,8,9,38,39,40,57] (.cc 57 (.draw d45_11) (.draw d45_12))))))))) (.k [0,3,4,5,6,38,39,40] (.rg r45_13))))))))
def r45_14 : Rg :=[.la 79 4 6,
 .st 4 4 79]
def c45 : ACode := (.rr r45_0 (.k [0,3,4] (.rr r45_1 (.k [0,3,4,5] (.s (.rr r45_2 (.k [0,3,4,5,12] (.cc 12 (.draw d45_3) (.draw d45_4)))) (.k [0,3,4,5] (.s (.draw d45_5) (.k [0,3,4,5,6] (.s (.rr r45_6 (.k [0,3,4,5,6,38,39,40] (.block 0 (.loop l45_0)))) (.k [4,6] (.rr r45_14 .ret)))))))))))
def a45 : AFunc := ⟨80,c45,[.cell 4 4 true]⟩

def r46_0 : Rg :=[.bx 5 1,
 .al 8 [(.i .i64 0),.nsl,.nsl,(.b false)]]
def d46_1 : List DItem :=[⟨0,.m 14 0,[0],[]⟩,
 ⟨1,.nk 15 14,[14],[]⟩,
 ⟨2,.fa 16 0 15,[15],[]⟩,
 ⟨3,.l1 17 16,[16],[]⟩,
 ⟨4,.fa 18 0 5,[5],[]⟩,
 ⟨5,.l1 19 18,[18],[]⟩,
 ⟨6,.ix 20 4 17 19,[17,19],[]⟩,
 ⟨7,.la 21 4 20,[20],[]⟩,
 ⟨8,.m 22 0,[0],[]⟩,
 ⟨9,.nk 23 22,[22],[]⟩,
 ⟨10,.fa 24 1 23,[23],[]⟩,
 ⟨11,.l1 25 24,[24],[]⟩,
 ⟨12,.fa 26 1 5,[5],[]⟩,
 ⟨13,.l1 27 26,[26],[]⟩,
 ⟨14,.ix 28 4 25 27,[25,27],[]⟩,
 ⟨15,.la 29 4 28,[28],[]⟩,
 ⟨16,.al 9 [(.i .i64 0),.nsl,.nsl,(.b false)],[],[]⟩,
 ⟨17,.al 10 [(.i .i64 0),.nsl,.nsl,(.b false)],[],[]⟩,
 ⟨18,.st 4 9 21,[9,21],[15,14,13,12,11,10,9,8]⟩,
 ⟨19,.st 4 10 29,[10,29],[]⟩]
def r46_2 : Rg :=[.fa 30 0 9,
 .l1 31 30,
 .m 32 3,
 .p 33 (.build [(.i .i64 0),.nsl,.nsl,(.b false)] [(0,1,(.t 31)),(3,1,(.t 32))]),
 .al 11 [(.i .i64 0),.nsl,.nsl,(.b false)],
 .st 4 11 33]
def r46_3 : Rg :=[.m 34 2,
 .ln 35 34,
 .mi 36 0]
def r46_4 : Rg :=[.bi 37 .lss 36 35]
def r46_5 : Rg :=[.ix 38 1 34 36,
 .l1 39 38,
 .m 13 39]
def r46_6 : Rg :=[.fa 40 1 11,
 .l1 41 40,
 .m 42 13,
 .n 43 (.bsl 1 1 [(.s [])] [(0,(.t 42))]),
 .e 44 (.app 1 16 (.t 41) (.t 43)),
 .fa 45 1 11,
 .st 1 45 44]
def d46_7 : List DItem :=[⟨0,.fa 46 2 11,[11],[]⟩,
 ⟨1,.l1 47 46,[46],[]⟩,
 ⟨2,.m 48 0,[0],[]⟩,
 ⟨3,.la 49 4 9,[9],[]⟩,
 ⟨4,.m 50 13,[13],[]⟩,
 ⟨6,.la 52 4 10,[10],[]⟩,
 ⟨7,.m 53 13,[13],[]⟩,
 ⟨9,.fa 55 2 5,[5],[]⟩,
 ⟨10,.l1 56 55,[55],[]⟩,
 ⟨5,.c 51 75 [(.t 49),(.t 50)],[49,50],[10,9,7,6,2,1,0]⟩,
 ⟨8,.c 54 75 [(.t 52),(.t 53)],[52,53],[10,9,2,1,0]⟩,
 ⟨11,.p 57 (.build [(.i .i64 0),(.i .i64 0),(.b false)] [(0,1,(.t 51)),(1,1,(.t 54)),(2,1,(.t 56))]),[51,54,56],[]⟩,
 ⟨12,.c 58 29 [(.t 48),(.t 57)],[48,57],[1,0]⟩,
 ⟨13,.n 59 (.bsl 1 1 [(.i .i64 0)] [(0,(.t 58))]),[58],[]⟩,
 ⟨14,.e 60 (.app 1 8 (.t 47) (.t 59)),[47,59],[]⟩,
 ⟨15,.fa 61 2 11,[11],[]⟩,
 ⟨16,.st 1 61 60,[61,60],[]⟩]
def r46_8 : Rg :=[.bn 62 .add 36 1,
 .m 36 62]
def l46_0 : ACode := (.k [0,5,8,9,10,11,34,35,36] (.rr r46_4 (.k [0,5,8,9,10,11,34,35,36,37] (.s (.cc 37 .skip (.exit 0)) (.k [0,5,8,9,10,11,34,35,36] (.s (.block 1 (.rr r46_5 (.k [0,5,8,9,10,11,13,34,35,36] (.rr r46_6 (.k [0,5,8,9,10,11,13,34,35,36] (.draw d46_7)))))) (.k [0,5,8,9,10,11,34,35,36] (.rg r46_8))))))))
def r46_9 : Rg :=[.la 63 4 11,
 .st 4 8 63]
def c46 : ACode := (.rr r46_0 (.k [0,2,3,5,8] (.s (.draw d46_1) (.k [0,2,3,5,8,9,10] (.rr r46_2 (.k [0,2,5,8,9,10,11] (.s (.rr r46_3 (.k [0,5,8,9,10,11,34,35,36] (.block 0 (.loop l46_0)))) (.k [8,11] (.rr r46_9 .ret)))))))))
def a46 : AFunc := ⟨64,c46,[.cell 8 4 true]⟩

def r47_0 : Rg :=[.bx 3 1,
 .p 4 (.mov (.c .nsl))]
def r47_1 : Rg :=[.m 5 0,
 .c 6 69 [(.t 5)],
 .p 7 (.mkfn 77 [(.t 3)]),
 .c 8 76 [(.t 6),(.t 7)],
 .m 4 8]
def c47 : ACode := (.rr r47_0 (.k [0,3] (.rr r47_1 .ret)))
def a47 : AFunc := ⟨9,c47,[.tmp 4]⟩

def r48_0 : Rg :=[.p 4 (.mov (.c .nsl))]
def r48_1 : Rg :=[.m 6 0,
 .c 7 69 [(.t 6)],
 .m 8 1,
 .e 9 (.app 1 16 (.t 7) (.t 8)),
 .m 5 9]
def r48_2 : Rg :=[.m 10 5,
 .c 11 79 [(.t 10)]]
def r48_3 : Rg :=[.m 12 5,
 .c 13 80 [(.t 12)],
 .m 4 13]
def c48 : ACode := (.rr r48_0 (.k [0,1] (.rr r48_1 (.k [5] (.rr r48_2 (.k [5] (.rr r48_3 .ret)))))))
def a48 : AFunc := ⟨14,c48,[.tmp 4]⟩

def r49_0 : Rg :=[.bx 3 0,
 .bx 4 1,
 .p 6 (.mov (.c .nsl)),
 .mb 7 false]
def r49_1 : Rg :=[.fa 9 3 3,
 .l1 10 9,
 .m 11 10,
 .fat 12 3 4 11,
 .l1t 13 12 11,
 .an 14 11 13,
 .m 15 14,
 .mt 16 2 15,
 .an 17 15 16,
 .m 8 17]
def r49_2 : Rg :=[.fa 18 1 3,
 .l1 19 18,
 .fa 20 1 4,
 .l1 21 20,
 .c 22 47 [(.t 19),(.t 21)],
 .m 6 22,
 .mb 7 true]
def r49_3 : Rg :=[.fa 24 3 3,
 .l1 25 24,
 .m 26 25,
 .fat 27 3 4 26,
 .l1t 28 27 26,
 .an 29 26 28,
 .m 23 29]
def r49_4 : Rg :=[.fa 30 1 3,
 .l1 31 30,
 .fa 32 1 4,
 .l1 33 32,
 .c 34 48 [(.t 31),(.t 33)],
 .m 6 34,
 .mb 7 true]
def r49_5 : Rg :=[.fa 36 3 3,
 .l1 37 36,
 .m 38 37,
 .mt 39 2 38,
 .an 40 38 39,
 .m 35 40]
def r49_6 : Rg :=[.fa 41 1 3,
 .l1 42 41,
 .m 6 42,
 .mb 7 true]
def r49_7 : Rg :=[.fa 44 3 4,
 .l1 45 44,
 .m 46 45,
 .mt 47 2 46,
 .an 48 46 47,
 .m 43 48]
def r49_8 : Rg :=[.fa 49 1 4,
 .l1 50 49,
 .m 6 50,
 .mb 7 true]
def r49_9 : Rg :=[.fa 52 3 3,
 .l1 53 52,
 .m 51 53]
def r49_10 : Rg :=[.fa 54 1 4,
 .l1 55 54,
 .m 6 55,
 .mb 7 false]
def r49_11 : Rg :=[.fa 57 3 4,
 .l1 58 57,
 .m 56 58]
def r49_12 : Rg :=[.fa 59 1 3,
 .l1 60 59,
 .m 6 60,
 .mb 7 false]
def r49_13 : Rg :=[.m 62 2,
 .m 61 62]
def r49_14 : Rg :=[.fa 63 1 3,
 .l1 64 63,
 .fa 65 1 4,
 .l1 66 65,
 .c 67 48 [(.t 64),(.t 66)],
 .m 6 67,
 .mb 7 false]
def r49_15 : Rg :=[.fa 68 1 3,
 .l1 69 68,
 .fa 70 1 4,
 .l1 71 70,
 .c 72 47 [(.t 69),(.t 71)],
 .m 6 72,
 .mb 7 false]
def c49 : ACode := (.rr r49_0 (.k [2,3,4] (.s (.block 0 (.rr r49_1 (.k [2,3,4,8] (.cc 8 (.rr r49_2 .ret) (.rr r49_3 (.k [2,3,4,23] (.cc 23 (.rr r49_4 .ret) (.rr r49_5 (.k [2,3,4,35] (.cc 35 (.rr r49_6 .ret) (.rr r49_7 (.k [2,3,4,43] (.cc 43 (.rr r49_8 .ret) (.rr r49_9 (.k [2,3,4,51] (.cc 51 (.rr r49_10 .ret) (.rr r49_11 (.k [2,3,4,56] (.cc 56 (.rr r49_12 .ret) (.rr r49_13 (.k [3,4,61] (.cr 61 r49_14)))))))))))))))))))))) (.k [3,4] (.rr r49_15 .ret)))))
def a49 : AFunc := ⟨73,c49,[.tmp 6,.tmp 7]⟩

def r50_0 : Rg :=[.bx 2 0,
 .mi 4 0]
def r50_1 : Rg :=[.fa 7 1 2,
 .l1 8 7,
 .ln 9 8,
 .mi 10 0]
def r50_2 : Rg :=[.bi 11 .lss 10 9]
def r50_3 : Rg :=[.m 12 10,
 .ix 13 1 8 10,
 .l1 14 13,
 .m 5 12,
 .m 6 14]
def r50_4 : Rg :=[.m 15 6,
 .m 16 1,
 .bi 17 .eql 15 16]
def r50_5 : Rg :=[.fa 18 2 2,
 .l1 19 18,
 .m 20 5,
 .ix 21 1 19 20,
 .l1 22 21,
 .m 4 22]
def r50_6 : Rg :=[.bn 23 .add 10 1,
 .m 10 23]
def l50_0 : ACode := (.k [1,2,8,9,10] (.rr r50_2 (.k [1,2,8,9,10,11] (.s (.cc 11 .skip (.exit 0)) (.k [1,2,8,9,10] (.s (.block 1 (.rr r50_3 (.k [1,2,5,6,8,9,10] (.rr r50_4 (.k [1,2,5,8,9,10,17] (.cr 17 r50_5)))))) (.k [1,2,8,9,10] (.rg r50_6))))))))
def r50_7 : Rg :=[.mi 4 (-1)]
def c50 : ACode := (.rr r50_0 (.k [1,2] (.s (.rr r50_1 (.k [1,2,8,9,10] (.block 0 (.loop l50_0)))) (.k [] (.rr r50_7 .ret)))))
def a50 : AFunc := ⟨24,c50,[.tmp 4]⟩

def r51_0 : Rg :=[.p 2 (.mov (.c .nsl)),
 .al 3 [(.i .i64 0),(.i .i64 0),(.s [])]]
def r51_1 : Rg :=[.m 10 0,
 .ln 11 10,
 .bn 12 .gtr 11 1048576]
def r51_2 : Rg :=[.p 13 (.build [(.i .i64 0),(.i .i64 0),(.s [])] [(0,1,(.c (.i .i64 6)))]),
 .p 2 (.mov (.c .nsl)),
 .st 3 3 13]
def r51_3 : Rg :=[.m 14 0,
 .c 15 81 [(.t 14)],
 .m 4 15]
def r51_4 : Rg :=[.m 16 4,
 .bn 17 .geq 16 0]
def r51_5 : Rg :=[.m 18 4,
 .p 19 (.build [(.i .i64 0),(.i .i64 0),(.s [])] [(0,1,(.c (.i .i64 2))),(1,1,(.t 18))]),
 .p 2 (.mov (.c .nsl)),
 .st 3 3 19]
def r51_6 : Rg :=[.p 5 (.mov (.c .nsl))]
def r51_7 : Rg :=[.m 20 0,
 .r 21 (.bts (.t 20)),
 .m 6 21]
def r51_8 : Rg :=[.m 22 6,
 .c 23 82 [(.t 22)],
 .m 7 23]
def r51_9 : Rg :=[.m 24 7,
 .m 25 6,
 .p 26 (.lenS (.t 25)),
 .bi 27 .lss 24 26]
def r51_10 : Rg :=[.m 29 6,
 .m 30 7,
 .p 31 (.slcS (.t 29) (some (.t 30)) none),
 .c 32 83 [(.t 31)],
 .m 28 32,
 .ex 33 0 28,
 .ex 34 1 28,
 .al 8 [(.i .i64 0),(.s []),(.i .i64 0)],
 .st 3 8 33,
 .m 9 34]
def r51_11 : Rg :=[.m 35 9,
 .bn 36 .eql 35 0]
def r51_12 : Rg :=[.m 37 7,
 .p 38 (.build [(.i .i64 0),(.i .i64 0),(.s [])] [(0,1,(.c (.i .i64 3))),(1,1,(.t 37))]),
 .p 2 (.mov (.c .nsl)),
 .st 3 3 38]
def r51_13 : Rg :=[.m 39 7,
 .fa 40 2 8,
 .st 1 40 39]
def r51_14 : Rg :=[.m 41 5,
 .la 42 3 8,
 .n 43 (.bsl 3 1 [(.i .i64 0),(.s []),(.i .i64 0)] [(0,(.t 42))]),
 .e 44 (.app 3 32 (.t 41) (.t 43)),
 .m 5 44]
def r51_15 : Rg :=[.m 45 7,
 .m 46 9,
 .bi 47 .add 45 46,
 .m 7 47]
def r51_16 : Rg :=[.m 48 7,
 .m 49 6,
 .m 50 7,
 .p 51 (.slcS (.t 49) (some (.t 50)) none),
 .c 52 82 [(.t 51)],
 .bi 53 .add 48 52,
 .m 7 53]
def l51_0 : ACode := (.k [3,5,6,7] (.s (.rr r51_9 (.k [3,5,6,7,27] (.cc 27 .skip (.exit 0)))) (.k [3,5,6,7] (.block 1 (.rr r51_10 (.k [3,5,6,7,8,9] (.s (.rr r51_11 (.k [3,5,6,7,8,9,36] (.cr 36 r51_12))) (.k [3,5,6,7,8,9] (.rr r51_13 (.k [3,5,6,7,8,9] (.rr r51_14 (.k [3,5,6,7,9] (.rr r51_15 (.k [3,5,6,7] (.rg r51_16)))))))))))))))
def r51_17 : Rg :=[.m 54 5,
 .m 55 6,
 .p 56 (.lenS (.t 55)),
 .p 57 (.build [(.i .i64 0),(.s []),(.i .i64 0)] [(0,1,(.c (.i .i64 0))),(2,1,(.t 56))]),
 .n 58 (.bsl 3 1 [(.i .i64 0),(.s []),(.i .i64 0)] [(0,(.t 57))]),
 .e 59 (.app 3 32 (.t 54) (.t 58)),
 .p 60 (.build [(.i .i64 0),(.i .i64 0),(.s [])] []),
 .m 2 59,
 .st 3 3 60]
def c51 : ACode := (.rr r51_0 (.k [0,3] (.s (.rr r51_1 (.k [0,3,12] (.cr 12 r51_2))) (.k [0,3] (.s (.rr r51_3 (.k [0,3,4] (.rr r51_4 (.k [0,3,4,17] (.cr 17 r51_5))))) (.k [0,3] (.rr r51_6 (.k [0,3,5] (.rr r51_7 (.k [3,5,6] (.rr r51_8 (.k [3,5,6,7] (.s (.block 0 (.loop l51_0)) (.k [3,5,6] (.rr r51_17 .ret)))))))))))))))
def a51 : AFunc := ⟨61,c51,[.tmp 2,.cell 3 3 true]⟩

def r53_0 : Rg :=[.p 0 (.mov (.c .np))]
def r53_1 : Rg :=[.p 1 (.build [.nsl,.nsl,.nsl] []),
 .bx 2 1,
 .m 0 2]
def c53 : ACode := (.rr r53_0 (.k [] (.rr r53_1 .ret)))
def a53 : AFunc := ⟨3,c53,[.tmp 0]⟩

def r54_0 : Rg :=[.al 4 [(.i .i64 0),(.s []),(.i .i64 0)]]
def r54_1 : Rg :=[.m 5 0,
 .c 6 84 [(.t 5)],
 .p 7 (.field 0 1 false (.t 6)),
 .m 8 1,
 .bi 9 .neq 7 8]
def r54_2 : Rg :=[.m 10 0,
 .c 11 84 [(.t 10)],
 .p 12 (.field 2 1 false (.t 11)),
 .c 13 85 [(.c (.i .i64 4)),(.t 12)]]
def r54_3 : Rg :=[.m 14 0,
 .c 15 60 [(.t 14)],
 .st 3 4 15]
def c54 : ACode := (.rr r54_0 (.k [0,1,4] (.s (.rr r54_1 (.k [0,4,9] (.cc 9 (.rg r54_2) .skip))) (.k [0,4] (.rr r54_3 .ret)))))
def a54 : AFunc := ⟨16,c54,[.cell 4 3 true]⟩

def r55_0 : Rg :=[.al 2 [.nsl,.nsl,.nsl]]
def r55_1 : Rg :=[.m 3 0,
 .p 4 (.eqt (.ptr) false (.t 3) (.c .np))]
def r55_2 : Rg :=[.p 5 (.build [.nsl,.nsl,.nsl] []),
 .st 3 2 5]
def r55_3 : Rg :=[.m 6 0,
 .nk 7 6,
 .fa 8 0 7,
 .la 9 3 8,
 .c 10 86 [(.t 9)],
 .st 3 2 10]
def c55 : ACode := (.rr r55_0 (.k [0,2] (.s (.rr r55_1 (.k [0,2,4] (.cr 4 r55_2))) (.k [0,2] (.rr r55_3 .ret)))))
def a55 : AFunc := ⟨11,c55,[.cell 2 3 true]⟩

def r56_0 : Rg :=[.m 2 0,
 .nk 3 2,
 .fa 4 2 3,
 .l1 5 4,
 .bn 6 .add 5 1,
 .nk 7 2,
 .fa 8 2 7,
 .st 1 8 6]
def r56_1 : Rg :=[.m 9 0,
 .nk 10 9,
 .fa 11 2 10,
 .l1 12 11,
 .bn 13 .gtr 12 256]
def r56_2 : Rg :=[.m 14 0,
 .c 15 84 [(.t 14)],
 .p 16 (.field 2 1 false (.t 15)),
 .c 17 85 [(.c (.i .i64 5)),(.t 16)]]
def c56 : ACode := (.rr r56_0 (.k [0] (.rr r56_1 (.k [0,13] (.cc 13 (.rg r56_2) .skip)))))
def a56 : AFunc := ⟨18,c56,[]⟩

def r57_0 : Rg :=[.m 2 0,
 .nk 3 2,
 .fa 4 2 3,
 .l1 5 4,
 .bn 6 .sub 5 1,
 .nk 7 2,
 .fa 8 2 7,
 .st 1 8 6]
def c57 : ACode := (.rg r57_0)
def a57 : AFunc := ⟨9,c57,[]⟩

def r58_0 : Rg :=[.bx 1 0,
 .mi 2 0]
def r58_1 : Rg :=[.l1 8 1,
 .c 9 60 [(.t 8)],
 .al 3 [(.i .i64 0),(.s []),(.i .i64 0)],
 .st 3 3 9]
def r58_2 : Rg :=[.fa 11 0 3,
 .l1 12 11,
 .bn 13 .eql 12 2,
 .m 10 13]
def r58_3 : Rg :=[.l1 14 1,
 .fa 15 2 3,
 .l1 16 15,
 .fa 17 1 3,
 .l1 18 17,
 .p 19 (.build [(.i .i64 0),(.i .i64 0),(.s []),.nsl,.nsl,(.b false)] [(0,1,(.c (.i .i64 10))),(1,1,(.t 16)),(2,1,(.t 18))]),
 .c 20 61 [(.t 14),(.t 19)],
 .m 2 20]
def r58_4 : Rg :=[.fa 22 0 3,
 .l1 23 22,
 .bn 24 .eql 23 7,
 .m 21 24]
def r58_5 : Rg :=[.fa 26 1 3,
 .l1 27 26,
 .c 28 87 [(.t 27)],
 .m 25 28,
 .ex 29 0 25,
 .ex 30 1 25,
 .m 4 29,
 .m 5 30]
def r58_6 : Rg :=[.m 31 5]
def r58_7 : Rg :=[.l1 32 1,
 .m 33 4,
 .fa 34 2 3,
 .l1 35 34,
 .p 36 (.build [(.i .i64 0),(.i .i64 0),(.s []),.nsl,.nsl,(.b false)] [(0,1,(.t 33)),(1,1,(.t 35))]),
 .c 37 61 [(.t 32),(.t 36)],
 .m 2 37]
def r58_8 : Rg :=[.fa 39 0 3,
 .l1 40 39,
 .bn 41 .eql 40 8,
 .m 42 41,
 .fat 43 1 3 42,
 .l1t 44 43 42,
 .pt 45 (.bin .eql (.t 44) (.c (.s [40]))) 42,
 .an 46 42 45,
 .m 38 46]
def r58_9 : Rg :=[.l1 47 1,
 .c 48 37 [(.t 47)],
 .m 6 48]
def r58_10 : Rg :=[.l1 49 1,
 .c 50 88 [(.t 49),(.c (.s [41]))]]
def r58_11 : Rg :=[.m 51 6,
 .m 2 51]
def r58_12 : Rg :=[.fa 53 0 3,
 .l1 54 53,
 .bn 55 .eql 54 8,
 .m 56 55,
 .fat 57 1 3 56,
 .l1t 58 57 56,
 .pt 59 (.bin .eql (.t 58) (.c (.s [123]))) 56,
 .an 60 56 59,
 .m 52 60]
def r58_13 : Rg :=[.fa 61 2 3,
 .l1 62 61,
 .p 63 (.build [(.i .i64 0),(.i .i64 0),(.s []),.nsl,.nsl,(.b false)] [(0,1,(.c (.i .i64 8))),(1,1,(.t 62))]),
 .al 7 [(.i .i64 0),(.i .i64 0),(.s []),.nsl,.nsl,(.b false)],
 .st 6 7 63]
def r58_14 : Rg :=[.l1 64 1,
 .p 65 (.mkfn 90 [(.t 7),(.t 1)]),
 .c 66 89 [(.t 64),(.c (.s [58])),(.t 65)]]
def r58_15 : Rg :=[.l1 67 1,
 .la 68 6 7,
 .c 69 61 [(.t 67),(.t 68)],
 .m 2 69]
def r58_16 : Rg :=[.fa 71 0 3,
 .l1 72 71,
 .bn 73 .eql 72 8,
 .m 74 73,
 .fat 75 1 3 74,
 .l1t 76 75 74,
 .pt 77 (.bin .eql (.t 76) (.c (.s [91]))) 74,
 .an 78 74 77,
 .m 70 78]
def r58_17 : Rg :=[.l1 79 1,
 .fa 80 2 3,
 .l1 81 80,
 .c 82 91 [(.t 79),(.t 81)],
 .m 2 82]
def r58_18 : Rg :=[.fa 83 2 3,
 .l1 84 83,
 .c 85 85 [(.c (.i .i64 4)),(.t 84)]]
def r58_19 : Rg :=[.mi 2 0]
def c58 : ACode := (.rr r58_0 (.k [1] (.rr r58_1 (.k [1,3] (.s (.block 0 (.rr r58_2 (.k [1,3,10] (.cc 10 (.rr r58_3 .ret) (.rr r58_4 (.k [1,3,21] (.cc 21 (.rr r58_5 (.k [1,3,4,5] (.rr r58_6 (.k [1,3,4,31] (.cr 31 r58_7))))) (.rr r58_8 (.k [1,3,38] (.cc 38 (.rr r58_9 (.k [1,6] (.rr r58_10 (.k [6] (.rr r58_11 .ret))))) (.rr r58_12 (.k [1,3,52] (.cc 52 (.rr r58_13 (.k [1,7] (.rr r58_14 (.k [1,7] (.rr r58_15 .ret))))) (.rr r58_16 (.k [1,3,70] (.cr 70 r58_17)))))))))))))))) (.k [3] (.rr r58_18 (.k [] (.rr r58_19 .ret)))))))))
def a58 : AFunc := ⟨86,c58,[.tmp 2]⟩

def r59_0 : Rg :=[.mb 4 false]
def r59_1 : Rg :=[.m 6 0,
 .c 7 84 [(.t 6)],
 .al 5 [(.i .i64 0),(.s []),(.i .i64 0)],
 .st 3 5 7]
def r59_2 : Rg :=[.fa 8 0 5,
 .l1 9 8,
 .bn 10 .eql 9 7,
 .m 11 10,
 .faf 12 0 5 11,
 .l1f 13 12 11,
 .bnf 14 .eql 13 8 11,
 .oo 15 11 14,
 .m 16 15,
 .mt 17 1 16,
 .fat 18 1 5 16,
 .l1t 19 18 16,
 .ct 20 78 [(.t 17),(.t 19)] 16,
 .an 21 16 20,
 .m 4 21]
def c59 : ACode := (.rr r59_0 (.k [0,1] (.rr r59_1 (.k [1,5] (.rr r59_2 .ret)))))
def a59 : AFunc := ⟨22,c59,[.tmp 4]⟩

def r60_0 : Rg :=[.al 2 [(.i .i64 0),(.s []),(.i .i64 0)]]
def r60_1 : Rg :=[.m 4 0,
 .c 5 84 [(.t 4)],
 .al 3 [(.i .i64 0),(.s []),(.i .i64 0)],
 .st 3 3 5]
def r60_2 : Rg :=[.fa 6 0 3,
 .l1 7 6,
 .bn 8 .neq 7 0]
def r60_3 : Rg :=[.m 9 0,
 .nk 10 9,
 .fa 11 1 10,
 .l1 12 11,
 .bn 13 .add 12 1,
 .nk 14 9,
 .fa 15 1 14,
 .st 1 15 13]
def r60_4 : Rg :=[.la 16 3 3,
 .st 3 2 16]
def c60 : ACode := (.rr r60_0 (.k [0,2] (.rr r60_1 (.k [0,2,3] (.s (.rr r60_2 (.k [0,2,3,8] (.cc 8 (.rg r60_3) .skip))) (.k [2,3] (.rr r60_4 .ret)))))))
def a60 : AFunc := ⟨17,c60,[.cell 2 3 true]⟩

def r61_0 : Rg :=[.bx 3 1,
 .mi 4 0]
def d61_1 : List DItem :=[⟨0,.m 8 0,[0],[]⟩,
 ⟨1,.nk 9 8,[8],[]⟩,
 ⟨2,.fa 10 3 9,[9],[]⟩,
 ⟨3,.l1 11 10,[10],[]⟩,
 ⟨4,.la 12 6 3,[3],[]⟩,
 ⟨5,.c 13 92 [(.t 11),(.t 12)],[11,12],[]⟩,
 ⟨6,.m 7 13,[13],[]⟩,
 ⟨7,.ex 14 0 7,[7],[]⟩,
 ⟨8,.ex 15 1 7,[7],[]⟩,
 ⟨9,.m 5 14,[14],[]⟩,
 ⟨10,.m 6 15,[15],[]⟩]
def r61_2 : Rg :=[.m 16 6,
 .bn 17 .neq 16 0]
def r61_3 : Rg :=[.m 18 6,
 .c 19 85 [(.t 18),(.c (.i .i64 0))]]
def r61_4 : Rg :=[.m 20 5,
 .m 4 20]
def c61 : ACode := (.rr r61_0 (.k [0,3] (.s (.draw d61_1) (.k [5,6] (.s (.rr r61_2 (.k [5,6,17] (.cc 17 (.rg r61_3) .skip))) (.k [5] (.rr r61_4 .ret)))))))
def a61 : AFunc := ⟨21,c61,[.tmp 4]⟩

def r62_0 : Rg :=[.bx 1 0,
 .mb 2 false]
def r62_1 : Rg :=[.fa 7 0 1,
 .l1 8 7,
 .c 9 93 [(.t 8)],
 .m 6 9,
 .ex 10 0 6,
 .ex 11 1 6,
 .al 3 [(.b false),(.b false),(.b false),(.b false),(.i .i64 0),(.i .i64 0)],
 .st 6 3 10,
 .m 4 11]
def r62_2 : Rg :=[.m 12 4,
 .no 13 12,
 .m 14 13,
 .faf 15 4 3 14,
 .l1f 16 15 14,
 .bnf 17 .geq 16 0 14,
 .mf 18 17 14,
 .fat 19 6 1 18,
 .l1t 20 19 18,
 .lnt 21 20 18,
 .fat 22 4 3 18,
 .l1t 23 22 18,
 .bit 24 .neq 21 23 18,
 .anf 25 18 24 14,
 .oo 26 14 25,
 .m 27 26,
 .faf 28 7 1 27,
 .l1f 29 28 27,
 .lnf 30 29 27,
 .faf 31 5 3 27,
 .l1f 32 31 27,
 .bif 33 .neq 30 32 27,
 .oo 34 27 33,
 .m 35 34,
 .laf 36 8 1 35,
 .cf 37 94 [(.t 36)] 35,
 .nof 38 37 35,
 .oo 39 35 38]
def r62_3 : Rg :=[.mb 2 false]
def r62_4 : Rg :=[.fa 40 0 1,
 .l1 41 40,
 .bn 42 .neq 41 11,
 .m 43 42,
 .fat 44 0 1 43,
 .l1t 45 44 43,
 .bnt 46 .neq 45 14 43,
 .an 47 43 46,
 .m 5 47]
def r62_5 : Rg :=[.fa 49 3 3,
 .l1 50 49,
 .m 48 50]
def r62_6 : Rg :=[.fa 51 2 1,
 .l1 52 51,
 .c 53 95 [(.t 52)],
 .no 54 53]
def r62_7 : Rg :=[.mb 2 false]
def r62_8 : Rg :=[.fa 56 0 3,
 .l1 57 56,
 .no 58 57,
 .m 55 58]
def r62_9 : Rg :=[.fa 59 2 1,
 .l1 60 59,
 .p 61 (.bin .neq (.t 60) (.c (.s [])))]
def r62_10 : Rg :=[.mb 2 false]
def r62_11 : Rg :=[.m 63 5,
 .m 64 63,
 .fat 65 2 1 64,
 .l1t 66 65 64,
 .ct 67 96 [(.t 66)] 64,
 .not 68 67 64,
 .an 69 64 68,
 .m 62 69]
def r62_12 : Rg :=[.mb 2 false]
def r62_13 : Rg :=[.fa 70 1 3,
 .l1 71 70,
 .m 72 71,
 .fat 73 3 1 72,
 .l1t 74 73 72,
 .bnt 75 .lss 74 0 72,
 .mt 76 75 72,
 .faf 77 0 1 76,
 .l1f 78 77 76,
 .bnf 79 .eql 78 2 76,
 .mf 80 79 76,
 .fat 81 3 1 80,
 .l1t 82 81 80,
 .bnt 83 .gtr 82 1 80,
 .anf 84 80 83 76,
 .oot 85 76 84 72,
 .an 86 72 85,
 .m 87 86,
 .faf 88 1 3 87,
 .l1f 89 88 87,
 .nof 90 89 87,
 .mf 91 90 87,
 .fat 92 3 1 91,
 .l1t 93 92 91,
 .bnt 94 .neq 93 0 91,
 .anf 95 91 94 87,
 .oo 96 87 95]
def r62_14 : Rg :=[.mb 2 false]
def d62_15 : List DItem :=[⟨0,.fa 97 2 3,[3],[]⟩,
 ⟨1,.l1 98 97,[97],[]⟩,
 ⟨2,.m 99 98,[98],[]⟩,
 ⟨3,.fat 100 4 1 99,[1,99],[]⟩,
 ⟨4,.l1t 101 100 99,[100,99],[]⟩,
 ⟨6,.fat 103 4 1 99,[1,99],[]⟩,
 ⟨7,.l1t 104 103 99,[103,99],[]⟩,
 ⟨5,.ct 102 97 [(.t 101)] 99,[101,99],[7,6]⟩,
 ⟨8,.bit 105 .eql 102 104 99,[102,104,99],[]⟩,
 ⟨9,.an 106 99 105,[99,105],[]⟩,
 ⟨10,.m 107 106,[106],[]⟩,
 ⟨11,.faf 108 2 3 107,[3,107],[]⟩,
 ⟨12,.l1f 109 108 107,[108,107],[]⟩,
 ⟨13,.nof 110 109 107,[109,107],[]⟩,
 ⟨14,.mf 111 110 107,[110,107],[]⟩,
 ⟨15,.fat 112 4 1 111,[1,111],[]⟩,
 ⟨16,.l1t 113 112 111,[112,111],[]⟩,
 ⟨17,.pt 114 (.bin .eql (.t 113) (.c (.i .u64 0))) 111,[113,111],[]⟩,
 ⟨18,.anf 115 111 114 107,[111,114,107],[]⟩,
 ⟨19,.oo 116 107 115,[107,115],[]⟩,
 ⟨20,.m 2 116,[116],[]⟩]
def c62 : ACode := (.rr r62_0 (.k [1] (.rr r62_1 (.k [1,3,4] (.s (.rr r62_2 (.k [1,3,39] (.cr 39 r62_3))) (.k [1,3] (.rr r62_4 (.k [1,3,5] (.s (.block 0 (.rr r62_5 (.k [1,3,5,48] (.cc 48 (.rr r62_6 (.k [1,3,54] (.cr 54 r62_7))) (.rr r62_8 (.k [1,3,5,55] (.cc 55 (.rr r62_9 (.k [1,3,61] (.cr 61 r62_10))) (.rr r62_11 (.k [1,3,62] (.cr 62 r62_12)))))))))) (.k [1,3] (.s (.rr r62_13 (.k [1,3,96] (.cr 96 r62_14))) (.k [1,3] (.s (.draw d62_15) .ret)))))))))))))
def a62 : AFunc := ⟨117,c62,[.tmp 2]⟩

end K
end Go.Proofs.YtlgbgbngdhhjaaaGreatDoor
