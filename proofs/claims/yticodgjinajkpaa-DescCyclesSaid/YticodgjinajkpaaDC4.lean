/-
  The functions of the seat and what they call, as the walk reads them. Written by a program of my own (wip/tools/mkfns.py).
  The functions of the seat and what they call, as the walk reads them. Written by a program of my own (wip/tools/mkfns.py).
  The library's sort of no spans.
  Plain lists of spans: what a set's list is, whichever way it is made.
  Loops over functions: an iterator hands on rows of numbers, one behind the other; the body is walked once.
  Where ways end: what is left, as what; a loop over a function, its rounds' groups given.
  A call that knows some of the groups only, among others: these stay as they are.
  What a call leaves, without what is of no use any more.
-/
import Derived.Test.YticodgjinajkpaaProg
import Derived.KernelRfl
import Derived.Test.YticodgjinajkpaaDC3
set_option maxRecDepth 100000
namespace Go.Proofs.Yticodgjinajkpaa
open Abs
def B_law06_DescCycles : AC := (.seq (.reg [c1 4 (.bool false) .mv]) (.seq (.seq (.reg [o1 10 1 .mv, o1 11 10 (.len false), c2 12 11 (.int .i64 200) (.bin .gtr)]) (.cond (.slot 12) (.seq (.reg [k0 13 11, o1 4 13 .mv]) .ret) .skip)) (.seq (.reg [o1 14 0 .mv, o1 15 14 (.conv .u64), c2 16 15 (.int .u64 40) (.bin .rem), o1 17 16 (.conv .i64), ⟨(some 18), [(.const (.int .i64 1)), (.slot 17)], none, (.bin .add)⟩, ⟨(some 19), [(.const (.int .i64 1)), (.const (.int .i64 1)), (.slot 18)], none, (.build [(.int .i64 0), (.int .i64 0), (.int .i64 0), (.int .i64 0), .nilS, .nilS] [(0, 1), (1, 1), (2, 1), (3, 1), (4, 1), (5, 1)] [0, 1, 2])⟩, o0 5 (.alloc (.agg [(.int .i64 0), (.int .i64 0), (.int .i64 0), (.int .i64 0), .nilS, .nilS]) 6), n2 5 19 (.store 6)]) (.seq (.seq (.reg [c1 6 (.int .i64 0) .mv]) (.block 0 (.loop (.seq (.seq (.reg [o1 20 6 .mv, o1 21 1 .mv, o1 22 21 (.len false), o2 23 20 22 (.bin .lss)]) (.cond (.slot 23) .skip (.exit 0))) (.seq (.block 1 (.dtl [o1 26 5 (.faddr false 4 1), o1 27 26 (.load false 1), o1 28 1 .mv, o1 29 6 .mv, o2 30 28 29 (.iaddr 2), c2 31 30 (.int .i64 0) (.iaddrA 2 1 false), o1 32 31 (.load false 1), o1 33 32 (.conv .i64), o1 34 5 (.faddr false 2 1), o1 35 34 (.load false 1), o2 36 33 35 (.bin .rem), o1 37 1 .mv, o1 38 6 .mv, o2 39 37 38 (.iaddr 2), c2 40 39 (.int .i64 1) (.iaddrA 2 1 false), o1 41 40 (.load false 1), o1 42 41 (.conv .i64), o1 43 5 (.faddr false 2 1), o1 44 43 (.load false 1), o2 45 42 44 (.bin .rem), o2 46 36 45 (.build [(.int .i64 0), (.int .i64 0), .nilS, (.int .i64 0), .nilS] [(0, 1), (1, 1), (2, 1), (3, 1), (4, 1)] [0, 1]), o1 47 46 (.bslice 5 1 (.agg [(.int .i64 0), (.int .i64 0), .nilS, (.int .i64 0), .nilS]) [0])] [o2 48 27 47 (.app 5 72 (.agg [(.int .i64 0), (.int .i64 0), .nilS, (.int .i64 0), .nilS])), o1 49 5 (.faddr false 4 1), n2 49 48 (.store 1)])) (.reg [o1 24 6 .mv, c2 25 24 (.int .i64 1) (.bin .add), o1 6 25 .mv])))))) (.seq (.reg [o1 51 5 (.load true 6), k1 52 12 51, o1 50 52 .mv, o1 53 50 (.extract 0), o1 54 50 (.extract 1), o1 7 53 .mv, o1 8 54 .mv]) (.seq (.reg [o1 55 5 (.load true 6), k1 56 18 55, o1 9 56 .mv]) (.seq (.reg [o1 57 8 .mv, c2 58 57 (.int .i64 0) (.bin .eql), o1 59 58 .mv, g1 60 59 7 .mv, ⟨(some 61), [(.slot 60), (.const (.int .i64 4))], (some (59, true)), (.bin .eql)⟩, g1 62 59 9 .mv, g2 63 59 61 62 (.eqb false), ⟨(some 64), [(.slot 59), (.slot 63), (.const (.bool false))], none, .pick⟩, o1 65 64 .mv, g1 66 65 7 .mv, ⟨(some 67), [(.slot 66), (.const (.int .i64 0))], (some (65, true)), (.bin .eql)⟩, g1 68 65 9 .mv, g1 69 65 68 (.un .not), g2 70 65 67 69 (.eqb false), ⟨(some 71), [(.slot 65), (.slot 70), (.const (.bool false))], none, .pick⟩, o1 72 71 .mv, ⟨(some 73), [(.const (.fn 11 []))], (some (72, true)), .call⟩, ⟨(some 74), [(.slot 72), (.slot 73), (.const (.bool false))], none, .pick⟩, o1 4 74 .mv]) .ret)))))))
theorem c_law06_DescCycles : compFn Try.prog 6 2 = some ⟨75, 2, [(.slot 4)], B_law06_DescCycles⟩ := by kernel_rfl
def B_law06_awake : AC := (.seq (.reg [c1 0 (.bool false) .mv]) (.seq (.reg [⟨(some 4), [(.const (.fn 16 [])), (.const (.int .i64 1))], none, .call⟩, ⟨(some 5), [(.const (.fn 15 [])), (.const (.int .i64 1)), (.const (.int .i64 1))], none, .call⟩, k2 6 28 4 5, o1 3 6 .mv, o1 7 3 (.extract 0), o1 8 3 (.extract 1), o0 1 (.alloc (.agg [(.int .i64 0), (.int .i64 0), (.int .i64 0), (.int .i64 0), .nilS, .nilS]) 6), n2 1 7 (.store 6), o1 2 8 .mv]) (.seq (.reg [o1 9 2 .mv, c2 10 9 (.int .i64 0) (.bin .eql), o1 11 10 .mv, g1 12 11 1 (.faddr false 2 1), g1 13 11 12 (.load false 1), ⟨(some 14), [(.slot 13), (.const (.int .i64 3))], (some (11, true)), (.bin .eql)⟩, ⟨(some 15), [(.slot 11), (.slot 14), (.const (.bool false))], none, .pick⟩, o1 16 15 .mv, g1 17 16 1 (.faddr false 4 1), g1 18 16 17 (.load false 1), g1 19 16 18 (.len false), ⟨(some 20), [(.slot 19), (.const (.int .i64 3))], (some (16, true)), (.bin .eql)⟩, ⟨(some 21), [(.slot 16), (.slot 20), (.const (.bool false))], none, .pick⟩, o1 22 21 .mv, g1 23 22 1 (.faddr false 4 1), g1 24 22 23 (.load false 1), ⟨(some 25), [(.slot 24), (.const (.int .i64 1))], (some (22, true)), (.iaddr 5)⟩, g1 26 22 25 (.faddr false 1 1), g1 27 22 26 (.load false 1), ⟨(some 28), [(.slot 27), (.const (.int .i64 2))], (some (22, true)), (.bin .eql)⟩, ⟨(some 29), [(.slot 22), (.slot 28), (.const (.bool false))], none, .pick⟩, o1 30 29 .mv, g1 31 30 1 (.faddr false 4 1), g1 32 30 31 (.load false 1), ⟨(some 33), [(.slot 32), (.const (.int .i64 2))], (some (30, true)), (.iaddr 5)⟩, g1 34 30 33 (.faddr false 0 1), g1 35 30 34 (.load false 1), ⟨(some 36), [(.slot 35), (.const (.int .i64 1))], (some (30, true)), (.bin .eql)⟩, ⟨(some 37), [(.slot 30), (.slot 36), (.const (.bool false))], none, .pick⟩, o1 38 37 .mv, g1 39 38 1 (.faddr false 4 1), g1 40 38 39 (.load false 1), ⟨(some 41), [(.slot 40), (.const (.int .i64 2))], (some (38, true)), (.iaddr 5)⟩, g1 42 38 41 (.faddr false 3 1), g1 43 38 42 (.load false 1), ⟨(some 44), [(.slot 43), (.const (.int .i64 1))], (some (38, true)), (.bin .eql)⟩, ⟨(some 45), [(.slot 38), (.slot 44), (.const (.bool false))], none, .pick⟩, o1 46 45 .mv, g1 47 46 1 (.faddr false 5 1), g1 48 46 47 (.load false 1), g1 49 46 48 (.len false), ⟨(some 50), [(.slot 49), (.const (.int .i64 1))], (some (46, true)), (.bin .eql)⟩, ⟨(some 51), [(.slot 46), (.slot 50), (.const (.bool false))], none, .pick⟩, o1 52 51 .mv, g1 53 52 1 (.load true 6), ⟨(some 54), [(.const (.fn 14 [])), (.slot 53)], (some (52, true)), .call⟩, ⟨(some 55), [(.slot 54), (.const (.int .i64 0))], (some (52, true)), (.bin .eql)⟩, ⟨(some 56), [(.slot 52), (.slot 55), (.const (.bool false))], none, .pick⟩, o1 0 56 .mv]) .ret)))
theorem c_law06_awake : compFn Try.prog 11 0 = some ⟨57, 0, [(.slot 0)], B_law06_awake⟩ := by kernel_rfl
def B_desc_Where : AC := (.seq (.reg [o1 1 0 .box, c1 2 (.int .i64 0) .mv, c1 3 (.int .i64 0) .mv]) (.seq (.seq (.reg [o1 8 1 (.load true 6), k1 9 29 8, o1 10 9 (.un .not)]) (.cond (.slot 10) (.seq (.reg [c1 2 (.int .i64 1) .mv, c1 3 (.int .i64 0) .mv]) .ret) .skip)) (.seq (.seq (.reg [o1 11 1 (.faddr false 4 1), o1 12 11 (.load false 1), o1 13 12 (.len false), c1 14 (.int .i64 0) .mv]) (.block 0 (.loop (.seq (.reg [o2 15 14 13 (.bin .lss)]) (.seq (.cond (.slot 15) .skip (.exit 0)) (.seq (.block 1 (.seq (.reg [o1 16 14 .mv, o2 17 12 14 (.iaddr 5), o1 18 17 (.load true 5), o0 5 (.alloc (.agg [(.int .i64 0), (.int .i64 0), .nilS, (.int .i64 0), .nilS]) 5), o1 4 16 .mv, n2 5 18 (.store 5)]) (.seq (.reg [o1 19 1 (.load true 6), o1 20 5 (.load true 5), k2 21 30 19 20, o1 22 21 (.un .not)]) (.cond (.slot 22) (.seq (.reg [o1 23 4 .mv, c1 2 (.int .i64 2) .mv, o1 3 23 .mv]) .ret) .skip)))) (.reg [c2 24 14 (.int .i64 1) (.bin .add), o1 14 24 .mv]))))))) (.seq (.seq (.reg [o1 25 1 (.faddr false 5 1), o1 26 25 (.load false 1), o1 27 26 (.len false), c1 28 (.int .i64 0) .mv]) (.block 2 (.loop (.seq (.reg [o2 29 28 27 (.bin .lss)]) (.seq (.cond (.slot 29) .skip (.exit 2)) (.seq (.block 3 (.seq (.reg [o1 30 28 .mv, o2 31 26 28 (.iaddr 3), o1 32 31 (.load true 3), o0 7 (.alloc (.agg [(.int .i64 0), .nilS, .nilS]) 3), o1 6 30 .mv, n2 7 32 (.store 3)]) (.seq (.reg [o1 33 1 (.load true 6), o1 34 7 (.faddr false 0 1), o1 35 34 (.load false 1), k2 36 31 33 35, o1 37 36 (.un .not), o1 38 37 .mv, ⟨(some 39), [(.slot 1)], (some (38, false)), (.faddr false 0 1)⟩, ⟨(some 40), [(.slot 39)], (some (38, false)), (.load false 1)⟩, ⟨(some 41), [(.slot 7)], (some (38, false)), (.faddr false 1 1)⟩, ⟨(some 42), [(.slot 41)], (some (38, false)), (.load false 1)⟩, ⟨(some 43), [(.const (.fn 32 [])), (.slot 40), (.slot 42)], (some (38, false)), .call⟩, ⟨(some 44), [(.slot 43)], (some (38, false)), (.un .not)⟩, ⟨(some 45), [(.slot 38), (.const (.bool true)), (.slot 44)], none, .pick⟩, o1 46 45 .mv, ⟨(some 47), [(.slot 1)], (some (46, false)), (.load true 6)⟩, ⟨(some 48), [(.slot 7)], (some (46, false)), (.faddr false 2 1)⟩, ⟨(some 49), [(.slot 48)], (some (46, false)), (.load false 1)⟩, ⟨(some 50), [(.slot 7)], (some (46, false)), (.faddr false 1 1)⟩, ⟨(some 51), [(.slot 50)], (some (46, false)), (.load false 1)⟩, ⟨(some 52), [(.const (.fn 33 [])), (.slot 47), (.slot 49), (.slot 51)], (some (46, false)), .call⟩, ⟨(some 53), [(.slot 52)], (some (46, false)), (.un .not)⟩, ⟨(some 54), [(.slot 46), (.const (.bool true)), (.slot 53)], none, .pick⟩]) (.cond (.slot 54) (.seq (.reg [o1 55 6 .mv, c1 2 (.int .i64 3) .mv, o1 3 55 .mv]) .ret) .skip)))) (.reg [c2 56 28 (.int .i64 1) (.bin .add), o1 28 56 .mv]))))))) (.seq (.seq (.reg [o1 57 1 (.load true 6), k1 58 34 57]) (.cond (.slot 58) (.seq (.reg [c1 2 (.int .i64 4) .mv, c1 3 (.int .i64 0) .mv]) .ret) .skip)) (.seq (.reg [c1 2 (.int .i64 0) .mv, c1 3 (.int .i64 0) .mv]) .ret))))))
theorem c_desc_Where : compFn Try.prog 12 1 = some ⟨59, 1, [(.slot 2), (.slot 3)], B_desc_Where⟩ := by kernel_rfl
def B_desc_Check : AC := (.seq (.reg [o1 1 0 .box, c1 2 (.int .i64 0) .mv]) (.seq (.seq (.reg [o1 6 1 (.load true 6), k1 7 12 6, o1 5 7 .mv, o1 8 5 (.extract 0), o1 9 5 (.extract 1), o1 3 8 .mv, o1 4 9 .mv]) (.seq (.reg [o1 10 3 .mv, c2 11 10 (.int .i64 0) (.bin .neq)]) (.cond (.slot 11) (.seq (.reg [c1 2 (.int .i64 2) .mv]) .ret) .skip))) (.seq (.reg [c1 2 (.int .i64 0) .mv]) .ret)))
theorem c_desc_Check : compFn Try.prog 14 1 = some ⟨12, 1, [(.slot 2)], B_desc_Check⟩ := by kernel_rfl
def B_desc_Empty : AC := (.seq (.reg [o0 4 (.alloc (.agg [(.int .i64 0), (.int .i64 0), (.int .i64 0), (.int .i64 0), .nilS, .nilS]) 6)]) (.seq (.reg [o1 5 0 .mv, o1 6 1 .mv, ⟨(some 7), [(.slot 5), (.slot 6), (.const (.int .i64 1))], none, (.build [(.int .i64 0), (.int .i64 0), (.int .i64 0), (.int .i64 0), .nilS, .nilS] [(0, 1), (1, 1), (2, 1), (3, 1), (4, 1), (5, 1)] [0, 1, 2])⟩, n2 4 7 (.store 6)]) .ret))
theorem c_desc_Empty : compFn Try.prog 15 2 = some ⟨8, 2, [(.cell 4 true 6)], B_desc_Empty⟩ := by kernel_rfl
def B_desc_Same : AC := (.seq (.reg [o0 2 (.alloc (.agg [(.int .i64 0), (.int .i64 0), (.int .i64 0), (.int .i64 0), .nilS, .nilS]) 6)]) (.seq (.reg [o1 4 0 .mv, o1 5 0 .mv, k2 6 15 4 5, o0 3 (.alloc (.agg [(.int .i64 0), (.int .i64 0), (.int .i64 0), (.int .i64 0), .nilS, .nilS]) 6), n2 3 6 (.store 6)]) (.seq (.reg [o1 7 0 .mv, k1 8 37 7, o1 9 8 (.bslice 1 1 .nilS [0]), ⟨(some 10), [(.const (.fn 38 [])), (.const (.int .i64 0)), (.const (.int .i64 0))], none, .call⟩, o1 11 10 (.bslice 6 1 (.agg [(.int .i64 0), (.int .i64 0), (.int .i64 0), (.int .i64 0), (.int .i64 0), .nilS]) [0]), ⟨(some 12), [(.slot 9), (.const (.int .i64 1)), (.slot 11)], none, (.build [(.int .i64 0), (.int .i64 0), .nilS, (.int .i64 0), .nilS] [(0, 1), (1, 1), (2, 1), (3, 1), (4, 1)] [2, 3, 4])⟩, o1 13 12 (.bslice 5 1 (.agg [(.int .i64 0), (.int .i64 0), .nilS, (.int .i64 0), .nilS]) [0]), o1 14 3 (.faddr false 4 1), n2 14 13 (.store 1)]) (.seq (.reg [o0 15 (.build [(.int .i64 0), .nilS, .nilS] [(0, 1), (1, 1), (2, 1)] []), o1 16 15 (.bslice 3 1 (.agg [(.int .i64 0), .nilS, .nilS]) [0]), o1 17 3 (.faddr false 5 1), n2 17 16 (.store 1)]) (.seq (.reg [o1 18 3 (.load true 6), n2 2 18 (.store 6)]) .ret)))))
theorem c_desc_Same : compFn Try.prog 16 1 = some ⟨19, 1, [(.cell 2 true 6)], B_desc_Same⟩ := by kernel_rfl
def B_ref06_Cycle : AC := (.seq (.reg [o1 1 0 .box, c1 2 (.bool false) .mv]) (.seq (.reg [o1 9 1 (.faddr false 2 1), o1 10 9 (.load false 1), o2 11 10 10 (.mkSlice 1 1 (.bool false)), o1 3 11 .mv]) (.seq (.seq (.reg [o1 12 3 .mv, o1 13 12 (.len false), c1 14 (.int .i64 0) .mv]) (.block 0 (.loop (.seq (.reg [o2 15 14 13 (.bin .lss)]) (.seq (.cond (.slot 15) .skip (.exit 0)) (.seq (.block 1 (.seq (.reg [o1 16 14 .mv, o1 4 16 .mv]) (.reg [o1 17 3 .mv, o1 18 4 .mv, o2 19 17 18 (.iaddr 1), ⟨none, [(.slot 19), (.const (.bool true))], none, (.store 1)⟩]))) (.reg [c2 20 14 (.int .i64 1) (.bin .add), o1 14 20 .mv]))))))) (.seq (.seq (.reg [c1 5 (.int .i64 0) .mv]) (.block 2 (.loop (.seq (.seq (.reg [o1 21 5 .mv, o1 22 1 (.faddr false 2 1), o1 23 22 (.load false 1), o2 24 21 23 (.bin .leq)]) (.cond (.slot 24) .skip (.exit 2))) (.seq (.block 3 (.seq (.reg [o1 27 1 (.faddr false 2 1), o1 28 27 (.load false 1), o2 29 28 28 (.mkSlice 1 1 (.bool false)), o1 6 29 .mv]) (.seq (.reg [c1 7 (.bool false) .mv]) (.seq (.seq (.reg [c1 8 (.int .i64 0) .mv]) (.block 4 (.loop (.seq (.seq (.reg [o1 30 8 .mv, o1 31 1 (.faddr false 4 1), o1 32 31 (.load false 1), o1 33 32 (.len false), o2 34 30 33 (.bin .lss)]) (.cond (.slot 34) .skip (.exit 4))) (.seq (.block 5 (.seq (.reg [o1 37 1 (.faddr false 4 1), o1 38 37 (.load false 1), o1 39 8 .mv, o2 40 38 39 (.iaddr 5), o1 41 40 (.faddr false 2 1), o1 42 41 (.load false 1), o1 43 42 (.len false), c2 44 43 (.int .i64 0) (.bin .eql), o1 45 44 .mv, g1 46 45 3 .mv, g1 47 45 1 (.faddr false 4 1), g1 48 45 47 (.load false 1), g1 49 45 8 .mv, g2 50 45 48 49 (.iaddr 5), g1 51 45 50 (.faddr false 0 1), g1 52 45 51 (.load false 1), g2 53 45 46 52 (.iaddr 1), g1 54 45 53 (.load false 1), ⟨(some 55), [(.slot 45), (.slot 54), (.const (.bool false))], none, .pick⟩]) (.cond (.slot 55) (.seq (.reg [o1 56 6 .mv, o1 57 1 (.faddr false 4 1), o1 58 57 (.load false 1), o1 59 8 .mv, o2 60 58 59 (.iaddr 5), o1 61 60 (.faddr false 1 1), o1 62 61 (.load false 1), o2 63 56 62 (.iaddr 1), ⟨none, [(.slot 63), (.const (.bool true))], none, (.store 1)⟩]) (.reg [c1 7 (.bool true) .mv])) .skip))) (.reg [o1 35 8 .mv, c2 36 35 (.int .i64 1) (.bin .add), o1 8 36 .mv])))))) (.seq (.seq (.reg [o1 64 7 .mv, o1 65 64 (.un .not)]) (.cond (.slot 65) (.seq (.reg [c1 2 (.bool false) .mv]) .ret) .skip)) (.reg [o1 66 6 .mv, o1 3 66 .mv])))))) (.reg [o1 25 5 .mv, c2 26 25 (.int .i64 1) (.bin .add), o1 5 26 .mv])))))) (.seq (.reg [c1 2 (.bool true) .mv]) .ret)))))
theorem c_ref06_Cycle : compFn Try.prog 18 1 = some ⟨67, 1, [(.slot 2)], B_ref06_Cycle⟩ := by kernel_rfl
def B_desc_Join : AC := (.seq (.reg [o1 2 0 .box, o1 3 1 .box, o0 4 (.alloc (.agg [(.int .i64 0), (.int .i64 0), (.int .i64 0), (.int .i64 0), .nilS, .nilS]) 6), c1 5 (.int .i64 0) .mv]) (.seq (.seq (.reg [o1 15 2 (.load true 6), k1 16 14 15, c2 17 16 (.int .i64 0) (.bin .neq), o1 18 17 .mv, ⟨(some 19), [(.slot 3)], (some (18, false)), (.load true 6)⟩, ⟨(some 20), [(.const (.fn 14 [])), (.slot 19)], (some (18, false)), .call⟩, ⟨(some 21), [(.slot 20), (.const (.int .i64 0))], (some (18, false)), (.bin .neq)⟩, ⟨(some 22), [(.slot 18), (.const (.bool true)), (.slot 21)], none, .pick⟩, o1 23 22 .mv, ⟨(some 24), [(.slot 2)], (some (23, false)), (.faddr false 0 1)⟩, ⟨(some 25), [(.slot 24)], (some (23, false)), (.load false 1)⟩, ⟨(some 26), [(.slot 3)], (some (23, false)), (.faddr false 0 1)⟩, ⟨(some 27), [(.slot 26)], (some (23, false)), (.load false 1)⟩, ⟨(some 28), [(.slot 25), (.slot 27)], (some (23, false)), (.bin .neq)⟩, ⟨(some 29), [(.slot 23), (.const (.bool true)), (.slot 28)], none, .pick⟩, o1 30 29 .mv, ⟨(some 31), [(.slot 2)], (some (30, false)), (.faddr false 1 1)⟩, ⟨(some 32), [(.slot 31)], (some (30, false)), (.load false 1)⟩, ⟨(some 33), [(.slot 3)], (some (30, false)), (.faddr false 1 1)⟩, ⟨(some 34), [(.slot 33)], (some (30, false)), (.load false 1)⟩, ⟨(some 35), [(.slot 32), (.slot 34)], (some (30, false)), (.bin .neq)⟩, ⟨(some 36), [(.slot 30), (.const (.bool true)), (.slot 35)], none, .pick⟩]) (.cond (.slot 36) (.seq (.reg [o0 37 (.build [(.int .i64 0), (.int .i64 0), (.int .i64 0), (.int .i64 0), .nilS, .nilS] [(0, 1), (1, 1), (2, 1), (3, 1), (4, 1), (5, 1)] []), n2 4 37 (.store 6), c1 5 (.int .i64 2) .mv]) .ret) .skip)) (.seq (.reg [o1 38 2 (.faddr false 2 1), o1 39 38 (.load false 1), ⟨(some 40), [(.const (.int .i64 1)), (.slot 39)], none, (.bin .add)⟩, o1 41 3 (.faddr false 2 1), o1 42 41 (.load false 1), o2 43 40 42 (.bin .add), o1 6 43 .mv]) (.seq (.seq (.reg [o1 44 6 .mv, c2 45 44 (.int .i64 1024) (.bin .gtr), o1 46 45 .mv, ⟨(some 47), [(.slot 2)], (some (46, false)), (.faddr false 4 1)⟩, ⟨(some 48), [(.slot 47)], (some (46, false)), (.load false 1)⟩, ⟨(some 49), [(.slot 48)], (some (46, false)), (.len false)⟩, ⟨(some 50), [(.const (.int .i64 2)), (.slot 49)], (some (46, false)), (.bin .add)⟩, ⟨(some 51), [(.slot 3)], (some (46, false)), (.faddr false 4 1)⟩, ⟨(some 52), [(.slot 51)], (some (46, false)), (.load false 1)⟩, ⟨(some 53), [(.slot 52)], (some (46, false)), (.len false)⟩, ⟨(some 54), [(.slot 50), (.slot 53)], (some (46, false)), (.bin .add)⟩, ⟨(some 55), [(.slot 54), (.const (.int .i64 4096))], (some (46, false)), (.bin .gtr)⟩, ⟨(some 56), [(.slot 46), (.const (.bool true)), (.slot 55)], none, .pick⟩, o1 57 56 .mv, ⟨(some 58), [(.slot 2)], (some (57, false)), (.faddr false 5 1)⟩, ⟨(some 59), [(.slot 58)], (some (57, false)), (.load false 1)⟩, ⟨(some 60), [(.slot 59)], (some (57, false)), (.len false)⟩, ⟨(some 61), [(.slot 3)], (some (57, false)), (.faddr false 5 1)⟩, ⟨(some 62), [(.slot 61)], (some (57, false)), (.load false 1)⟩, ⟨(some 63), [(.slot 62)], (some (57, false)), (.len false)⟩, ⟨(some 64), [(.slot 60), (.slot 63)], (some (57, false)), (.bin .add)⟩, ⟨(some 65), [(.slot 64), (.const (.int .i64 4096))], (some (57, false)), (.bin .gtr)⟩, ⟨(some 66), [(.slot 57), (.const (.bool true)), (.slot 65)], none, .pick⟩]) (.cond (.slot 66) (.seq (.reg [o0 67 (.build [(.int .i64 0), (.int .i64 0), (.int .i64 0), (.int .i64 0), .nilS, .nilS] [(0, 1), (1, 1), (2, 1), (3, 1), (4, 1), (5, 1)] []), n2 4 67 (.store 6), c1 5 (.int .i64 4) .mv]) .ret) .skip)) (.seq (.reg [o1 68 2 (.faddr false 0 1), o1 69 68 (.load false 1), o1 70 2 (.faddr false 1 1), o1 71 70 (.load false 1), o1 72 6 .mv, o3 73 69 71 72 (.build [(.int .i64 0), (.int .i64 0), (.int .i64 0), (.int .i64 0), .nilS, .nilS] [(0, 1), (1, 1), (2, 1), (3, 1), (4, 1), (5, 1)] [0, 1, 2]), o0 7 (.alloc (.agg [(.int .i64 0), (.int .i64 0), (.int .i64 0), (.int .i64 0), .nilS, .nilS]) 6), n2 7 73 (.store 6)]) (.seq (.reg [o1 74 2 (.faddr false 3 1), o1 75 74 (.load false 1), ⟨(some 76), [(.const (.int .i64 1)), (.slot 75)], none, (.bin .add)⟩, o1 77 76 (.build [(.int .i64 0), (.int .i64 0), .nilS, (.int .i64 0), .nilS] [(0, 1), (1, 1), (2, 1), (3, 1), (4, 1)] [1]), o1 78 2 (.faddr false 2 1), o1 79 78 (.load false 1), ⟨(some 80), [(.const (.int .i64 1)), (.slot 79)], none, (.bin .add)⟩, o1 81 3 (.faddr false 3 1), o1 82 81 (.load false 1), o2 83 80 82 (.bin .add), o1 84 83 (.build [(.int .i64 0), (.int .i64 0), .nilS, (.int .i64 0), .nilS] [(0, 1), (1, 1), (2, 1), (3, 1), (4, 1)] [1]), o2 85 77 84 (.bslice 5 2 (.agg [(.int .i64 0), (.int .i64 0), .nilS, (.int .i64 0), .nilS]) [0, 1]), o1 86 7 (.faddr false 4 1), n2 86 85 (.store 1)]) (.seq (.seq (.reg [o1 87 2 (.load true 6), o1 88 3 (.load true 6), o2 89 87 88 (.build [(.int .i64 0), (.int .i64 0), (.int .i64 0), (.int .i64 0), .nilS, .nilS, (.int .i64 0), (.int .i64 0), (.int .i64 0), (.int .i64 0), .nilS, .nilS] [(0, 6), (6, 6)] [0, 1]), c1 90 (.int .i64 0) .mv]) (.block 0 (.loop (.seq (.reg [c2 91 90 (.int .i64 2) (.bin .lss)]) (.seq (.cond (.slot 91) .skip (.exit 0)) (.seq (.block 1 (.seq (.reg [o1 92 90 .mv, o2 93 89 90 (.index 2 6 true), o0 9 (.alloc (.agg [(.int .i64 0), (.int .i64 0), (.int .i64 0), (.int .i64 0), .nilS, .nilS]) 6), o1 8 92 .mv, n2 9 93 (.store 6)]) (.seq (.reg [o1 94 8 .mv, o1 95 2 (.faddr false 2 1), o1 96 95 (.load false 1), o2 97 94 96 (.bin .mul), ⟨(some 98), [(.const (.int .i64 1)), (.slot 97)], none, (.bin .add)⟩, o1 10 98 .mv]) (.seq (.seq (.reg [o1 99 9 (.faddr false 4 1), o1 100 99 (.load false 1), o1 101 100 (.len false), c1 102 (.int .i64 0) .mv]) (.block 2 (.loop (.seq (.reg [o2 103 102 101 (.bin .lss)]) (.seq (.cond (.slot 103) .skip (.exit 2)) (.seq (.block 3 (.seq (.reg [o2 104 100 102 (.iaddr 5), o1 105 104 (.load true 5), o0 12 (.alloc (.agg [(.int .i64 0), (.int .i64 0), .nilS, (.int .i64 0), .nilS]) 5), n2 12 105 (.store 5)]) (.dtl [o1 106 7 (.faddr false 4 1), o1 107 106 (.load false 1), o1 108 12 (.faddr false 0 1), o1 109 108 (.load false 1), o1 110 10 .mv, o2 111 109 110 (.bin .add), o1 112 12 (.faddr false 1 1), o1 113 112 (.load false 1), o1 114 10 .mv, o2 115 113 114 (.bin .add), o1 116 12 (.faddr false 2 1), o1 117 116 (.load false 1), k1 118 48 117, o1 119 12 (.faddr false 3 1), o1 120 119 (.load false 1), o1 121 12 (.faddr false 4 1), o1 122 121 (.load false 1), k1 123 49 122, ⟨(some 124), [(.slot 111), (.slot 115), (.slot 118), (.slot 120), (.slot 123)], none, (.build [(.int .i64 0), (.int .i64 0), .nilS, (.int .i64 0), .nilS] [(0, 1), (1, 1), (2, 1), (3, 1), (4, 1)] [0, 1, 2, 3, 4])⟩, o1 125 124 (.bslice 5 1 (.agg [(.int .i64 0), (.int .i64 0), .nilS, (.int .i64 0), .nilS]) [0])] [o2 126 107 125 (.app 5 72 (.agg [(.int .i64 0), (.int .i64 0), .nilS, (.int .i64 0), .nilS])), o1 127 7 (.faddr false 4 1), n2 127 126 (.store 1)]))) (.reg [c2 128 102 (.int .i64 1) (.bin .add), o1 102 128 .mv]))))))) (.seq (.reg [o1 129 9 (.faddr false 5 1), o1 130 129 (.load false 1), o1 131 130 (.len false), c1 132 (.int .i64 0) .mv]) (.block 4 (.loop (.seq (.reg [o2 133 132 131 (.bin .lss)]) (.seq (.cond (.slot 133) .skip (.exit 4)) (.seq (.block 5 (.seq (.reg [o2 134 130 132 (.iaddr 3), o1 135 134 (.load true 3), o0 14 (.alloc (.agg [(.int .i64 0), .nilS, .nilS]) 3), n2 14 135 (.store 3)]) (.dtl [o1 136 7 (.faddr false 5 1), o1 137 136 (.load false 1), o1 138 14 (.faddr false 0 1), o1 139 138 (.load false 1), o1 140 10 .mv, o2 141 139 140 (.bin .add), o1 142 14 (.faddr false 1 1), o1 143 142 (.load false 1), k1 144 48 143, o1 145 14 (.faddr false 2 1), o1 146 145 (.load false 1), k1 147 49 146, o3 148 141 144 147 (.build [(.int .i64 0), .nilS, .nilS] [(0, 1), (1, 1), (2, 1)] [0, 1, 2]), o1 149 148 (.bslice 3 1 (.agg [(.int .i64 0), .nilS, .nilS]) [0])] [o2 150 137 149 (.app 3 56 (.agg [(.int .i64 0), .nilS, .nilS])), o1 151 7 (.faddr false 5 1), n2 151 150 (.store 1)]))) (.reg [c2 152 132 (.int .i64 1) (.bin .add), o1 132 152 .mv]))))))))))) (.reg [c2 153 90 (.int .i64 1) (.bin .add), o1 90 153 .mv]))))))) (.seq (.reg [o1 154 7 (.load true 6), n2 4 154 (.store 6), c1 5 (.int .i64 0) .mv]) .ret))))))))
theorem c_desc_Join : compFn Try.prog 28 2 = some ⟨155, 2, [(.cell 4 true 6), (.slot 5)], B_desc_Join⟩ := by kernel_rfl
def B_desc_head : AC := (.seq (.reg [o1 1 0 .box, c1 2 (.bool false) .mv]) (.seq (.reg [o1 3 1 (.faddr false 0 1), o1 4 3 (.load false 1), k1 5 37 4, o1 6 5 (.len false), c2 7 6 (.int .i64 0) (.bin .gtr), o1 8 7 .mv, g1 9 8 1 (.faddr false 1 1), g1 10 8 9 (.load false 1), ⟨(some 11), [(.const (.fn 37 [])), (.slot 10)], (some (8, true)), .call⟩, g1 12 8 11 (.len false), ⟨(some 13), [(.slot 12), (.const (.int .i64 0))], (some (8, true)), (.bin .gtr)⟩, ⟨(some 14), [(.slot 8), (.slot 13), (.const (.bool false))], none, .pick⟩, o1 15 14 .mv, g1 16 15 1 (.faddr false 2 1), g1 17 15 16 (.load false 1), ⟨(some 18), [(.slot 17), (.const (.int .i64 1))], (some (15, true)), (.bin .geq)⟩, ⟨(some 19), [(.slot 15), (.slot 18), (.const (.bool false))], none, .pick⟩, o1 20 19 .mv, g1 21 20 1 (.faddr false 2 1), g1 22 20 21 (.load false 1), ⟨(some 23), [(.slot 22), (.const (.int .i64 1024))], (some (20, true)), (.bin .leq)⟩, ⟨(some 24), [(.slot 20), (.slot 23), (.const (.bool false))], none, .pick⟩, o1 25 24 .mv, g1 26 25 1 (.load true 6), g1 27 25 1 (.faddr false 3 1), g1 28 25 27 (.load false 1), ⟨(some 29), [(.const (.fn 31 [])), (.slot 26), (.slot 28)], (some (25, true)), .call⟩, ⟨(some 30), [(.slot 25), (.slot 29), (.const (.bool false))], none, .pick⟩, o1 31 30 .mv, g1 32 31 1 (.faddr false 4 1), g1 33 31 32 (.load false 1), g1 34 31 33 (.len false), ⟨(some 35), [(.slot 34), (.const (.int .i64 4096))], (some (31, true)), (.bin .leq)⟩, ⟨(some 36), [(.slot 31), (.slot 35), (.const (.bool false))], none, .pick⟩, o1 37 36 .mv, g1 38 37 1 (.faddr false 5 1), g1 39 37 38 (.load false 1), g1 40 37 39 (.len false), ⟨(some 41), [(.slot 40), (.const (.int .i64 4096))], (some (37, true)), (.bin .leq)⟩, ⟨(some 42), [(.slot 37), (.slot 41), (.const (.bool false))], none, .pick⟩, o1 2 42 .mv]) .ret))
theorem c_desc_head : compFn Try.prog 29 1 = some ⟨43, 1, [(.slot 2)], B_desc_head⟩ := by kernel_rfl
def B_desc_rule : AC := (.seq (.reg [o1 2 0 .box, o1 3 1 .box, c1 4 (.bool false) .mv]) (.seq (.reg [o1 6 3 (.faddr false 2 1), o1 7 6 (.load false 1), o1 8 7 (.len false), o1 5 8 .mv]) (.seq (.seq (.reg [o1 9 2 (.load true 6), o1 10 3 (.faddr false 0 1), o1 11 10 (.load false 1), k2 12 31 9 11, o1 13 12 (.un .not), o1 14 13 .mv, ⟨(some 15), [(.slot 2)], (some (14, false)), (.load true 6)⟩, ⟨(some 16), [(.slot 3)], (some (14, false)), (.faddr false 1 1)⟩, ⟨(some 17), [(.slot 16)], (some (14, false)), (.load false 1)⟩, ⟨(some 18), [(.const (.fn 31 [])), (.slot 15), (.slot 17)], (some (14, false)), .call⟩, ⟨(some 19), [(.slot 18)], (some (14, false)), (.un .not)⟩, ⟨(some 20), [(.slot 14), (.const (.bool true)), (.slot 19)], none, .pick⟩, o1 21 20 .mv, ⟨(some 22), [(.slot 2)], (some (21, false)), (.faddr false 0 1)⟩, ⟨(some 23), [(.slot 22)], (some (21, false)), (.load false 1)⟩, ⟨(some 24), [(.slot 3)], (some (21, false)), (.faddr false 2 1)⟩, ⟨(some 25), [(.slot 24)], (some (21, false)), (.load false 1)⟩, ⟨(some 26), [(.const (.fn 32 [])), (.slot 23), (.slot 25)], (some (21, false)), .call⟩, ⟨(some 27), [(.slot 26)], (some (21, false)), (.un .not)⟩, ⟨(some 28), [(.slot 21), (.const (.bool true)), (.slot 27)], none, .pick⟩, o1 29 28 .mv, ⟨(some 30), [(.slot 3)], (some (29, false)), (.faddr false 3 1)⟩, ⟨(some 31), [(.slot 30)], (some (29, false)), (.load false 1)⟩, ⟨(some 32), [(.slot 5)], (some (29, false)), .mv⟩, ⟨(some 33), [(.slot 32), (.const (.int .i64 1))], (some (29, false)), .min⟩, ⟨(some 34), [(.slot 31), (.slot 33)], (some (29, false)), (.bin .lss)⟩, ⟨(some 35), [(.slot 29), (.const (.bool true)), (.slot 34)], none, .pick⟩, o1 36 35 .mv, ⟨(some 37), [(.slot 3)], (some (36, false)), (.faddr false 3 1)⟩, ⟨(some 38), [(.slot 37)], (some (36, false)), (.load false 1)⟩, ⟨(some 39), [(.slot 5)], (some (36, false)), .mv⟩, ⟨(some 40), [(.slot 38), (.slot 39)], (some (36, false)), (.bin .gtr)⟩, ⟨(some 41), [(.slot 36), (.const (.bool true)), (.slot 40)], none, .pick⟩]) (.cond (.slot 41) (.seq (.reg [c1 4 (.bool false) .mv]) .ret) .skip)) (.seq (.reg [o1 42 2 (.load true 6), o1 43 3 (.faddr false 4 1), o1 44 43 (.load false 1), o1 45 3 (.faddr false 2 1), o1 46 45 (.load false 1), k3 47 33 42 44 46, o1 4 47 .mv]) .ret))))
theorem c_desc_rule : compFn Try.prog 30 2 = some ⟨48, 2, [(.slot 4)], B_desc_rule⟩ := by kernel_rfl
def B_desc_state : AC := (.seq (.reg [o1 2 0 .box, c1 4 (.bool false) .mv]) (.seq (.reg [o1 5 1 .mv, c2 6 5 (.int .i64 0) (.bin .geq), o1 7 6 .mv, g1 8 7 1 .mv, g1 9 7 2 (.faddr false 2 1), g1 10 7 9 (.load false 1), g2 11 7 8 10 (.bin .lss), ⟨(some 12), [(.slot 7), (.slot 11), (.const (.bool false))], none, .pick⟩, o1 4 12 .mv]) .ret))
theorem c_desc_state : compFn Try.prog 31 2 = some ⟨13, 2, [(.slot 4)], B_desc_state⟩ := by kernel_rfl
def B_desc_guards : AC := (.seq (.reg [c1 4 (.bool false) .mv]) (.seq (.seq (.reg [o1 8 1 .mv, o1 9 8 (.len false), c2 10 9 (.int .i64 4) (.bin .gtr)]) (.cond (.slot 10) (.seq (.reg [c1 4 (.bool false) .mv]) .ret) .skip)) (.seq (.reg [o1 11 0 .mv, k1 12 37 11, o1 5 12 .mv]) (.seq (.seq (.reg [o1 13 1 .mv, o1 14 13 (.len false), c1 15 (.int .i64 0) .mv]) (.block 0 (.loop (.seq (.reg [o2 16 15 14 (.bin .lss)]) (.seq (.cond (.slot 16) .skip (.exit 0)) (.seq (.block 1 (.seq (.reg [o2 17 13 15 (.iaddr 1), o1 18 17 (.load false 1), o1 7 18 .mv]) (.seq (.reg [o1 19 7 .mv, o1 20 19 (.len false), c2 21 20 (.int .i64 0) (.bin .eql), o1 22 21 .mv, ⟨(some 23), [(.slot 7)], (some (22, false)), .mv⟩, ⟨(some 24), [(.slot 23)], (some (22, false)), (.len false)⟩, ⟨(some 25), [(.slot 24), (.const (.int .i64 64))], (some (22, false)), (.bin .gtr)⟩, ⟨(some 26), [(.slot 22), (.const (.bool true)), (.slot 25)], none, .pick⟩, o1 27 26 .mv, ⟨(some 28), [(.slot 7)], (some (27, false)), .mv⟩, ⟨(some 29), [(.const (.fn 50 [])), (.slot 28)], (some (27, false)), .call⟩, ⟨(some 30), [(.slot 29)], (some (27, false)), (.un .not)⟩, ⟨(some 31), [(.slot 27), (.const (.bool true)), (.slot 30)], none, .pick⟩, o1 32 31 .mv, ⟨(some 33), [(.slot 7)], (some (32, false)), .mv⟩, ⟨(some 34), [(.slot 5)], (some (32, false)), .mv⟩, ⟨(some 35), [(.const (.fn 51 [])), (.slot 33), (.slot 34)], (some (32, false)), .call⟩, ⟨(some 36), [(.slot 35)], (some (32, false)), (.un .not)⟩, ⟨(some 37), [(.slot 32), (.const (.bool true)), (.slot 36)], none, .pick⟩]) (.cond (.slot 37) (.seq (.reg [c1 4 (.bool false) .mv]) .ret) .skip)))) (.reg [c2 38 15 (.int .i64 1) (.bin .add), o1 15 38 .mv]))))))) (.seq (.reg [c1 4 (.bool true) .mv]) .ret)))))
theorem c_desc_guards : compFn Try.prog 32 2 = some ⟨39, 2, [(.slot 4)], B_desc_guards⟩ := by kernel_rfl
def B_desc_writes : AC := (.seq (.reg [o1 3 0 .box, c1 6 (.bool false) .mv]) (.seq (.seq (.reg [o1 9 1 .mv, o1 10 9 (.len false), c2 11 10 (.int .i64 64) (.bin .gtr)]) (.cond (.slot 11) (.seq (.reg [c1 6 (.bool false) .mv]) .ret) .skip)) (.seq (.seq (.reg [o1 12 1 .mv, o1 13 12 (.len false), c1 14 (.int .i64 0) .mv]) (.block 0 (.loop (.seq (.reg [o2 15 14 13 (.bin .lss)]) (.seq (.cond (.slot 15) .skip (.exit 0)) (.seq (.block 1 (.seq (.reg [o2 16 12 14 (.iaddr 6), o1 17 16 (.load true 6), o0 8 (.alloc (.agg [(.int .i64 0), (.int .i64 0), (.int .i64 0), (.int .i64 0), (.int .i64 0), .nilS]) 6), n2 8 17 (.store 6)]) (.seq (.reg [o1 18 8 (.load true 6), o1 19 3 (.faddr false 0 1), o1 20 19 (.load false 1), o1 21 3 (.faddr false 1 1), o1 22 21 (.load false 1), o1 23 2 .mv, ⟨(some 24), [(.const (.fn 52 [])), (.slot 18), (.slot 20), (.slot 22), (.slot 23)], none, .call⟩, o1 25 24 (.un .not)]) (.cond (.slot 25) (.seq (.reg [c1 6 (.bool false) .mv]) .ret) .skip)))) (.reg [c2 26 14 (.int .i64 1) (.bin .add), o1 14 26 .mv]))))))) (.seq (.reg [c1 6 (.bool true) .mv]) .ret))))
theorem c_desc_writes : compFn Try.prog 33 3 = some ⟨27, 3, [(.slot 6)], B_desc_writes⟩ := by kernel_rfl
def B_desc_cycle : AC := (.seq (.reg [o1 1 0 .box, c1 2 (.bool false) .mv]) (.seq (.reg [o1 14 1 (.faddr false 2 1), o1 15 14 (.load false 1), o2 16 15 15 (.mkSlice 1 24 .nilS), o1 3 16 .mv]) (.seq (.reg [o1 17 1 (.faddr false 2 1), o1 18 17 (.load false 1), o2 19 18 18 (.mkSlice 1 8 (.int .i64 0)), o1 4 19 .mv]) (.seq (.seq (.reg [o1 20 1 (.faddr false 4 1), o1 21 20 (.load false 1), o1 22 21 (.len false), c1 23 (.int .i64 0) .mv]) (.block 0 (.loop (.seq (.reg [o2 24 23 22 (.bin .lss)]) (.seq (.cond (.slot 24) .skip (.exit 0)) (.seq (.block 1 (.seq (.reg [o2 25 21 23 (.iaddr 5), o1 26 25 (.load true 5), o0 6 (.alloc (.agg [(.int .i64 0), (.int .i64 0), .nilS, (.int .i64 0), .nilS]) 5), n2 6 26 (.store 5)]) (.seq (.reg [o1 27 6 (.faddr false 2 1), o1 28 27 (.load false 1), o1 29 28 (.len false), c2 30 29 (.int .i64 0) (.bin .eql)]) (.cond (.slot 30) (.seq (.grx [false, true, true, false, true, true, true, false, true, true, false, false, false, false] [⟨(some 31), [(.slot 3)], none, .mv⟩, ⟨(some 32), [(.slot 6)], none, (.faddr false 0 1)⟩, ⟨(some 33), [(.slot 32)], none, (.load false 1)⟩, ⟨(some 34), [(.slot 3)], none, .mv⟩, ⟨(some 35), [(.slot 6)], none, (.faddr false 0 1)⟩, ⟨(some 36), [(.slot 35)], none, (.load false 1)⟩, ⟨(some 37), [(.slot 34), (.slot 36)], none, (.iaddr 1)⟩, ⟨(some 38), [(.slot 37)], none, (.load false 1)⟩, ⟨(some 39), [(.slot 6)], none, (.faddr false 1 1)⟩, ⟨(some 40), [(.slot 39)], none, (.load false 1)⟩, ⟨(some 41), [(.slot 40)], none, (.bslice 1 1 (.int .i64 0) [0])⟩, ⟨(some 42), [(.slot 38), (.slot 41)], none, (.app 1 8 (.int .i64 0))⟩, ⟨(some 43), [(.slot 31), (.slot 33)], none, (.iaddr 1)⟩, ⟨none, [(.slot 43), (.slot 42)], none, (.store 1)⟩]) (.reg [o1 44 4 .mv, o1 45 6 (.faddr false 1 1), o1 46 45 (.load false 1), o2 47 44 46 (.iaddr 1), o1 48 47 (.load false 1), c2 49 48 (.int .i64 1) (.bin .add), o2 50 44 46 (.iaddr 1), n2 50 49 (.store 1)])) .skip)))) (.reg [c2 51 23 (.int .i64 1) (.bin .add), o1 23 51 .mv]))))))) (.seq (.reg [c1 7 .nilS .mv]) (.seq (.seq (.reg [o1 52 4 .mv, o1 53 52 (.len false), c1 54 (.int .i64 0) .mv]) (.block 2 (.loop (.seq (.reg [o2 55 54 53 (.bin .lss)]) (.seq (.cond (.slot 55) .skip (.exit 2)) (.seq (.block 3 (.seq (.reg [o1 56 54 .mv, o2 57 52 54 (.iaddr 1), o1 58 57 (.load false 1), o1 8 56 .mv, o1 9 58 .mv]) (.seq (.reg [o1 59 9 .mv, c2 60 59 (.int .i64 0) (.bin .eql)]) (.cond (.slot 60) (.reg [o1 61 7 .mv, o1 62 8 .mv, o1 63 62 (.bslice 1 1 (.int .i64 0) [0]), o2 64 61 63 (.app 1 8 (.int .i64 0)), o1 7 64 .mv]) .skip)))) (.reg [c2 65 54 (.int .i64 1) (.bin .add), o1 54 65 .mv]))))))) (.seq (.reg [c1 10 (.int .i64 0) .mv]) (.seq (.block 4 (.loop (.seq (.seq (.reg [o1 66 7 .mv, o1 67 66 (.len false), c2 68 67 (.int .i64 0) (.bin .gtr)]) (.cond (.slot 68) .skip (.exit 4))) (.seq (.block 5 (.seq (.reg [o1 71 7 .mv, c2 72 71 (.int .i64 0) (.iaddr 1), o1 73 72 (.load false 1), o1 11 73 .mv]) (.seq (.reg [o1 74 7 .mv, c2 75 74 (.int .i64 1) (.slice 1 true false false), o1 7 75 .mv]) (.seq (.reg [o1 76 3 .mv, o1 77 11 .mv, o2 78 76 77 (.iaddr 1), o1 79 78 (.load false 1), o1 80 79 (.len false), c1 81 (.int .i64 0) .mv]) (.block 6 (.loop (.seq (.reg [o2 82 81 80 (.bin .lss)]) (.seq (.cond (.slot 82) .skip (.exit 6)) (.seq (.block 7 (.seq (.reg [o2 83 79 81 (.iaddr 1), o1 84 83 (.load false 1), o1 13 84 .mv]) (.seq (.reg [o1 85 4 .mv, o1 86 13 .mv, o2 87 85 86 (.iaddr 1), o1 88 87 (.load false 1), c2 89 88 (.int .i64 1) (.bin .sub), o2 90 85 86 (.iaddr 1), n2 90 89 (.store 1)]) (.seq (.reg [o1 91 4 .mv, o1 92 13 .mv, o2 93 91 92 (.iaddr 1), o1 94 93 (.load false 1), c2 95 94 (.int .i64 0) (.bin .eql)]) (.cond (.slot 95) (.reg [o1 96 7 .mv, o1 97 13 .mv, o1 98 97 (.bslice 1 1 (.int .i64 0) [0]), o2 99 96 98 (.app 1 8 (.int .i64 0)), o1 7 99 .mv]) .skip))))) (.reg [c2 100 81 (.int .i64 1) (.bin .add), o1 81 100 .mv])))))))))) (.reg [o1 69 10 .mv, c2 70 69 (.int .i64 1) (.bin .add), o1 10 70 .mv]))))) (.seq (.reg [o1 101 10 .mv, o1 102 1 (.faddr false 2 1), o1 103 102 (.load false 1), o2 104 101 103 (.bin .lss), o1 2 104 .mv]) .ret)))))))))
theorem c_desc_cycle : compFn Try.prog 34 1 = some ⟨105, 1, [(.slot 2)], B_desc_cycle⟩ := by kernel_rfl
def B_word_Domain : AC := (.seq (.reg [c1 2 .nilS .mv]) (.seq (.seq (.reg [o1 3 0 .mv]) (.block 0 (.seq (.reg [c2 5 3 (.int .i64 1) (.bin .eql), o1 4 5 .mv]) (.cond (.slot 4) (.seq (.reg [⟨(some 6), [(.const (.int .i64 0)), (.const (.int .i64 255))], none, (.build [(.int .i64 0), (.int .i64 0)] [(0, 1), (1, 1)] [0, 1])⟩, o1 7 6 (.bslice 2 1 (.agg [(.int .i64 0), (.int .i64 0)]) [0]), o1 2 7 .mv]) .ret) (.seq (.reg [c2 9 3 (.int .i64 2) (.bin .eql), o1 8 9 .mv]) (.cond (.slot 8) (.seq (.reg [⟨(some 10), [(.const (.int .i64 0)), (.const (.int .i64 55295))], none, (.build [(.int .i64 0), (.int .i64 0)] [(0, 1), (1, 1)] [0, 1])⟩, ⟨(some 11), [(.const (.int .i64 57344)), (.const (.int .i64 1114111))], none, (.build [(.int .i64 0), (.int .i64 0)] [(0, 1), (1, 1)] [0, 1])⟩, o2 12 10 11 (.bslice 2 2 (.agg [(.int .i64 0), (.int .i64 0)]) [0, 1]), o1 2 12 .mv]) .ret) .skip)))))) (.seq (.reg [c1 2 .nilS .mv]) .ret)))
theorem c_word_Domain : compFn Try.prog 37 1 = some ⟨13, 1, [(.slot 2)], B_word_Domain⟩ := by kernel_rfl
def B_term_Copy : AC := (.seq (.reg [o0 4 (.alloc (.agg [(.int .i64 0), (.int .i64 0), (.int .i64 0), (.int .i64 0), (.int .i64 0), .nilS]) 6)]) (.seq (.reg [o1 5 1 .mv, o1 6 0 .mv, k1 7 58 6, o1 8 7 (.bslice 4 1 (.agg [(.int .i64 0), (.int .i64 0), (.int .i64 0), (.int .i64 0)]) [0]), ⟨(some 9), [(.const (.int .i64 21)), (.slot 5), (.slot 8)], none, (.build [(.int .i64 0), (.int .i64 0), (.int .i64 0), (.int .i64 0), (.int .i64 0), .nilS] [(0, 1), (1, 1), (2, 1), (3, 1), (4, 1), (5, 1)] [2, 4, 5])⟩, n2 4 9 (.store 6)]) .ret))
theorem c_term_Copy : compFn Try.prog 38 2 = some ⟨10, 2, [(.cell 4 true 6)], B_term_Copy⟩ := by kernel_rfl
def B_desc_copied : AC := (.seq (.reg [c1 2 .nilS .mv]) (.seq (.reg [c1 3 .nilS .mv]) (.seq (.seq (.reg [o1 6 0 .mv, o1 7 6 (.len false), c1 8 (.int .i64 0) .mv]) (.block 0 (.loop (.seq (.reg [o2 9 8 7 (.bin .lss)]) (.seq (.cond (.slot 9) .skip (.exit 0)) (.seq (.block 1 (.seq (.reg [o2 10 6 8 (.iaddr 1), o1 11 10 (.load false 1), o1 5 11 .mv]) (.reg [o1 12 3 .mv, o1 13 5 .mv, k1 14 64 13, o1 15 14 (.bslice 1 1 .nilS [0]), o2 16 12 15 (.app 1 24 .nilS), o1 3 16 .mv]))) (.reg [c2 17 8 (.int .i64 1) (.bin .add), o1 8 17 .mv]))))))) (.seq (.reg [o1 18 3 .mv, o1 2 18 .mv]) .ret))))
theorem c_desc_copied : compFn Try.prog 48 1 = some ⟨19, 1, [(.slot 2)], B_desc_copied⟩ := by kernel_rfl
def B_desc_terms : AC := (.seq (.reg [c1 2 .nilS .mv]) (.seq (.reg [c1 3 .nilS .mv]) (.seq (.seq (.reg [o1 6 0 .mv, o1 7 6 (.len false), c1 8 (.int .i64 0) .mv]) (.block 0 (.loop (.seq (.reg [o2 9 8 7 (.bin .lss)]) (.seq (.cond (.slot 9) .skip (.exit 0)) (.seq (.block 1 (.seq (.reg [o2 10 6 8 (.iaddr 6), o1 11 10 (.load true 6), o0 5 (.alloc (.agg [(.int .i64 0), (.int .i64 0), (.int .i64 0), (.int .i64 0), (.int .i64 0), .nilS]) 6), n2 5 11 (.store 6)]) (.seq (.reg [o1 12 5 (.faddr false 5 1), o1 13 12 (.load false 1), k1 14 65 13, o1 15 5 (.faddr false 5 1), n2 15 14 (.store 1)]) (.reg [o1 16 3 .mv, o1 17 5 (.load true 6), o1 18 17 (.bslice 6 1 (.agg [(.int .i64 0), (.int .i64 0), (.int .i64 0), (.int .i64 0), (.int .i64 0), .nilS]) [0]), o2 19 16 18 (.app 6 64 (.agg [(.int .i64 0), (.int .i64 0), (.int .i64 0), (.int .i64 0), (.int .i64 0), .nilS])), o1 3 19 .mv])))) (.reg [c2 20 8 (.int .i64 1) (.bin .add), o1 8 20 .mv]))))))) (.seq (.reg [o1 21 3 .mv, o1 2 21 .mv]) .ret))))
theorem c_desc_terms : compFn Try.prog 49 1 = some ⟨22, 1, [(.slot 2)], B_desc_terms⟩ := by kernel_rfl
def B_span_Check : AC := (.seq (.reg [c1 2 (.bool false) .mv]) (.seq (.reg [c1 3 (.int .i64 (-1073741826)) .mv]) (.seq (.seq (.reg [o1 6 0 .mv, o1 7 6 (.len false), c1 8 (.int .i64 0) .mv]) (.block 0 (.loop (.seq (.reg [o2 9 8 7 (.bin .lss)]) (.seq (.cond (.slot 9) .skip (.exit 0)) (.seq (.block 1 (.seq (.reg [o2 10 6 8 (.iaddr 2), o1 11 10 (.load true 2), o0 5 (.alloc (.agg [(.int .i64 0), (.int .i64 0)]) 2), n2 5 11 (.store 2)]) (.seq (.seq (.reg [o1 12 5 (.faddr false 0 1), o1 13 12 (.load false 1), o1 14 5 (.faddr false 1 1), o1 15 14 (.load false 1), o2 16 13 15 (.bin .gtr), o1 17 16 .mv, ⟨(some 18), [(.slot 5)], (some (17, false)), (.faddr false 0 1)⟩, ⟨(some 19), [(.slot 18)], (some (17, false)), (.load false 1)⟩, ⟨(some 20), [(.slot 19), (.const (.int .i64 (-1073741824)))], (some (17, false)), (.bin .lss)⟩, ⟨(some 21), [(.slot 17), (.const (.bool true)), (.slot 20)], none, .pick⟩, o1 22 21 .mv, ⟨(some 23), [(.slot 5)], (some (22, false)), (.faddr false 1 1)⟩, ⟨(some 24), [(.slot 23)], (some (22, false)), (.load false 1)⟩, ⟨(some 25), [(.slot 24), (.const (.int .i64 1073741824))], (some (22, false)), (.bin .gtr)⟩, ⟨(some 26), [(.slot 22), (.const (.bool true)), (.slot 25)], none, .pick⟩, o1 27 26 .mv, ⟨(some 28), [(.slot 5)], (some (27, false)), (.faddr false 0 1)⟩, ⟨(some 29), [(.slot 28)], (some (27, false)), (.load false 1)⟩, ⟨(some 30), [(.slot 3)], (some (27, false)), .mv⟩, ⟨(some 31), [(.slot 30), (.const (.int .i64 1))], (some (27, false)), (.bin .add)⟩, ⟨(some 32), [(.slot 29), (.slot 31)], (some (27, false)), (.bin .leq)⟩, ⟨(some 33), [(.slot 27), (.const (.bool true)), (.slot 32)], none, .pick⟩]) (.cond (.slot 33) (.seq (.reg [c1 2 (.bool false) .mv]) .ret) .skip)) (.reg [o1 34 5 (.faddr false 1 1), o1 35 34 (.load false 1), o1 3 35 .mv])))) (.reg [c2 36 8 (.int .i64 1) (.bin .add), o1 8 36 .mv]))))))) (.seq (.reg [c1 2 (.bool true) .mv]) .ret))))
theorem c_span_Check : compFn Try.prog 50 1 = some ⟨37, 1, [(.slot 2)], B_span_Check⟩ := by kernel_rfl
def B_span_Within : AC := (.seq (.reg [c1 4 (.bool false) .mv]) (.seq (.reg [o1 5 0 .mv, o1 6 1 .mv, k2 7 66 5 6, o1 8 7 (.len false), c2 9 8 (.int .i64 0) (.bin .eql), o1 4 9 .mv]) .ret))
theorem c_span_Within : compFn Try.prog 51 2 = some ⟨10, 2, [(.slot 4)], B_span_Within⟩ := by kernel_rfl
def B_term_Fits : AC := (.seq (.reg [o1 4 0 .box, c1 8 (.bool false) .mv]) (.seq (.seq (.reg [o1 11 4 (.load true 6), o1 12 1 .mv, o1 13 2 .mv, o1 14 3 .mv, o1 15 14 (.len false), ⟨(some 16), [(.const (.fn 67 [])), (.slot 11), (.slot 12), (.slot 13), (.slot 15)], none, .call⟩, o1 17 16 (.un .not)]) (.cond (.slot 17) (.seq (.reg [c1 8 (.bool false) .mv]) .ret) .skip)) (.seq (.reg [o1 19 4 (.load true 6), o1 20 3 .mv, k2 21 68 19 20, o1 18 21 .mv, o1 22 18 (.extract 0), o1 23 18 (.extract 1), o1 9 22 .mv, o1 10 23 .mv]) (.seq (.reg [o1 24 10 .mv, o1 25 24 .mv, g1 26 25 9 .mv, g1 27 25 2 .mv, ⟨(some 28), [(.const (.fn 37 [])), (.slot 27)], (some (25, true)), .call⟩, ⟨(some 29), [(.const (.fn 51 [])), (.slot 26), (.slot 28)], (some (25, true)), .call⟩, ⟨(some 30), [(.slot 25), (.slot 29), (.const (.bool false))], none, .pick⟩, o1 8 30 .mv]) .ret))))
theorem c_term_Fits : compFn Try.prog 52 4 = some ⟨31, 4, [(.slot 8)], B_term_Fits⟩ := by kernel_rfl
def B_ref01_Make : AC := (.seq (.reg [c1 6 .nilS .mv]) (.seq (.reg [c1 7 .nilS .mv]) (.seq (.reg [o1 15 0 .mv, o1 16 1 .mv, k2 17 69 15 16, o1 8 17 .mv]) (.seq (.seq (.reg [c1 9 (.int .i64 0) .mv]) (.block 0 (.loop (.seq (.seq (.reg [o1 18 9 .mv, o1 19 8 .mv, o1 20 19 (.len false), o2 21 18 20 (.bin .lss)]) (.cond (.slot 21) .skip (.exit 0))) (.seq (.block 1 (.seq (.dreg [o1 24 0 .mv, o1 25 8 .mv, o1 26 9 .mv, o2 27 25 26 (.iaddr 1), o1 28 27 (.load false 1), k2 29 70 24 28, o1 30 1 .mv, o1 31 8 .mv, o1 32 9 .mv, o2 33 31 32 (.iaddr 1), o1 34 33 (.load false 1), k2 35 70 30 34, o1 10 29 .mv, o1 11 35 .mv]) (.seq (.reg [o1 36 10 .mv, o1 37 36 .mv, ⟨(some 38), [(.slot 11)], (some (37, false)), .mv⟩, ⟨(some 39), [(.slot 37), (.const (.bool true)), (.slot 38)], none, .pick⟩, o1 12 39 .mv]) (.seq (.seq (.reg [o1 40 2 .mv, c2 41 40 (.int .i64 1) (.bin .eql)]) (.cond (.slot 41) (.reg [o1 42 10 .mv, o1 43 42 .mv, g1 44 43 11 .mv, ⟨(some 45), [(.slot 43), (.slot 44), (.const (.bool false))], none, .pick⟩, o1 12 45 .mv]) .skip)) (.seq (.seq (.reg [o1 46 2 .mv, c2 47 46 (.int .i64 2) (.bin .eql)]) (.cond (.slot 47) (.reg [o1 48 10 .mv, o1 49 48 .mv, g1 50 49 11 .mv, g1 51 49 50 (.un .not), ⟨(some 52), [(.slot 49), (.slot 51), (.const (.bool false))], none, .pick⟩, o1 12 52 .mv]) .skip)) (.seq (.seq (.reg [o1 53 12 .mv, o1 54 53 (.un .not)]) (.cond (.slot 54) (.exit 1) .skip)) (.seq (.reg [c1 13 (.int .i64 1073741824) .mv]) (.seq (.seq (.reg [o1 55 9 .mv, c2 56 55 (.int .i64 1) (.bin .add), o1 57 8 .mv, o1 58 57 (.len false), o2 59 56 58 (.bin .lss)]) (.cond (.slot 59) (.reg [o1 60 8 .mv, o1 61 9 .mv, c2 62 61 (.int .i64 1) (.bin .add), o2 63 60 62 (.iaddr 1), o1 64 63 (.load false 1), c2 65 64 (.int .i64 1) (.bin .sub), o1 13 65 .mv]) .skip)) (.seq (.reg [o1 66 7 .mv, o1 67 66 (.len false), o1 14 67 .mv]) (.seq (.dreg [o1 68 14 .mv, c2 69 68 (.int .i64 0) (.bin .gtr), o1 70 69 .mv, g1 71 70 7 .mv, g1 72 70 14 .mv, ⟨(some 73), [(.slot 72), (.const (.int .i64 1))], (some (70, true)), (.bin .sub)⟩, g2 74 70 71 73 (.iaddr 2), g1 75 70 74 (.faddr false 1 1), g1 76 70 75 (.load false 1), g1 77 70 8 .mv, g1 78 70 9 .mv, g2 79 70 77 78 (.iaddr 1), g1 80 70 79 (.load false 1), ⟨(some 81), [(.slot 80), (.const (.int .i64 1))], (some (70, true)), (.bin .sub)⟩, g2 82 70 76 81 (.bin .eql), ⟨(some 83), [(.slot 70), (.slot 82), (.const (.bool false))], none, .pick⟩]) (.cond (.slot 83) (.reg [o1 84 7 .mv, o1 85 14 .mv, c2 86 85 (.int .i64 1) (.bin .sub), o1 87 13 .mv, o2 88 84 86 (.iaddr 2), o1 89 88 (.faddr false 1 1), n2 89 87 (.store 1)]) (.reg [o1 90 7 .mv, o1 91 8 .mv, o1 92 9 .mv, o2 93 91 92 (.iaddr 1), o1 94 93 (.load false 1), o1 95 13 .mv, o2 96 94 95 (.build [(.int .i64 0), (.int .i64 0)] [(0, 1), (1, 1)] [0, 1]), o1 97 96 (.bslice 2 1 (.agg [(.int .i64 0), (.int .i64 0)]) [0]), o2 98 90 97 (.app 2 16 (.agg [(.int .i64 0), (.int .i64 0)])), o1 7 98 .mv])))))))))))) (.reg [o1 22 9 .mv, c2 23 22 (.int .i64 1) (.bin .add), o1 9 23 .mv])))))) (.seq (.reg [o1 99 7 .mv, o1 6 99 .mv]) .ret)))))
theorem c_ref01_Make : compFn Try.prog 55 3 = some ⟨100, 3, [(.slot 6)], B_ref01_Make⟩ := by kernel_rfl
def B_part_Whole : AC := (.seq (.reg [o0 2 (.alloc (.agg [(.int .i64 0), (.int .i64 0), (.int .i64 0), (.int .i64 0)]) 4)]) (.seq (.reg [o1 3 0 .mv, c2 4 3 (.int .i64 21) (.build [(.int .i64 0), (.int .i64 0), (.int .i64 0), (.int .i64 0)] [(0, 1), (1, 1), (2, 1), (3, 1)] [0, 2]), n2 2 4 (.store 4)]) .ret))
theorem c_part_Whole : compFn Try.prog 58 1 = some ⟨5, 1, [(.cell 2 true 4)], B_part_Whole⟩ := by kernel_rfl
def B_slices_Clone_api_Span_api_Span : AC := (.seq (.reg [c1 2 .nilS .mv]) (.seq (.seq (.reg [o1 3 0 .mv, c2 4 3 .nilS (.eqn false)]) (.cond (.slot 4) (.seq (.reg [c1 2 .nilS .mv]) .ret) .skip)) (.seq (.reg [o0 5 (.bslice 2 0 (.agg [(.int .i64 0), (.int .i64 0)]) []), o1 6 0 .mv, o2 7 5 6 (.app 2 16 (.agg [(.int .i64 0), (.int .i64 0)])), o1 2 7 .mv]) .ret)))
theorem c_slices_Clone_api_Span_api_Span : compFn Try.prog 64 1 = some ⟨8, 1, [(.slot 2)], B_slices_Clone_api_Span_api_Span⟩ := by kernel_rfl
def B_slices_Clone_api_Part_api_Part : AC := (.seq (.reg [c1 2 .nilS .mv]) (.seq (.seq (.reg [o1 3 0 .mv, c2 4 3 .nilS (.eqn false)]) (.cond (.slot 4) (.seq (.reg [c1 2 .nilS .mv]) .ret) .skip)) (.seq (.reg [o0 5 (.bslice 4 0 (.agg [(.int .i64 0), (.int .i64 0), (.int .i64 0), (.int .i64 0)]) []), o1 6 0 .mv, o2 7 5 6 (.app 4 32 (.agg [(.int .i64 0), (.int .i64 0), (.int .i64 0), (.int .i64 0)])), o1 2 7 .mv]) .ret)))
theorem c_slices_Clone_api_Part_api_Part : compFn Try.prog 65 1 = some ⟨8, 1, [(.slot 2)], B_slices_Clone_api_Part_api_Part⟩ := by kernel_rfl
def B_span_Minus : AC := (.seq (.reg [c1 4 .nilS .mv]) (.seq (.reg [c1 5 .nilS .mv]) (.seq (.reg [c1 6 (.int .i64 (-1073741824)) .mv]) (.seq (.seq (.reg [o1 9 1 .mv, k1 10 75 9, o1 11 10 (.len false), c1 12 (.int .i64 0) .mv]) (.block 0 (.loop (.seq (.reg [o2 13 12 11 (.bin .lss)]) (.seq (.cond (.slot 13) .skip (.exit 0)) (.seq (.block 1 (.seq (.reg [o2 14 10 12 (.iaddr 2), o1 15 14 (.load true 2), o0 8 (.alloc (.agg [(.int .i64 0), (.int .i64 0)]) 2), n2 8 15 (.store 2)]) (.seq (.reg [o1 16 5 .mv, o1 17 6 .mv, o1 18 8 (.faddr false 0 1), o1 19 18 (.load false 1), c2 20 19 (.int .i64 1) (.bin .sub), o2 21 17 20 (.build [(.int .i64 0), (.int .i64 0)] [(0, 1), (1, 1)] [0, 1]), o1 22 21 (.bslice 2 1 (.agg [(.int .i64 0), (.int .i64 0)]) [0]), o2 23 16 22 (.app 2 16 (.agg [(.int .i64 0), (.int .i64 0)])), o1 5 23 .mv]) (.reg [o1 24 8 (.faddr false 1 1), o1 25 24 (.load false 1), c2 26 25 (.int .i64 1) (.bin .add), o1 6 26 .mv])))) (.reg [c2 27 12 (.int .i64 1) (.bin .add), o1 12 27 .mv]))))))) (.seq (.reg [o1 28 5 .mv, o1 29 6 .mv, c2 30 29 (.int .i64 1073741824) (.build [(.int .i64 0), (.int .i64 0)] [(0, 1), (1, 1)] [0, 1]), o1 31 30 (.bslice 2 1 (.agg [(.int .i64 0), (.int .i64 0)]) [0]), o2 32 28 31 (.app 2 16 (.agg [(.int .i64 0), (.int .i64 0)])), o1 5 32 .mv]) (.seq (.reg [o1 33 0 .mv, o1 34 5 .mv, k2 35 76 33 34, o1 4 35 .mv]) .ret))))))
theorem c_span_Minus : compFn Try.prog 66 2 = some ⟨36, 2, [(.slot 4)], B_span_Minus⟩ := by kernel_rfl
def B_term_Right : AC := (.seq (.reg [o1 4 0 .box, c1 8 (.bool false) .mv]) (.seq (.seq (.reg [o1 11 1 .mv, k1 12 37 11, o1 13 12 (.len false), c2 14 13 (.int .i64 0) (.bin .eql), o1 15 14 .mv, ⟨(some 16), [(.slot 2)], (some (15, false)), .mv⟩, ⟨(some 17), [(.const (.fn 37 [])), (.slot 16)], (some (15, false)), .call⟩, ⟨(some 18), [(.slot 17)], (some (15, false)), (.len false)⟩, ⟨(some 19), [(.slot 18), (.const (.int .i64 0))], (some (15, false)), (.bin .eql)⟩, ⟨(some 20), [(.slot 15), (.const (.bool true)), (.slot 19)], none, .pick⟩, o1 21 20 .mv, ⟨(some 22), [(.slot 4)], (some (21, false)), (.load true 6)⟩, ⟨(some 23), [(.const (.fn 77 [])), (.slot 22)], (some (21, false)), .call⟩, ⟨(some 24), [(.slot 23)], (some (21, false)), (.un .not)⟩, ⟨(some 25), [(.slot 21), (.const (.bool true)), (.slot 24)], none, .pick⟩]) (.cond (.slot 25) (.seq (.reg [c1 8 (.bool false) .mv]) .ret) .skip)) (.seq (.seq (.reg [o1 26 4 (.faddr false 5 1), o1 27 26 (.load false 1), o1 28 27 (.len false), c1 29 (.int .i64 0) .mv]) (.block 0 (.loop (.seq (.reg [o2 30 29 28 (.bin .lss)]) (.seq (.cond (.slot 30) .skip (.exit 0)) (.seq (.block 1 (.seq (.reg [o2 31 27 29 (.iaddr 4), o1 32 31 (.load true 4), o0 10 (.alloc (.agg [(.int .i64 0), (.int .i64 0), (.int .i64 0), (.int .i64 0)]) 4), n2 10 32 (.store 4)]) (.seq (.dreg [o1 33 10 (.load true 4), o1 34 3 .mv, k2 35 78 33 34, o1 36 35 (.un .not), o1 37 36 .mv, ⟨(some 38), [(.slot 1)], (some (37, false)), .mv⟩, ⟨(some 39), [(.slot 38), (.const (.int .i64 2))], (some (37, false)), (.bin .eql)⟩, ⟨(some 40), [(.slot 39)], (some (37, false)), .mv⟩, g1 41 40 10 (.load true 4), g1 42 40 10 (.faddr false 0 1), g1 43 40 42 (.load false 1), ⟨(some 44), [(.const (.fn 58 [])), (.slot 43)], (some (40, true)), .call⟩, g2 45 40 41 44 (.eqs true [1, 1, 1, 1]), ⟨(some 46), [(.slot 40), (.slot 45), (.const (.bool false))], (some (37, false)), .pick⟩, ⟨(some 47), [(.slot 37), (.const (.bool true)), (.slot 46)], none, .pick⟩]) (.cond (.slot 47) (.seq (.reg [c1 8 (.bool false) .mv]) .ret) .skip)))) (.reg [c2 48 29 (.int .i64 1) (.bin .add), o1 29 48 .mv]))))))) (.seq (.reg [o1 49 1 .mv, c2 50 49 (.int .i64 2) (.bin .neq), o1 51 50 .mv, ⟨(some 52), [(.slot 4)], (some (51, false)), (.faddr false 5 1)⟩, ⟨(some 53), [(.slot 52)], (some (51, false)), (.load false 1)⟩, ⟨(some 54), [(.slot 53)], (some (51, false)), (.len false)⟩, ⟨(some 55), [(.slot 54), (.const (.int .i64 1))], (some (51, false)), (.bin .leq)⟩, ⟨(some 56), [(.slot 51), (.const (.bool true)), (.slot 55)], none, .pick⟩, o1 57 56 .mv, g1 58 57 2 .mv, ⟨(some 59), [(.slot 58), (.const (.int .i64 2))], (some (57, true)), (.bin .neq)⟩, g1 60 57 59 .mv, ⟨(some 61), [(.slot 4)], (some (60, false)), (.load true 6)⟩, ⟨(some 62), [(.const (.fn 79 [])), (.slot 61)], (some (60, false)), .call⟩, ⟨(some 63), [(.slot 60), (.const (.bool true)), (.slot 62)], (some (57, true)), .pick⟩, ⟨(some 64), [(.slot 57), (.slot 63), (.const (.bool false))], none, .pick⟩, o1 8 64 .mv]) .ret))))
theorem c_term_Right : compFn Try.prog 67 4 = some ⟨65, 4, [(.slot 8)], B_term_Right⟩ := by kernel_rfl
def B_term_Image : AC := (.seq (.reg [o1 2 0 .box, c1 4 .nilS .mv, c1 5 (.bool false) .mv]) (.seq (.reg [o1 9 2 (.load true 6), o1 10 1 .mv, k2 11 80 9 10, o1 8 11 .mv, o1 12 8 (.extract 0), o1 13 8 (.extract 1), o1 6 12 .mv, o1 7 13 .mv]) (.seq (.seq (.reg [o1 14 7 .mv, o1 15 14 (.un .not)]) (.cond (.slot 15) (.seq (.reg [c1 4 .nilS .mv, c1 5 (.bool false) .mv]) .ret) .skip)) (.seq (.seq (.reg [o1 16 6 .mv, o1 17 16 (.len false), c2 18 17 (.int .i64 0) (.bin .eql)]) (.cond (.slot 18) (.seq (.reg [c1 4 .nilS .mv, c1 5 (.bool true) .mv]) .ret) .skip)) (.seq (.dreg [o1 19 2 (.load true 6), k1 20 83 19, o1 21 6 .mv, k2 22 82 20 21, o1 23 2 (.faddr false 0 1), o1 24 23 (.load false 1), k2 25 81 22 24, o1 4 25 .mv, c1 5 (.bool true) .mv]) .ret)))))
theorem c_term_Image : compFn Try.prog 68 2 = some ⟨26, 2, [(.slot 4), (.slot 5)], B_term_Image⟩ := by kernel_rfl
def B_ref01_borders : AC := (.seq (.reg [c1 4 .nilS .mv]) (.seq (.reg [c1 9 (.int .i64 (-1073741824)) (.bslice 1 1 (.int .i64 0) [0]), o1 5 9 .mv]) (.seq (.seq (.reg [c1 6 (.int .i64 0) .mv]) (.block 0 (.loop (.seq (.seq (.reg [o1 10 6 .mv, c2 11 10 (.int .i64 2) (.bin .lss)]) (.cond (.slot 11) .skip (.exit 0))) (.seq (.block 1 (.seq (.reg [o1 14 0 .mv, o1 7 14 .mv]) (.seq (.seq (.reg [o1 15 6 .mv, c2 16 15 (.int .i64 1) (.bin .eql)]) (.cond (.slot 16) (.reg [o1 17 1 .mv, o1 7 17 .mv]) .skip)) (.seq (.reg [c1 8 (.int .i64 0) .mv]) (.block 2 (.loop (.seq (.seq (.reg [o1 18 8 .mv, o1 19 7 .mv, o1 20 19 (.len false), o2 21 18 20 (.bin .lss)]) (.cond (.slot 21) .skip (.exit 2))) (.seq (.block 3 (.seq (.seq (.reg [o1 24 7 .mv, o1 25 8 .mv, o2 26 24 25 (.iaddr 2), o1 27 26 (.faddr false 0 1), o1 28 27 (.load false 1), c2 29 28 (.int .i64 (-1073741824)) (.bin .gtr), o1 30 29 .mv, g1 31 30 7 .mv, g1 32 30 8 .mv, g2 33 30 31 32 (.iaddr 2), g1 34 30 33 (.faddr false 0 1), g1 35 30 34 (.load false 1), ⟨(some 36), [(.slot 35), (.const (.int .i64 1073741824))], (some (30, true)), (.bin .leq)⟩, ⟨(some 37), [(.slot 30), (.slot 36), (.const (.bool false))], none, .pick⟩]) (.cond (.slot 37) (.reg [o1 38 5 .mv, o1 39 7 .mv, o1 40 8 .mv, o2 41 39 40 (.iaddr 2), o1 42 41 (.faddr false 0 1), o1 43 42 (.load false 1), k2 44 84 38 43, o1 5 44 .mv]) .skip)) (.seq (.reg [o1 45 7 .mv, o1 46 8 .mv, o2 47 45 46 (.iaddr 2), o1 48 47 (.faddr false 1 1), o1 49 48 (.load false 1), c2 50 49 (.int .i64 (-1073741824)) (.bin .geq), o1 51 50 .mv, g1 52 51 7 .mv, g1 53 51 8 .mv, g2 54 51 52 53 (.iaddr 2), g1 55 51 54 (.faddr false 1 1), g1 56 51 55 (.load false 1), ⟨(some 57), [(.slot 56), (.const (.int .i64 1073741824))], (some (51, true)), (.bin .lss)⟩, ⟨(some 58), [(.slot 51), (.slot 57), (.const (.bool false))], none, .pick⟩]) (.cond (.slot 58) (.reg [o1 59 5 .mv, o1 60 7 .mv, o1 61 8 .mv, o2 62 60 61 (.iaddr 2), o1 63 62 (.faddr false 1 1), o1 64 63 (.load false 1), c2 65 64 (.int .i64 1) (.bin .add), k2 66 84 59 65, o1 5 66 .mv]) .skip)))) (.reg [o1 22 8 .mv, c2 23 22 (.int .i64 1) (.bin .add), o1 8 23 .mv]))))))))) (.reg [o1 12 6 .mv, c2 13 12 (.int .i64 1) (.bin .add), o1 6 13 .mv])))))) (.seq (.reg [o1 67 5 .mv, o1 4 67 .mv]) .ret))))
theorem c_ref01_borders : compFn Try.prog 69 2 = some ⟨68, 2, [(.slot 4)], B_ref01_borders⟩ := by kernel_rfl
def B_ref01_Has : AC := (.seq (.reg [c1 4 (.bool false) .mv]) (.seq (.seq (.reg [c1 5 (.int .i64 0) .mv]) (.block 0 (.loop (.seq (.seq (.reg [o1 6 5 .mv, o1 7 0 .mv, o1 8 7 (.len false), o2 9 6 8 (.bin .lss)]) (.cond (.slot 9) .skip (.exit 0))) (.seq (.block 1 (.seq (.reg [o1 12 0 .mv, o1 13 5 .mv, o2 14 12 13 (.iaddr 2), o1 15 14 (.faddr false 0 1), o1 16 15 (.load false 1), o1 17 1 .mv, o2 18 16 17 (.bin .leq), o1 19 18 .mv, g1 20 19 1 .mv, g1 21 19 0 .mv, g1 22 19 5 .mv, g2 23 19 21 22 (.iaddr 2), g1 24 19 23 (.faddr false 1 1), g1 25 19 24 (.load false 1), g2 26 19 20 25 (.bin .leq), ⟨(some 27), [(.slot 19), (.slot 26), (.const (.bool false))], none, .pick⟩, o1 28 27 .mv, g1 29 28 1 .mv, ⟨(some 30), [(.slot 29), (.const (.int .i64 (-1073741824)))], (some (28, true)), (.bin .geq)⟩, ⟨(some 31), [(.slot 28), (.slot 30), (.const (.bool false))], none, .pick⟩, o1 32 31 .mv, g1 33 32 1 .mv, ⟨(some 34), [(.slot 33), (.const (.int .i64 1073741824))], (some (32, true)), (.bin .leq)⟩, ⟨(some 35), [(.slot 32), (.slot 34), (.const (.bool false))], none, .pick⟩]) (.cond (.slot 35) (.seq (.reg [c1 4 (.bool true) .mv]) .ret) .skip))) (.reg [o1 10 5 .mv, c2 11 10 (.int .i64 1) (.bin .add), o1 5 11 .mv])))))) (.seq (.reg [c1 4 (.bool false) .mv]) .ret)))
theorem c_ref01_Has : compFn Try.prog 70 2 = some ⟨36, 2, [(.slot 4)], B_ref01_Has⟩ := by kernel_rfl
def B_span_Norm : AC := (.seq (.reg [c1 2 .nilS .mv]) (.seq (.reg [o1 10 0 .mv, o1 11 10 (.len false), ⟨(some 12), [(.const (.int .i64 0)), (.slot 11)], none, (.mkSlice 2 16 (.agg [(.int .i64 0), (.int .i64 0)]))⟩, o1 3 12 .mv]) (.seq (.seq (.reg [o1 13 0 .mv, o1 14 13 (.len false), c1 15 (.int .i64 0) .mv]) (.block 0 (.loop (.seq (.reg [o2 16 15 14 (.bin .lss)]) (.seq (.cond (.slot 16) .skip (.exit 0)) (.seq (.block 1 (.seq (.reg [o2 17 13 15 (.iaddr 2), o1 18 17 (.load true 2), o0 5 (.alloc (.agg [(.int .i64 0), (.int .i64 0)]) 2), n2 5 18 (.store 2)]) (.seq (.reg [o1 19 5 (.faddr false 0 1), o1 20 19 (.load false 1), c2 21 20 (.int .i64 (-1073741824)) .max, o1 22 5 (.faddr false 1 1), o1 23 22 (.load false 1), c2 24 23 (.int .i64 1073741824) .min, o1 25 5 (.faddr false 0 1), n2 25 21 (.store 1), o1 26 5 (.faddr false 1 1), n2 26 24 (.store 1)]) (.seq (.reg [o1 27 5 (.faddr false 0 1), o1 28 27 (.load false 1), o1 29 5 (.faddr false 1 1), o1 30 29 (.load false 1), o2 31 28 30 (.bin .leq)]) (.cond (.slot 31) (.reg [o1 32 3 .mv, o1 33 5 (.load true 2), o1 34 33 (.bslice 2 1 (.agg [(.int .i64 0), (.int .i64 0)]) [0]), o2 35 32 34 (.app 2 16 (.agg [(.int .i64 0), (.int .i64 0)])), o1 3 35 .mv]) .skip))))) (.reg [c2 36 15 (.int .i64 1) (.bin .add), o1 15 36 .mv]))))))) (.seq (.reg [o1 37 3 .mv, ⟨(some 38), [(.const (.fn 94 [])), (.slot 37), (.const (.fn 95 []))], none, .call⟩]) (.seq (.reg [o1 39 3 .mv, c2 40 39 (.int .i64 0) (.slice 2 false true false), o1 6 40 .mv]) (.seq (.seq (.reg [o1 41 3 .mv, o1 42 41 (.len false), c1 43 (.int .i64 0) .mv]) (.block 2 (.loop (.seq (.reg [o2 44 43 42 (.bin .lss)]) (.seq (.cond (.slot 44) .skip (.exit 2)) (.seq (.block 3 (.seq (.reg [o2 45 41 43 (.iaddr 2), o1 46 45 (.load true 2), o0 8 (.alloc (.agg [(.int .i64 0), (.int .i64 0)]) 2), n2 8 46 (.store 2)]) (.seq (.seq (.reg [o1 47 6 .mv, o1 48 47 (.len false), o1 9 48 .mv]) (.seq (.dreg [o1 49 9 .mv, c2 50 49 (.int .i64 0) (.bin .gtr), o1 51 50 .mv, g1 52 51 8 (.faddr false 0 1), g1 53 51 52 (.load false 1), g1 54 51 6 .mv, g1 55 51 9 .mv, ⟨(some 56), [(.slot 55), (.const (.int .i64 1))], (some (51, true)), (.bin .sub)⟩, g2 57 51 54 56 (.iaddr 2), g1 58 51 57 (.faddr false 1 1), g1 59 51 58 (.load false 1), ⟨(some 60), [(.slot 59), (.const (.int .i64 1))], (some (51, true)), (.bin .add)⟩, g2 61 51 53 60 (.bin .leq), ⟨(some 62), [(.slot 51), (.slot 61), (.const (.bool false))], none, .pick⟩]) (.cond (.slot 62) (.seq (.dtl [o1 63 6 .mv, o1 64 9 .mv, c2 65 64 (.int .i64 1) (.bin .sub), o1 66 6 .mv, o1 67 9 .mv, c2 68 67 (.int .i64 1) (.bin .sub), o2 69 66 68 (.iaddr 2), o1 70 69 (.faddr false 1 1), o1 71 70 (.load false 1), o1 72 8 (.faddr false 1 1), o1 73 72 (.load false 1), o2 74 71 73 .max, o2 75 63 65 (.iaddr 2), o1 76 75 (.faddr false 1 1)] [n2 76 74 (.store 1)]) (.exit 3)) .skip))) (.reg [o1 77 6 .mv, o1 78 8 (.load true 2), o1 79 78 (.bslice 2 1 (.agg [(.int .i64 0), (.int .i64 0)]) [0]), o2 80 77 79 (.app 2 16 (.agg [(.int .i64 0), (.int .i64 0)])), o1 6 80 .mv])))) (.reg [c2 81 43 (.int .i64 1) (.bin .add), o1 43 81 .mv]))))))) (.seq (.reg [o1 82 6 .mv, o1 2 82 .mv]) .ret)))))))
theorem c_span_Norm : compFn Try.prog 75 1 = some ⟨83, 1, [(.slot 2)], B_span_Norm⟩ := by kernel_rfl
def B_span_Meet : AC := (.seq (.reg [c1 4 .nilS .mv]) (.seq (.reg [o1 7 0 .mv, k1 8 75 7, o1 9 1 .mv, k1 10 75 9, o1 0 8 .mv, o1 1 10 .mv]) (.seq (.reg [c1 5 .nilS .mv]) (.seq (.block 0 (.loop (.seq (.seq (.reg [o1 11 0 .mv, o1 12 11 (.len false), c2 13 12 (.int .i64 0) (.bin .gtr), o1 14 13 .mv, g1 15 14 1 .mv, g1 16 14 15 (.len false), ⟨(some 17), [(.slot 16), (.const (.int .i64 0))], (some (14, true)), (.bin .gtr)⟩, ⟨(some 18), [(.slot 14), (.slot 17), (.const (.bool false))], none, .pick⟩]) (.cond (.slot 18) .skip (.exit 0))) (.block 1 (.seq (.greg [o1 19 0 .mv, c2 20 19 (.int .i64 0) (.iaddr 2), o1 21 20 (.faddr false 0 1), o1 22 21 (.load false 1), o1 23 1 .mv, c2 24 23 (.int .i64 0) (.iaddr 2), o1 25 24 (.faddr false 0 1), o1 26 25 (.load false 1), o2 27 22 26 .max, o1 28 0 .mv, c2 29 28 (.int .i64 0) (.iaddr 2), o1 30 29 (.faddr false 1 1), o1 31 30 (.load false 1), o1 32 1 .mv, c2 33 32 (.int .i64 0) (.iaddr 2), o1 34 33 (.faddr false 1 1), o1 35 34 (.load false 1), o2 36 31 35 .min, o2 37 27 36 (.build [(.int .i64 0), (.int .i64 0)] [(0, 1), (1, 1)] [0, 1]), o0 6 (.alloc (.agg [(.int .i64 0), (.int .i64 0)]) 2), n2 6 37 (.store 2)]) (.seq (.seq (.reg [o1 38 6 (.faddr false 0 1), o1 39 38 (.load false 1), o1 40 6 (.faddr false 1 1), o1 41 40 (.load false 1), o2 42 39 41 (.bin .leq)]) (.cond (.slot 42) (.reg [o1 43 5 .mv, o1 44 6 (.load true 2), o1 45 44 (.bslice 2 1 (.agg [(.int .i64 0), (.int .i64 0)]) [0]), o2 46 43 45 (.app 2 16 (.agg [(.int .i64 0), (.int .i64 0)])), o1 5 46 .mv]) .skip)) (.seq (.dreg [o1 47 0 .mv, c2 48 47 (.int .i64 0) (.iaddr 2), o1 49 48 (.faddr false 1 1), o1 50 49 (.load false 1), o1 51 1 .mv, c2 52 51 (.int .i64 0) (.iaddr 2), o1 53 52 (.faddr false 1 1), o1 54 53 (.load false 1), o2 55 50 54 (.bin .lss)]) (.cond (.slot 55) (.reg [o1 56 0 .mv, c2 57 56 (.int .i64 1) (.slice 2 true false false), o1 0 57 .mv]) (.reg [o1 58 1 .mv, c2 59 58 (.int .i64 1) (.slice 2 true false false), o1 1 59 .mv]))))))))) (.seq (.reg [o1 60 5 .mv, o1 4 60 .mv]) .ret)))))
theorem c_span_Meet : compFn Try.prog 76 2 = some ⟨61, 2, [(.slot 4)], B_span_Meet⟩ := by kernel_rfl
def B_term_numbers : AC := (.seq (.reg [o1 1 0 .box, c1 2 (.bool false) .mv]) (.seq (.reg [o1 3 1 (.faddr false 0 1), o1 4 3 (.load false 1), k1 5 97 4, o1 6 5 .mv, g1 7 6 1 (.faddr false 4 1), g1 8 6 7 (.load false 1), ⟨(some 9), [(.const (.fn 97 [])), (.slot 8)], (some (6, true)), .call⟩, ⟨(some 10), [(.slot 6), (.slot 9), (.const (.bool false))], none, .pick⟩, o1 11 10 .mv, g1 12 11 1 (.load true 6), ⟨(some 13), [(.const (.fn 83 [])), (.slot 12)], (some (11, true)), .call⟩, ⟨(some 14), [(.const (.fn 78 [])), (.slot 13), (.const (.int .i64 1))], (some (11, true)), .call⟩, ⟨(some 15), [(.slot 11), (.slot 14), (.const (.bool false))], none, .pick⟩, o1 16 15 .mv, g1 17 16 1 (.faddr false 5 1), g1 18 16 17 (.load false 1), ⟨(some 19), [(.const (.fn 98 [])), (.slot 18)], (some (16, true)), .call⟩, ⟨(some 20), [(.slot 16), (.slot 19), (.const (.bool false))], none, .pick⟩, o1 2 20 .mv]) .ret))
theorem c_term_numbers : compFn Try.prog 77 1 = some ⟨21, 1, [(.slot 2)], B_term_numbers⟩ := by kernel_rfl
def B_part_Right : AC := (.seq (.reg [o1 2 0 .box, c1 4 (.bool false) .mv]) (.seq (.reg [o1 5 2 (.faddr false 0 1), o1 6 5 (.load false 1), c2 7 6 (.int .i64 0) (.bin .geq), o1 8 7 .mv, g1 9 8 2 (.faddr false 0 1), g1 10 8 9 (.load false 1), g1 11 8 1 .mv, g2 12 8 10 11 (.bin .lss), ⟨(some 13), [(.slot 8), (.slot 12), (.const (.bool false))], none, .pick⟩, o1 14 13 .mv, g1 15 14 2 (.load true 4), ⟨(some 16), [(.const (.fn 99 [])), (.slot 15)], (some (14, true)), .call⟩, ⟨(some 17), [(.slot 14), (.slot 16), (.const (.bool false))], none, .pick⟩, o1 4 17 .mv]) .ret))
theorem c_part_Right : compFn Try.prog 78 2 = some ⟨18, 2, [(.slot 4)], B_part_Right⟩ := by kernel_rfl
def B_term_plain : AC := (.seq (.reg [o1 1 0 .box, c1 2 (.bool false) .mv]) (.seq (.reg [o1 3 1 (.faddr false 0 1), o1 4 3 (.load false 1), c2 5 4 (.int .i64 0) (.bin .eql), o1 6 5 .mv, g1 7 6 1 (.load true 6), ⟨(some 8), [(.const (.fn 83 [])), (.slot 7)], (some (6, true)), .call⟩, ⟨(some 9), [(.const (.fn 58 [])), (.const (.int .i64 0))], (some (6, true)), .call⟩, g2 10 6 8 9 (.eqs false [1, 1, 1, 1]), ⟨(some 11), [(.slot 6), (.slot 10), (.const (.bool false))], none, .pick⟩, o1 2 11 .mv]) .ret))
theorem c_term_plain : compFn Try.prog 79 1 = some ⟨12, 1, [(.slot 2)], B_term_plain⟩ := by kernel_rfl
def B_term_inner : AC := (.seq (.reg [o1 2 0 .box, c1 4 .nilS .mv, c1 5 (.bool false) .mv]) (.seq (.seq (.reg [o1 12 1 .mv, o1 13 12 (.len false), c2 14 13 (.int .i64 4) (.bin .gtr), o1 15 14 .mv, ⟨(some 16), [(.slot 2)], (some (15, false)), (.load true 6)⟩, ⟨(some 17), [(.const (.fn 77 [])), (.slot 16)], (some (15, false)), .call⟩, ⟨(some 18), [(.slot 17)], (some (15, false)), (.un .not)⟩, ⟨(some 19), [(.slot 15), (.const (.bool true)), (.slot 18)], none, .pick⟩]) (.cond (.slot 19) (.seq (.reg [c1 4 .nilS .mv, c1 5 (.bool false) .mv]) .ret) .skip)) (.seq (.reg [c1 6 (.bool true) .mv]) (.seq (.reg [o1 20 1 .mv, o1 21 20 (.len false), o2 22 21 21 (.mkSlice 1 24 .nilS), o1 7 22 .mv]) (.seq (.seq (.reg [o1 23 1 .mv, o1 24 23 (.len false), c1 25 (.int .i64 0) .mv]) (.block 0 (.loop (.seq (.reg [o2 26 25 24 (.bin .lss)]) (.seq (.cond (.slot 26) .skip (.exit 0)) (.seq (.block 1 (.seq (.reg [o1 27 25 .mv, o2 28 23 25 (.iaddr 1), o1 29 28 (.load false 1), o1 8 27 .mv, o1 9 29 .mv]) (.seq (.reg [o1 30 7 .mv, o1 31 8 .mv, o1 32 9 .mv, k0 33 100, k2 34 76 32 33, o2 35 30 31 (.iaddr 1), n2 35 34 (.store 1)]) (.reg [o1 36 6 .mv, o1 37 36 .mv, g1 38 37 7 .mv, g1 39 37 8 .mv, g2 40 37 38 39 (.iaddr 1), g1 41 37 40 (.load false 1), g1 42 37 41 (.len false), ⟨(some 43), [(.slot 42), (.const (.int .i64 0))], (some (37, true)), (.bin .gtr)⟩, ⟨(some 44), [(.slot 37), (.slot 43), (.const (.bool false))], none, .pick⟩, o1 6 44 .mv])))) (.reg [c2 45 25 (.int .i64 1) (.bin .add), o1 25 45 .mv]))))))) (.seq (.seq (.reg [o1 46 2 (.faddr false 5 1), o1 47 46 (.load false 1), o1 48 47 (.len false), c1 49 (.int .i64 0) .mv]) (.block 2 (.loop (.seq (.reg [o2 50 49 48 (.bin .lss)]) (.seq (.cond (.slot 50) .skip (.exit 2)) (.seq (.block 3 (.seq (.reg [o2 51 47 49 (.iaddr 4), o1 52 51 (.load true 4), o0 11 (.alloc (.agg [(.int .i64 0), (.int .i64 0), (.int .i64 0), (.int .i64 0)]) 4), n2 11 52 (.store 4)]) (.seq (.reg [o1 53 11 (.load true 4), o1 54 1 .mv, o1 55 54 (.len false), k2 56 78 53 55, o1 57 56 (.un .not)]) (.cond (.slot 57) (.seq (.reg [c1 4 .nilS .mv, c1 5 (.bool false) .mv]) .ret) .skip)))) (.reg [c2 58 49 (.int .i64 1) (.bin .add), o1 49 58 .mv]))))))) (.seq (.seq (.reg [o1 59 6 .mv, o1 60 59 (.un .not)]) (.cond (.slot 60) (.seq (.reg [c1 4 .nilS .mv, c1 5 (.bool true) .mv]) .ret) .skip)) (.seq (.reg [o1 61 2 (.load true 6), o1 62 7 .mv, k2 63 101 61 62, o1 64 63 (.extract 0), o1 65 63 (.extract 1), o1 4 64 .mv, o1 5 65 .mv]) .ret))))))))
theorem c_term_inner : compFn Try.prog 80 2 = some ⟨66, 2, [(.slot 4), (.slot 5)], B_term_inner⟩ := by kernel_rfl
def B_span_Move : AC := (.seq (.reg [c1 4 .nilS .mv]) (.seq (.seq (.reg [o1 7 1 .mv, c2 8 7 (.int .i64 (-2147483648)) (.bin .lss), o1 9 8 .mv, ⟨(some 10), [(.slot 1)], (some (9, false)), .mv⟩, ⟨(some 11), [(.slot 10), (.const (.int .i64 2147483648))], (some (9, false)), (.bin .gtr)⟩, ⟨(some 12), [(.slot 9), (.const (.bool true)), (.slot 11)], none, .pick⟩]) (.cond (.slot 12) (.seq (.reg [c1 4 .nilS .mv]) .ret) .skip)) (.seq (.reg [o1 13 0 .mv, k1 14 75 13, o1 5 14 .mv]) (.seq (.seq (.reg [o1 15 5 .mv, o1 16 15 (.len false), c1 17 (.int .i64 0) .mv]) (.block 0 (.loop (.seq (.reg [o2 18 17 16 (.bin .lss)]) (.seq (.cond (.slot 18) .skip (.exit 0)) (.seq (.block 1 (.seq (.reg [o1 19 17 .mv, o1 6 19 .mv]) (.seq (.reg [o1 20 5 .mv, o1 21 6 .mv, o2 22 20 21 (.iaddr 2), o1 23 22 (.faddr false 0 1), o1 24 23 (.load false 1), o1 25 1 .mv, o2 26 24 25 (.bin .add), o2 27 20 21 (.iaddr 2), o1 28 27 (.faddr false 0 1), n2 28 26 (.store 1)]) (.reg [o1 29 5 .mv, o1 30 6 .mv, o2 31 29 30 (.iaddr 2), o1 32 31 (.faddr false 1 1), o1 33 32 (.load false 1), o1 34 1 .mv, o2 35 33 34 (.bin .add), o2 36 29 30 (.iaddr 2), o1 37 36 (.faddr false 1 1), n2 37 35 (.store 1)])))) (.reg [c2 38 17 (.int .i64 1) (.bin .add), o1 17 38 .mv]))))))) (.seq (.reg [o1 39 5 .mv, k1 40 75 39, o1 4 40 .mv]) .ret)))))
theorem c_span_Move : compFn Try.prog 81 2 = some ⟨41, 2, [(.slot 4)], B_span_Move⟩ := by kernel_rfl
def B_part_Image : AC := (.seq (.reg [o1 2 0 .box, c1 4 .nilS .mv]) (.seq (.seq (.reg [o1 13 2 (.load true 4), k1 14 99 13, o1 15 14 (.un .not)]) (.cond (.slot 15) (.seq (.reg [c1 4 .nilS .mv]) .ret) .skip)) (.seq (.reg [o1 16 2 (.faddr false 2 1), o1 17 16 (.load false 1), ⟨(some 18), [(.const (.int .i64 1)), (.slot 17)], none, (.bin .shl)⟩, c2 19 18 (.int .i64 1) (.bin .sub), o1 5 19 .mv]) (.seq (.reg [c1 6 .nilS .mv]) (.seq (.seq (.reg [o1 20 1 .mv, ⟨(some 21), [(.const (.int .i64 0)), (.const (.int .i64 2097151))], none, (.build [(.int .i64 0), (.int .i64 0)] [(0, 1), (1, 1)] [0, 1])⟩, o1 22 21 (.bslice 2 1 (.agg [(.int .i64 0), (.int .i64 0)]) [0]), k2 23 76 20 22, o1 24 23 (.len false), c1 25 (.int .i64 0) .mv]) (.block 0 (.loop (.seq (.reg [o2 26 25 24 (.bin .lss)]) (.seq (.cond (.slot 26) .skip (.exit 0)) (.seq (.block 1 (.seq (.reg [o2 27 23 25 (.iaddr 2), o1 28 27 (.load true 2), o0 8 (.alloc (.agg [(.int .i64 0), (.int .i64 0)]) 2), n2 8 28 (.store 2)]) (.seq (.dreg [o1 29 8 (.faddr false 0 1), o1 30 29 (.load false 1), o1 31 2 (.faddr false 1 1), o1 32 31 (.load false 1), o2 33 30 32 (.bin .shr), o1 34 8 (.faddr false 1 1), o1 35 34 (.load false 1), o1 36 2 (.faddr false 1 1), o1 37 36 (.load false 1), o2 38 35 37 (.bin .shr), o1 9 33 .mv, o1 10 38 .mv]) (.seq (.seq (.reg [o1 39 10 .mv, o1 40 9 .mv, o2 41 39 40 (.bin .sub), o1 42 5 .mv, o2 43 41 42 (.bin .geq)]) (.cond (.slot 43) (.seq (.reg [o1 44 5 .mv, ⟨(some 45), [(.const (.int .i64 0)), (.slot 44)], none, (.build [(.int .i64 0), (.int .i64 0)] [(0, 1), (1, 1)] [0, 1])⟩, o1 46 45 (.bslice 2 1 (.agg [(.int .i64 0), (.int .i64 0)]) [0]), o1 6 46 .mv]) (.exit 0)) .skip)) (.seq (.reg [o1 47 9 .mv, o1 48 5 .mv, o2 49 47 48 (.bin .and), o1 50 10 .mv, o1 51 5 .mv, o2 52 50 51 (.bin .and), o2 53 49 52 (.bin .leq)]) (.cond (.slot 53) (.reg [o1 54 6 .mv, o1 55 9 .mv, o1 56 5 .mv, o2 57 55 56 (.bin .and), o1 58 10 .mv, o1 59 5 .mv, o2 60 58 59 (.bin .and), o2 61 57 60 (.build [(.int .i64 0), (.int .i64 0)] [(0, 1), (1, 1)] [0, 1]), o1 62 61 (.bslice 2 1 (.agg [(.int .i64 0), (.int .i64 0)]) [0]), o2 63 54 62 (.app 2 16 (.agg [(.int .i64 0), (.int .i64 0)])), o1 6 63 .mv]) (.reg [o1 64 6 .mv, o1 65 10 .mv, o1 66 5 .mv, o2 67 65 66 (.bin .and), ⟨(some 68), [(.const (.int .i64 0)), (.slot 67)], none, (.build [(.int .i64 0), (.int .i64 0)] [(0, 1), (1, 1)] [0, 1])⟩, o1 69 9 .mv, o1 70 5 .mv, o2 71 69 70 (.bin .and), o1 72 5 .mv, o2 73 71 72 (.build [(.int .i64 0), (.int .i64 0)] [(0, 1), (1, 1)] [0, 1]), o2 74 68 73 (.bslice 2 2 (.agg [(.int .i64 0), (.int .i64 0)]) [0, 1]), o2 75 64 74 (.app 2 16 (.agg [(.int .i64 0), (.int .i64 0)])), o1 6 75 .mv]))))))) (.reg [c2 76 25 (.int .i64 1) (.bin .add), o1 25 76 .mv]))))))) (.seq (.reg [o1 77 6 .mv, k1 78 75 77, o1 6 78 .mv]) (.seq (.seq (.reg [o1 79 2 (.faddr false 3 1), o1 80 79 (.load false 1), c2 81 80 (.int .i64 0) (.bin .eql)]) (.cond (.slot 81) (.seq (.reg [o1 82 6 .mv, o1 4 82 .mv]) .ret) .skip)) (.seq (.reg [o0 11 (.alloc .nilS 1)]) (.seq (.seq (.reg [o1 83 6 .mv, k1 84 102 83]) (.block 2 (.rng (.slot 84) [85] (.reg [o1 12 85 .mv]) (.block 3 (.dtl [o1 86 11 (.load false 1), o1 87 12 .mv, o1 88 2 (.faddr false 3 1), o1 89 88 (.load false 1), o2 90 87 89 (.bin .shl), o1 91 12 .mv, o1 92 2 (.faddr false 3 1), o1 93 92 (.load false 1), o2 94 91 93 (.bin .shl), o2 95 90 94 (.build [(.int .i64 0), (.int .i64 0)] [(0, 1), (1, 1)] [0, 1]), o1 96 95 (.bslice 2 1 (.agg [(.int .i64 0), (.int .i64 0)]) [0])] [o2 97 86 96 (.app 2 16 (.agg [(.int .i64 0), (.int .i64 0)])), n2 11 97 (.store 1)]))))) (.seq (.reg [o1 98 11 (.load false 1), k1 99 75 98, o1 4 99 .mv]) .ret))))))))))
theorem c_part_Image : compFn Try.prog 82 2 = some ⟨100, 2, [(.slot 4)], B_part_Image⟩ := by kernel_rfl
def B_term_outer : AC := (.seq (.reg [o1 1 0 .box, o0 2 (.alloc (.agg [(.int .i64 0), (.int .i64 0), (.int .i64 0), (.int .i64 0)]) 4)]) (.seq (.reg [o1 3 1 (.faddr false 1 1), o1 4 3 (.load false 1), o1 5 1 (.faddr false 2 1), o1 6 5 (.load false 1), o1 7 1 (.faddr false 3 1), o1 8 7 (.load false 1), o3 9 4 6 8 (.build [(.int .i64 0), (.int .i64 0), (.int .i64 0), (.int .i64 0)] [(0, 1), (1, 1), (2, 1), (3, 1)] [1, 2, 3]), n2 2 9 (.store 4)]) .ret))
theorem c_term_outer : compFn Try.prog 83 1 = some ⟨10, 1, [(.cell 2 true 4)], B_term_outer⟩ := by kernel_rfl
def B_ref01_put : AC := (.seq (.reg [c1 4 .nilS .mv]) (.seq (.reg [o1 9 0 .mv, o1 10 9 (.len false), c1 5 (.int .i64 0) .mv, o1 6 10 .mv]) (.seq (.block 0 (.loop (.seq (.seq (.reg [o1 11 5 .mv, o1 12 6 .mv, o2 13 11 12 (.bin .lss)]) (.cond (.slot 13) .skip (.exit 0))) (.block 1 (.seq (.reg [o1 14 5 .mv, o1 15 6 .mv, o2 16 14 15 (.bin .add), c2 17 16 (.int .i64 2) (.bin .quo), o1 7 17 .mv]) (.seq (.reg [o1 18 0 .mv, o1 19 7 .mv, o2 20 18 19 (.iaddr 1), o1 21 20 (.load false 1), o1 22 1 .mv, o2 23 21 22 (.bin .lss)]) (.cond (.slot 23) (.reg [o1 24 7 .mv, c2 25 24 (.int .i64 1) (.bin .add), o1 5 25 .mv]) (.reg [o1 26 7 .mv, o1 6 26 .mv])))))))) (.seq (.seq (.reg [o1 27 5 .mv, o1 28 0 .mv, o1 29 28 (.len false), o2 30 27 29 (.bin .lss), o1 31 30 .mv, g1 32 31 0 .mv, g1 33 31 5 .mv, g2 34 31 32 33 (.iaddr 1), g1 35 31 34 (.load false 1), g1 36 31 1 .mv, g2 37 31 35 36 (.bin .eql), ⟨(some 38), [(.slot 31), (.slot 37), (.const (.bool false))], none, .pick⟩]) (.cond (.slot 38) (.seq (.reg [o1 39 0 .mv, o1 4 39 .mv]) .ret) .skip)) (.seq (.reg [o1 40 0 .mv, c1 41 (.int .i64 0) (.bslice 1 1 (.int .i64 0) [0]), o2 42 40 41 (.app 1 8 (.int .i64 0)), o1 0 42 .mv]) (.seq (.seq (.reg [o1 43 0 .mv, o1 44 43 (.len false), c2 45 44 (.int .i64 1) (.bin .sub), o1 8 45 .mv]) (.block 2 (.loop (.seq (.seq (.reg [o1 46 8 .mv, o1 47 5 .mv, o2 48 46 47 (.bin .gtr)]) (.cond (.slot 48) .skip (.exit 2))) (.seq (.block 3 (.reg [o1 51 0 .mv, o1 52 8 .mv, o1 53 0 .mv, o1 54 8 .mv, c2 55 54 (.int .i64 1) (.bin .sub), o2 56 53 55 (.iaddr 1), o1 57 56 (.load false 1), o2 58 51 52 (.iaddr 1), n2 58 57 (.store 1)])) (.reg [o1 49 8 .mv, c2 50 49 (.int .i64 1) (.bin .sub), o1 8 50 .mv])))))) (.seq (.reg [o1 59 0 .mv, o1 60 5 .mv, o1 61 1 .mv, o2 62 59 60 (.iaddr 1), n2 62 61 (.store 1)]) (.seq (.reg [o1 63 0 .mv, o1 4 63 .mv]) .ret))))))))
theorem c_ref01_put : compFn Try.prog 84 2 = some ⟨64, 2, [(.slot 4)], B_ref01_put⟩ := by kernel_rfl
def B_slices_SortFunc_api_Span_api_Span : AC := (.seq (.reg [o1 5 0 .mv, o1 6 5 (.len false), o1 4 6 .mv]) (.reg [o1 7 0 .mv, o1 8 4 .mv, o1 9 4 .mv, o1 10 9 (.conv .u64), k1 11 107 10, o1 12 1 .mv, ⟨(some 13), [(.const (.fn 106 [])), (.slot 7), (.const (.int .i64 0)), (.slot 8), (.slot 11), (.slot 12)], none, .call⟩]))
theorem c_slices_SortFunc_api_Span_api_Span : compFn Try.prog 94 2 = some ⟨14, 2, [], B_slices_SortFunc_api_Span_api_Span⟩ := by kernel_rfl
def B_term_small : AC := (.seq (.reg [c1 2 (.bool false) .mv]) (.seq (.reg [o1 3 0 .mv, c2 4 3 (.int .i64 (-1114111)) (.bin .geq), o1 5 4 .mv, g1 6 5 0 .mv, ⟨(some 7), [(.slot 6), (.const (.int .i64 1114111))], (some (5, true)), (.bin .leq)⟩, ⟨(some 8), [(.slot 5), (.slot 7), (.const (.bool false))], none, .pick⟩, o1 2 8 .mv]) .ret))
theorem c_term_small : compFn Try.prog 97 1 = some ⟨9, 1, [(.slot 2)], B_term_small⟩ := by kernel_rfl
def B_term_rising : AC := (.seq (.reg [c1 2 (.bool false) .mv]) (.seq (.seq (.reg [o1 5 0 .mv, o1 6 5 (.len false), c1 7 (.int .i64 0) .mv]) (.block 0 (.loop (.seq (.reg [o2 8 7 6 (.bin .lss)]) (.seq (.cond (.slot 8) .skip (.exit 0)) (.seq (.block 1 (.seq (.reg [o1 9 7 .mv, o2 10 5 7 (.iaddr 4), o1 11 10 (.load true 4), o0 4 (.alloc (.agg [(.int .i64 0), (.int .i64 0), (.int .i64 0), (.int .i64 0)]) 4), o1 3 9 .mv, n2 4 11 (.store 4)]) (.seq (.dreg [o1 12 3 .mv, c2 13 12 (.int .i64 0) (.bin .gtr), o1 14 13 .mv, g1 15 14 4 (.faddr false 3 1), g1 16 14 15 (.load false 1), g1 17 14 0 .mv, g1 18 14 3 .mv, ⟨(some 19), [(.slot 18), (.const (.int .i64 1))], (some (14, true)), (.bin .sub)⟩, g2 20 14 17 19 (.iaddr 4), g1 21 14 20 (.faddr false 3 1), g1 22 14 21 (.load false 1), g2 23 14 16 22 (.bin .leq), ⟨(some 24), [(.slot 14), (.slot 23), (.const (.bool false))], none, .pick⟩]) (.cond (.slot 24) (.seq (.reg [c1 2 (.bool false) .mv]) .ret) .skip)))) (.reg [c2 25 7 (.int .i64 1) (.bin .add), o1 7 25 .mv]))))))) (.seq (.reg [o1 26 0 .mv, o1 27 26 (.len false), c2 28 27 (.int .i64 4) (.bin .leq), o1 2 28 .mv]) .ret)))
theorem c_term_rising : compFn Try.prog 98 1 = some ⟨29, 1, [(.slot 2)], B_term_rising⟩ := by kernel_rfl
def B_part_bits : AC := (.seq (.reg [o1 1 0 .box, c1 2 (.bool false) .mv]) (.seq (.reg [o1 3 1 (.faddr false 1 1), o1 4 3 (.load false 1), c2 5 4 (.int .i64 0) (.bin .geq), o1 6 5 .mv, g1 7 6 1 (.faddr false 1 1), g1 8 6 7 (.load false 1), ⟨(some 9), [(.slot 8), (.const (.int .i64 21))], (some (6, true)), (.bin .lss)⟩, ⟨(some 10), [(.slot 6), (.slot 9), (.const (.bool false))], none, .pick⟩, o1 11 10 .mv, g1 12 11 1 (.faddr false 2 1), g1 13 11 12 (.load false 1), ⟨(some 14), [(.slot 13), (.const (.int .i64 1))], (some (11, true)), (.bin .geq)⟩, ⟨(some 15), [(.slot 11), (.slot 14), (.const (.bool false))], none, .pick⟩, o1 16 15 .mv, g1 17 16 1 (.faddr false 2 1), g1 18 16 17 (.load false 1), ⟨(some 19), [(.slot 18), (.const (.int .i64 21))], (some (16, true)), (.bin .leq)⟩, ⟨(some 20), [(.slot 16), (.slot 19), (.const (.bool false))], none, .pick⟩, o1 21 20 .mv, g1 22 21 1 (.faddr false 3 1), g1 23 21 22 (.load false 1), ⟨(some 24), [(.slot 23), (.const (.int .i64 0))], (some (21, true)), (.bin .geq)⟩, ⟨(some 25), [(.slot 21), (.slot 24), (.const (.bool false))], none, .pick⟩, o1 26 25 .mv, g1 27 26 1 (.faddr false 3 1), g1 28 26 27 (.load false 1), ⟨(some 29), [(.slot 28), (.const (.int .i64 21))], (some (26, true)), (.bin .lss)⟩, ⟨(some 30), [(.slot 26), (.slot 29), (.const (.bool false))], none, .pick⟩, o1 31 30 .mv, g1 32 31 1 (.faddr false 3 1), g1 33 31 32 (.load false 1), ⟨(some 34), [(.slot 33), (.const (.int .i64 0))], (some (31, true)), (.bin .eql)⟩, g1 35 31 34 .mv, ⟨(some 36), [(.slot 1)], (some (35, false)), (.faddr false 2 1)⟩, ⟨(some 37), [(.slot 36)], (some (35, false)), (.load false 1)⟩, ⟨(some 38), [(.slot 37), (.const (.int .i64 6))], (some (35, false)), (.bin .leq)⟩, ⟨(some 39), [(.slot 35), (.const (.bool true)), (.slot 38)], (some (31, true)), .pick⟩, ⟨(some 40), [(.slot 31), (.slot 39), (.const (.bool false))], none, .pick⟩, o1 2 40 .mv]) .ret))
theorem c_part_bits : compFn Try.prog 99 1 = some ⟨41, 1, [(.slot 2)], B_part_bits⟩ := by kernel_rfl
def B_term_symbols : AC := (.seq (.reg [c1 0 .nilS .mv]) (.seq (.reg [⟨(some 1), [(.const (.int .i64 0)), (.const (.int .i64 1114111))], none, (.build [(.int .i64 0), (.int .i64 0)] [(0, 1), (1, 1)] [0, 1])⟩, o1 2 1 (.bslice 2 1 (.agg [(.int .i64 0), (.int .i64 0)]) [0]), o1 0 2 .mv]) .ret))
theorem c_term_symbols : compFn Try.prog 100 0 = some ⟨3, 0, [(.slot 0)], B_term_symbols⟩ := by kernel_rfl
def B_term_values : AC := (.seq (.reg [o1 2 0 .box, c1 4 .nilS .mv, c1 5 (.bool false) .mv]) (.seq (.reg [o0 17 .mkMap, o1 6 17 .mv]) (.seq (.reg [c1 7 .nilS .mv]) (.seq (.seq (.reg [o1 18 2 (.faddr false 5 1), o1 19 18 (.load false 1), o1 20 19 (.len false), c1 21 (.int .i64 0) .mv]) (.block 0 (.loop (.seq (.reg [o2 22 21 20 (.bin .lss)]) (.seq (.cond (.slot 22) .skip (.exit 0)) (.seq (.block 1 (.seq (.reg [o2 23 19 21 (.iaddr 4), o1 24 23 (.load true 4), o0 9 (.alloc (.agg [(.int .i64 0), (.int .i64 0), (.int .i64 0), (.int .i64 0)]) 4), n2 9 24 (.store 4)]) (.seq (.seq (.reg [o1 25 6 .mv, o1 26 9 (.faddr false 0 1), o1 27 26 (.load false 1), o2 28 25 27 (.mapGet .nilS), o1 29 28 (.len false), c2 30 29 (.int .i64 0) (.bin .eql)]) (.cond (.slot 30) (.reg [o1 31 7 .mv, o1 32 9 (.faddr false 0 1), o1 33 32 (.load false 1), o1 34 33 (.bslice 1 1 (.int .i64 0) [0]), o2 35 31 34 (.app 1 8 (.int .i64 0)), o1 7 35 .mv]) .skip)) (.grx [false, true, true, false, true, true, false, true, false, false, false] [⟨(some 36), [(.slot 6)], none, .mv⟩, ⟨(some 37), [(.slot 9)], none, (.faddr false 0 1)⟩, ⟨(some 38), [(.slot 37)], none, (.load false 1)⟩, ⟨(some 39), [(.slot 6)], none, .mv⟩, ⟨(some 40), [(.slot 9)], none, (.faddr false 0 1)⟩, ⟨(some 41), [(.slot 40)], none, (.load false 1)⟩, ⟨(some 42), [(.slot 39), (.slot 41)], none, (.mapGet .nilS)⟩, ⟨(some 43), [(.slot 9)], none, (.load true 4)⟩, ⟨(some 44), [(.slot 43)], none, (.bslice 4 1 (.agg [(.int .i64 0), (.int .i64 0), (.int .i64 0), (.int .i64 0)]) [0])⟩, ⟨(some 45), [(.slot 42), (.slot 44)], none, (.app 4 32 (.agg [(.int .i64 0), (.int .i64 0), (.int .i64 0), (.int .i64 0)]))⟩, ⟨none, [(.slot 36), (.slot 38), (.slot 45)], none, .mapSet⟩])))) (.reg [c2 46 21 (.int .i64 1) (.bin .add), o1 21 46 .mv]))))))) (.seq (.reg [o1 47 2 (.faddr false 4 1), o1 48 47 (.load false 1), o1 49 2 (.faddr false 4 1), o1 50 49 (.load false 1), o2 51 48 50 (.build [(.int .i64 0), (.int .i64 0)] [(0, 1), (1, 1)] [0, 1]), o1 52 51 (.bslice 2 1 (.agg [(.int .i64 0), (.int .i64 0)]) [0]), o1 10 52 .mv]) (.seq (.seq (.reg [o1 53 7 .mv, o1 54 53 (.len false), c1 55 (.int .i64 0) .mv]) (.block 2 (.loop (.seq (.reg [o2 56 55 54 (.bin .lss)]) (.seq (.cond (.slot 56) .skip (.exit 2)) (.seq (.block 3 (.seq (.reg [o2 57 53 55 (.iaddr 1), o1 58 57 (.load false 1), o1 12 58 .mv]) (.dreg [o1 59 10 .mv, o1 60 6 .mv, o1 61 12 .mv, o2 62 60 61 (.mapGet .nilS), o1 63 1 .mv, o1 64 12 .mv, o2 65 63 64 (.iaddr 1), o1 66 65 (.load false 1), k2 67 110 62 66, k2 68 109 59 67, o1 10 68 .mv]))) (.reg [c2 69 55 (.int .i64 1) (.bin .add), o1 55 69 .mv]))))))) (.seq (.reg [o1 71 10 .mv, k1 72 111 71, o1 70 72 .mv, o1 73 70 (.extract 0), o1 74 70 (.extract 1), o1 13 73 .mv, o1 14 74 .mv]) (.seq (.reg [o1 76 10 .mv, k1 77 112 76, o1 75 77 .mv, o1 78 75 (.extract 0), o1 79 75 (.extract 1), o1 15 78 .mv, o1 16 79 .mv]) (.seq (.reg [o1 80 10 .mv, o1 81 10 .mv, o1 82 81 (.len false), c2 83 82 (.int .i64 0) (.bin .gtr), o1 84 83 .mv, g1 85 84 13 .mv, ⟨(some 86), [(.slot 85), (.const (.int .i64 0))], (some (84, true)), (.bin .geq)⟩, ⟨(some 87), [(.slot 84), (.slot 86), (.const (.bool false))], none, .pick⟩, o1 88 87 .mv, g1 89 88 15 .mv, ⟨(some 90), [(.slot 89), (.const (.int .i64 1114111))], (some (88, true)), (.bin .leq)⟩, ⟨(some 91), [(.slot 88), (.slot 90), (.const (.bool false))], none, .pick⟩, o1 4 80 .mv, o1 5 91 .mv]) .ret)))))))))
theorem c_term_values : compFn Try.prog 101 2 = some ⟨92, 2, [(.slot 4), (.slot 5)], B_term_values⟩ := by kernel_rfl
def B_span_Each : AC := (.seq (.reg [c1 2 .nilF .mv]) (.seq (.reg [o1 4 0 .mv, k1 5 75 4, o0 3 (.alloc .nilS 1), n2 3 5 (.store 1)]) (.seq (.reg [o1 6 3 (.mkFunc 113), o1 2 6 .mv]) .ret)))
theorem c_span_Each : compFn Try.prog 102 1 = some ⟨7, 1, [(.slot 2)], B_span_Each⟩ := by kernel_rfl
def B_slices_pdqsortCmpFunc_api_Span : AC := (.seq (.reg [c1 10 (.bool true) .mv]) (.seq (.reg [c1 11 (.bool true) .mv]) (.block 0 (.loop (.block 1 (.seq (.reg [o1 21 2 .mv, o1 22 1 .mv, o2 23 21 22 (.bin .sub), o1 12 23 .mv]) (.seq (.seq (.reg [o1 24 12 .mv, c2 25 24 (.int .i64 12) (.bin .leq)]) (.cond (.slot 25) (.seq (.reg [o1 26 0 .mv, o1 27 1 .mv, o1 28 2 .mv, o1 29 4 .mv, ⟨(some 30), [(.const (.fn 114 [])), (.slot 26), (.slot 27), (.slot 28), (.slot 29)], none, .call⟩]) .ret) .skip)) (.seq (.seq (.reg [o1 31 3 .mv, c2 32 31 (.int .i64 0) (.bin .eql)]) (.cond (.slot 32) (.seq (.reg [o1 33 0 .mv, o1 34 1 .mv, o1 35 2 .mv, o1 36 4 .mv, ⟨(some 37), [(.const (.fn 115 [])), (.slot 33), (.slot 34), (.slot 35), (.slot 36)], none, .call⟩]) .ret) .skip)) (.seq (.seq (.reg [o1 38 10 .mv, o1 39 38 (.un .not)]) (.cond (.slot 39) (.seq (.reg [o1 40 0 .mv, o1 41 1 .mv, o1 42 2 .mv, o1 43 4 .mv, ⟨(some 44), [(.const (.fn 116 [])), (.slot 40), (.slot 41), (.slot 42), (.slot 43)], none, .call⟩]) (.reg [o1 45 3 .mv, c2 46 45 (.int .i64 1) (.bin .sub), o1 3 46 .mv])) .skip)) (.seq (.reg [o1 48 0 .mv, o1 49 1 .mv, o1 50 2 .mv, o1 51 4 .mv, ⟨(some 52), [(.const (.fn 117 [])), (.slot 48), (.slot 49), (.slot 50), (.slot 51)], none, .call⟩, o1 47 52 .mv, o1 53 47 (.extract 0), o1 54 47 (.extract 1), o1 13 53 .mv, o1 14 54 .mv]) (.seq (.seq (.reg [o1 55 14 .mv, c2 56 55 (.int .i64 2) (.bin .eql)]) (.cond (.slot 56) (.seq (.reg [o1 57 0 .mv, o1 58 1 .mv, o1 59 2 .mv, o1 60 4 .mv, ⟨(some 61), [(.const (.fn 118 [])), (.slot 57), (.slot 58), (.slot 59), (.slot 60)], none, .call⟩]) (.seq (.reg [o1 62 2 .mv, c2 63 62 (.int .i64 1) (.bin .sub), o1 64 13 .mv, o1 65 1 .mv, o2 66 64 65 (.bin .sub), o2 67 63 66 (.bin .sub), o1 13 67 .mv]) (.reg [c1 14 (.int .i64 1) .mv]))) .skip)) (.seq (.seq (.reg [o1 68 10 .mv, o1 69 68 .mv, g1 70 69 11 .mv, ⟨(some 71), [(.slot 69), (.slot 70), (.const (.bool false))], none, .pick⟩, o1 72 71 .mv, g1 73 72 14 .mv, ⟨(some 74), [(.slot 73), (.const (.int .i64 1))], (some (72, true)), (.bin .eql)⟩, ⟨(some 75), [(.slot 72), (.slot 74), (.const (.bool false))], none, .pick⟩]) (.cond (.slot 75) (.seq (.reg [o1 76 0 .mv, o1 77 1 .mv, o1 78 2 .mv, o1 79 4 .mv, ⟨(some 80), [(.const (.fn 119 [])), (.slot 76), (.slot 77), (.slot 78), (.slot 79)], none, .call⟩]) (.cond (.slot 80) .ret .skip)) .skip)) (.seq (.seq (.dreg [o1 81 1 .mv, c2 82 81 (.int .i64 0) (.bin .gtr), o1 83 82 .mv, g1 84 83 4 .mv, g1 85 83 0 .mv, g1 86 83 1 .mv, ⟨(some 87), [(.slot 86), (.const (.int .i64 1))], (some (83, true)), (.bin .sub)⟩, g2 88 83 85 87 (.iaddr 2), g1 89 83 88 (.load true 2), g1 90 83 0 .mv, g1 91 83 13 .mv, g2 92 83 90 91 (.iaddr 2), g1 93 83 92 (.load true 2), ⟨(some 94), [(.slot 84), (.slot 89), (.slot 93)], (some (83, true)), .call⟩, ⟨(some 95), [(.slot 94), (.const (.int .i64 0))], (some (83, true)), (.bin .lss)⟩, g1 96 83 95 (.un .not), ⟨(some 97), [(.slot 83), (.slot 96), (.const (.bool false))], none, .pick⟩]) (.cond (.slot 97) (.seq (.reg [o1 98 0 .mv, o1 99 1 .mv, o1 100 2 .mv, o1 101 13 .mv, o1 102 4 .mv, ⟨(some 103), [(.const (.fn 120 [])), (.slot 98), (.slot 99), (.slot 100), (.slot 101), (.slot 102)], none, .call⟩, o1 15 103 .mv]) (.seq (.reg [o1 104 15 .mv, o1 1 104 .mv]) (.exit 1))) .skip)) (.seq (.reg [o1 106 0 .mv, o1 107 1 .mv, o1 108 2 .mv, o1 109 13 .mv, o1 110 4 .mv, ⟨(some 111), [(.const (.fn 121 [])), (.slot 106), (.slot 107), (.slot 108), (.slot 109), (.slot 110)], none, .call⟩, o1 105 111 .mv, o1 112 105 (.extract 0), o1 113 105 (.extract 1), o1 16 112 .mv, o1 17 113 .mv]) (.seq (.reg [o1 114 17 .mv, o1 11 114 .mv]) (.seq (.reg [o1 115 16 .mv, o1 116 1 .mv, o2 117 115 116 (.bin .sub), o1 118 2 .mv, o1 119 16 .mv, o2 120 118 119 (.bin .sub), o1 18 117 .mv, o1 19 120 .mv]) (.seq (.reg [o1 121 12 .mv, c2 122 121 (.int .i64 8) (.bin .quo), o1 20 122 .mv]) (.seq (.reg [o1 123 18 .mv, o1 124 19 .mv, o2 125 123 124 (.bin .lss)]) (.cond (.slot 125) (.seq (.reg [o1 126 18 .mv, o1 127 20 .mv, o2 128 126 127 (.bin .geq), o1 10 128 .mv]) (.seq (.reg [o1 129 0 .mv, o1 130 1 .mv, o1 131 16 .mv, o1 132 3 .mv, o1 133 4 .mv, ⟨(some 134), [(.const (.fn 106 [])), (.slot 129), (.slot 130), (.slot 131), (.slot 132), (.slot 133)], none, .call⟩]) (.reg [o1 135 16 .mv, c2 136 135 (.int .i64 1) (.bin .add), o1 1 136 .mv]))) (.seq (.reg [o1 137 19 .mv, o1 138 20 .mv, o2 139 137 138 (.bin .geq), o1 10 139 .mv]) (.seq (.reg [o1 140 0 .mv, o1 141 16 .mv, c2 142 141 (.int .i64 1) (.bin .add), o1 143 2 .mv, o1 144 3 .mv, o1 145 4 .mv, ⟨(some 146), [(.const (.fn 106 [])), (.slot 140), (.slot 142), (.slot 143), (.slot 144), (.slot 145)], none, .call⟩]) (.reg [o1 147 16 .mv, o1 2 147 .mv]))))))))))))))))))))))
theorem c_slices_pdqsortCmpFunc_api_Span : compFn Try.prog 106 5 = some ⟨148, 5, [], B_slices_pdqsortCmpFunc_api_Span⟩ := by kernel_rfl
def B_math_bits_Len : AC := (.seq (.reg [c1 2 (.int .i64 0) .mv]) (.seq (.cond (.const (.bool false)) (.seq (.reg [o1 3 0 .mv, o1 4 3 (.conv .u32), k1 5 122 4, o1 2 5 .mv]) .ret) .skip) (.seq (.reg [o1 6 0 .mv, k1 7 123 6, o1 2 7 .mv]) .ret)))
theorem c_math_bits_Len : compFn Try.prog 107 1 = some ⟨8, 1, [(.slot 2)], B_math_bits_Len⟩ := by kernel_rfl
end Go.Proofs.Yticodgjinajkpaa
set_option maxRecDepth 100000
namespace Go.Proofs.Yticodgjinajkpaa
open Abs
def B_term_plus : AC := (.seq (.reg [c1 4 .nilS .mv]) (.seq (.reg [c1 5 .nilS .mv]) (.seq (.seq (.reg [o1 10 0 .mv, o1 11 10 (.len false), c1 12 (.int .i64 0) .mv]) (.block 0 (.loop (.seq (.reg [o2 13 12 11 (.bin .lss)]) (.seq (.cond (.slot 13) .skip (.exit 0)) (.seq (.block 1 (.seq (.reg [o2 14 10 12 (.iaddr 2), o1 15 14 (.load true 2), o0 7 (.alloc (.agg [(.int .i64 0), (.int .i64 0)]) 2), n2 7 15 (.store 2)]) (.seq (.seq (.reg [o1 16 1 .mv, o1 17 16 (.len false), c1 18 (.int .i64 0) .mv]) (.block 2 (.loop (.seq (.reg [o2 19 18 17 (.bin .lss)]) (.seq (.cond (.slot 19) .skip (.exit 2)) (.seq (.block 3 (.seq (.reg [o2 20 16 18 (.iaddr 2), o1 21 20 (.load true 2), o0 9 (.alloc (.agg [(.int .i64 0), (.int .i64 0)]) 2), n2 9 21 (.store 2)]) (.reg [o1 22 5 .mv, o1 23 7 (.faddr false 0 1), o1 24 23 (.load false 1), o1 25 9 (.faddr false 0 1), o1 26 25 (.load false 1), o2 27 24 26 (.bin .add), o1 28 7 (.faddr false 1 1), o1 29 28 (.load false 1), o1 30 9 (.faddr false 1 1), o1 31 30 (.load false 1), o2 32 29 31 (.bin .add), o2 33 27 32 (.build [(.int .i64 0), (.int .i64 0)] [(0, 1), (1, 1)] [0, 1]), o1 34 33 (.bslice 2 1 (.agg [(.int .i64 0), (.int .i64 0)]) [0]), o2 35 22 34 (.app 2 16 (.agg [(.int .i64 0), (.int .i64 0)])), o1 5 35 .mv]))) (.reg [c2 36 18 (.int .i64 1) (.bin .add), o1 18 36 .mv]))))))) (.seq (.reg [o1 37 5 .mv, o1 38 37 (.len false), c2 39 38 (.int .i64 65536) (.bin .gtr)]) (.cond (.slot 39) (.reg [o1 40 5 .mv, k1 41 75 40, o1 5 41 .mv]) .skip))))) (.reg [c2 42 12 (.int .i64 1) (.bin .add), o1 12 42 .mv]))))))) (.seq (.reg [o1 43 5 .mv, k1 44 75 43, o1 4 44 .mv]) .ret))))
theorem c_term_plus : compFn Try.prog 109 2 = some ⟨45, 2, [(.slot 4)], B_term_plus⟩ := by kernel_rfl
def B_term_together : AC := (.seq (.reg [o1 2 0 .box, c1 4 .nilS .mv]) (.seq (.seq (.reg [o1 13 2 (.load false 1), o1 14 13 (.len false), c2 15 14 (.int .i64 1) (.bin .eql)]) (.cond (.slot 15) (.seq (.reg [o1 16 2 (.load false 1), c2 17 16 (.int .i64 0) (.iaddr 4), o1 18 17 (.load true 4), o1 19 1 .mv, k2 20 82 18 19, o1 4 20 .mv]) .ret) .skip)) (.seq (.reg [o0 5 (.alloc .nilS 1)]) (.seq (.seq (.reg [o1 21 1 .mv, k1 22 102 21]) (.block 0 (.rng (.slot 22) [23] (.reg [o1 6 23 .mv]) (.block 1 (.seq (.reg [c1 7 (.int .i64 0) .mv]) (.seq (.seq (.reg [o1 24 2 (.load false 1), o1 25 24 (.len false), c1 26 (.int .i64 0) .mv]) (.block 2 (.loop (.seq (.reg [o2 27 26 25 (.bin .lss)]) (.seq (.cond (.slot 27) .skip (.exit 2)) (.seq (.block 3 (.seq (.reg [o2 28 24 26 (.iaddr 4), o1 29 28 (.load true 4), o0 9 (.alloc (.agg [(.int .i64 0), (.int .i64 0), (.int .i64 0), (.int .i64 0)]) 4), n2 9 29 (.store 4)]) (.seq (.reg [o1 31 9 (.load true 4), o1 32 6 .mv, k2 33 124 31 32, o1 30 33 .mv, o1 34 30 (.extract 0), o1 35 30 (.extract 1), o1 10 34 .mv, o1 11 35 .mv]) (.reg [o1 36 7 .mv, o1 37 10 .mv, o2 38 36 37 (.bin .add), o1 7 38 .mv])))) (.reg [c2 39 26 (.int .i64 1) (.bin .add), o1 26 39 .mv]))))))) (.seq (.reg [o1 40 5 (.load false 1), o1 41 40 (.len false), o1 12 41 .mv]) (.seq (.reg [o1 42 12 .mv, c2 43 42 (.int .i64 0) (.bin .gtr), o1 44 43 .mv, g1 45 44 5 (.load false 1), g1 46 44 12 .mv, ⟨(some 47), [(.slot 46), (.const (.int .i64 1))], (some (44, true)), (.bin .sub)⟩, g2 48 44 45 47 (.iaddr 2), g1 49 44 48 (.faddr false 1 1), g1 50 44 49 (.load false 1), g1 51 44 7 .mv, ⟨(some 52), [(.slot 51), (.const (.int .i64 1))], (some (44, true)), (.bin .sub)⟩, g2 53 44 50 52 (.bin .eql), ⟨(some 54), [(.slot 44), (.slot 53), (.const (.bool false))], none, .pick⟩]) (.cond (.slot 54) (.reg [o1 55 5 (.load false 1), o1 56 12 .mv, c2 57 56 (.int .i64 1) (.bin .sub), o1 58 7 .mv, o2 59 55 57 (.iaddr 2), o1 60 59 (.faddr false 1 1), n2 60 58 (.store 1)]) (.reg [o1 61 5 (.load false 1), o1 62 7 .mv, o1 63 7 .mv, o2 64 62 63 (.build [(.int .i64 0), (.int .i64 0)] [(0, 1), (1, 1)] [0, 1]), o1 65 64 (.bslice 2 1 (.agg [(.int .i64 0), (.int .i64 0)]) [0]), o2 66 61 65 (.app 2 16 (.agg [(.int .i64 0), (.int .i64 0)])), n2 5 66 (.store 1)])))))))))) (.seq (.reg [o1 67 5 (.load false 1), k1 68 75 67, o1 4 68 .mv]) .ret)))))
theorem c_term_together : compFn Try.prog 110 2 = some ⟨69, 2, [(.slot 4)], B_term_together⟩ := by kernel_rfl
def B_span_First : AC := (.seq (.reg [c1 2 (.int .i64 0) .mv, c1 3 (.bool false) .mv]) (.seq (.reg [o1 5 0 .mv, k1 6 75 5, o1 4 6 .mv]) (.seq (.seq (.reg [o1 7 4 .mv, o1 8 7 (.len false), c2 9 8 (.int .i64 0) (.bin .eql)]) (.cond (.slot 9) (.seq (.reg [c1 2 (.int .i64 0) .mv, c1 3 (.bool false) .mv]) .ret) .skip)) (.seq (.reg [o1 10 4 .mv, c2 11 10 (.int .i64 0) (.iaddr 2), o1 12 11 (.faddr false 0 1), o1 13 12 (.load false 1), o1 2 13 .mv, c1 3 (.bool true) .mv]) .ret))))
theorem c_span_First : compFn Try.prog 111 1 = some ⟨14, 1, [(.slot 2), (.slot 3)], B_span_First⟩ := by kernel_rfl
def B_span_Last : AC := (.seq (.reg [c1 2 (.int .i64 0) .mv, c1 3 (.bool false) .mv]) (.seq (.reg [o1 5 0 .mv, k1 6 75 5, o1 4 6 .mv]) (.seq (.seq (.reg [o1 7 4 .mv, o1 8 7 (.len false), c2 9 8 (.int .i64 0) (.bin .eql)]) (.cond (.slot 9) (.seq (.reg [c1 2 (.int .i64 0) .mv, c1 3 (.bool false) .mv]) .ret) .skip)) (.seq (.reg [o1 10 4 .mv, o1 11 4 .mv, o1 12 11 (.len false), c2 13 12 (.int .i64 1) (.bin .sub), o2 14 10 13 (.iaddr 2), o1 15 14 (.faddr false 1 1), o1 16 15 (.load false 1), o1 2 16 .mv, c1 3 (.bool true) .mv]) .ret))))
theorem c_span_Last : compFn Try.prog 112 1 = some ⟨17, 1, [(.slot 2), (.slot 3)], B_span_Last⟩ := by kernel_rfl
def B_span_Each_1 : AC := (.seq (.reg [o1 6 1 (.load false 1), o1 7 6 (.len false), c1 8 (.int .i64 0) .mv]) (.block 0 (.loop (.seq (.reg [o2 9 8 7 (.bin .lss)]) (.seq (.cond (.slot 9) .skip (.exit 0)) (.seq (.block 1 (.seq (.reg [o2 10 6 8 (.iaddr 2), o1 11 10 (.load true 2), o0 4 (.alloc (.agg [(.int .i64 0), (.int .i64 0)]) 2), n2 4 11 (.store 2)]) (.seq (.reg [o1 12 4 (.faddr false 0 1), o1 13 12 (.load false 1), o1 5 13 .mv]) (.block 2 (.loop (.seq (.seq (.reg [o1 14 5 .mv, o1 15 4 (.faddr false 1 1), o1 16 15 (.load false 1), o2 17 14 16 (.bin .leq)]) (.cond (.slot 17) .skip (.exit 2))) (.seq (.block 3 (.seq (.reg [o1 20 0 .mv, o1 21 5 .mv, o2 22 20 21 .call, o1 23 22 (.un .not)]) (.cond (.slot 23) .ret .skip))) (.reg [o1 18 5 .mv, c2 19 18 (.int .i64 1) (.bin .add), o1 5 19 .mv])))))))) (.reg [c2 24 8 (.int .i64 1) (.bin .add), o1 8 24 .mv])))))))
theorem c_span_Each_1 : compFn Try.prog 113 2 = some ⟨25, 2, [], B_span_Each_1⟩ := by kernel_rfl
def B_slices_insertionSortCmpFunc_api_Span : AC := (.seq (.reg [o1 10 1 .mv, c2 11 10 (.int .i64 1) (.bin .add), o1 8 11 .mv]) (.block 0 (.loop (.seq (.seq (.reg [o1 12 8 .mv, o1 13 2 .mv, o2 14 12 13 (.bin .lss)]) (.cond (.slot 14) .skip (.exit 0))) (.seq (.block 1 (.seq (.reg [o1 17 8 .mv, o1 9 17 .mv]) (.block 2 (.loop (.seq (.seq (.dreg [o1 18 9 .mv, o1 19 1 .mv, o2 20 18 19 (.bin .gtr), o1 21 20 .mv, g1 22 21 3 .mv, g1 23 21 0 .mv, g1 24 21 9 .mv, g2 25 21 23 24 (.iaddr 2), g1 26 21 25 (.load true 2), g1 27 21 0 .mv, g1 28 21 9 .mv, ⟨(some 29), [(.slot 28), (.const (.int .i64 1))], (some (21, true)), (.bin .sub)⟩, g2 30 21 27 29 (.iaddr 2), g1 31 21 30 (.load true 2), ⟨(some 32), [(.slot 22), (.slot 26), (.slot 31)], (some (21, true)), .call⟩, ⟨(some 33), [(.slot 32), (.const (.int .i64 0))], (some (21, true)), (.bin .lss)⟩, ⟨(some 34), [(.slot 21), (.slot 33), (.const (.bool false))], none, .pick⟩]) (.cond (.slot 34) .skip (.exit 2))) (.seq (.block 3 (.greg [o1 37 0 .mv, o1 38 9 .mv, o1 39 0 .mv, o1 40 9 .mv, c2 41 40 (.int .i64 1) (.bin .sub), o1 42 0 .mv, o1 43 9 .mv, c2 44 43 (.int .i64 1) (.bin .sub), o2 45 42 44 (.iaddr 2), o1 46 45 (.load true 2), o1 47 0 .mv, o1 48 9 .mv, o2 49 47 48 (.iaddr 2), o1 50 49 (.load true 2), o2 51 37 38 (.iaddr 2), n2 51 46 (.store 2), o2 52 39 41 (.iaddr 2), n2 52 50 (.store 2)])) (.reg [o1 35 9 .mv, c2 36 35 (.int .i64 1) (.bin .sub), o1 9 36 .mv]))))))) (.reg [o1 15 8 .mv, c2 16 15 (.int .i64 1) (.bin .add), o1 8 16 .mv]))))))
theorem c_slices_insertionSortCmpFunc_api_Span : compFn Try.prog 114 4 = some ⟨53, 4, [], B_slices_insertionSortCmpFunc_api_Span⟩ := by kernel_rfl
def B_math_bits_Len64 : AC := (.seq (.reg [c1 2 (.int .i64 0) .mv]) (.seq (.seq (.reg [o1 3 0 .mv, c2 4 3 (.int .u64 4294967296) (.bin .geq)]) (.cond (.slot 4) (.seq (.reg [o1 5 0 .mv, c2 6 5 (.int .u64 32) (.bin .shr), o1 0 6 .mv]) (.reg [c1 2 (.int .i64 32) .mv])) .skip)) (.seq (.seq (.reg [o1 7 0 .mv, c2 8 7 (.int .u64 65536) (.bin .geq)]) (.cond (.slot 8) (.seq (.reg [o1 9 0 .mv, c2 10 9 (.int .u64 16) (.bin .shr), o1 0 10 .mv]) (.reg [o1 11 2 .mv, c2 12 11 (.int .i64 16) (.bin .add), o1 2 12 .mv])) .skip)) (.seq (.seq (.reg [o1 13 0 .mv, c2 14 13 (.int .u64 256) (.bin .geq)]) (.cond (.slot 14) (.seq (.reg [o1 15 0 .mv, c2 16 15 (.int .u64 8) (.bin .shr), o1 0 16 .mv]) (.reg [o1 17 2 .mv, c2 18 17 (.int .i64 8) (.bin .add), o1 2 18 .mv])) .skip)) (.seq (.reg [o1 19 2 .mv, o1 20 0 .mv, o1 21 20 (.conv .u8), ⟨(some 22), [(.const (.str [0, 1, 2, 2, 3, 3, 3, 3, 4, 4, 4, 4, 4, 4, 4, 4, 5, 5, 5, 5, 5, 5, 5, 5, 5, 5, 5, 5, 5, 5, 5, 5, 6, 6, 6, 6, 6, 6, 6, 6, 6, 6, 6, 6, 6, 6, 6, 6, 6, 6, 6, 6, 6, 6, 6, 6, 6, 6, 6, 6, 6, 6, 6, 6, 7, 7, 7, 7, 7, 7, 7, 7, 7, 7, 7, 7, 7, 7, 7, 7, 7, 7, 7, 7, 7, 7, 7, 7, 7, 7, 7, 7, 7, 7, 7, 7, 7, 7, 7, 7, 7, 7, 7, 7, 7, 7, 7, 7, 7, 7, 7, 7, 7, 7, 7, 7, 7, 7, 7, 7, 7, 7, 7, 7, 7, 7, 7, 7, 8, 8, 8, 8, 8, 8, 8, 8, 8, 8, 8, 8, 8, 8, 8, 8, 8, 8, 8, 8, 8, 8, 8, 8, 8, 8, 8, 8, 8, 8, 8, 8, 8, 8, 8, 8, 8, 8, 8, 8, 8, 8, 8, 8, 8, 8, 8, 8, 8, 8, 8, 8, 8, 8, 8, 8, 8, 8, 8, 8, 8, 8, 8, 8, 8, 8, 8, 8, 8, 8, 8, 8, 8, 8, 8, 8, 8, 8, 8, 8, 8, 8, 8, 8, 8, 8, 8, 8, 8, 8, 8, 8, 8, 8, 8, 8, 8, 8, 8, 8, 8, 8, 8, 8, 8, 8, 8, 8, 8, 8, 8, 8, 8, 8, 8, 8, 8, 8, 8, 8, 8, 8, 8, 8, 8, 8, 8, 8])), (.slot 21)], none, .indexStr⟩, o1 23 22 (.conv .i64), o2 24 19 23 (.bin .add), o1 2 24 .mv]) .ret)))))
theorem c_math_bits_Len64 : compFn Try.prog 123 1 = some ⟨25, 1, [(.slot 2)], B_math_bits_Len64⟩ := by kernel_rfl
def B_part_Value : AC := (.seq (.reg [o1 2 0 .box, c1 4 (.int .i64 0) .mv, c1 5 (.bool false) .mv]) (.seq (.seq (.reg [o1 6 2 (.load true 4), k1 7 99 6, o1 8 7 (.un .not), o1 9 8 .mv, ⟨(some 10), [(.slot 1)], (some (9, false)), .mv⟩, ⟨(some 11), [(.slot 10), (.const (.int .i64 0))], (some (9, false)), (.bin .lss)⟩, ⟨(some 12), [(.slot 9), (.const (.bool true)), (.slot 11)], none, .pick⟩, o1 13 12 .mv, ⟨(some 14), [(.slot 1)], (some (13, false)), .mv⟩, ⟨(some 15), [(.slot 14), (.const (.int .i64 2097151))], (some (13, false)), (.bin .gtr)⟩, ⟨(some 16), [(.slot 13), (.const (.bool true)), (.slot 15)], none, .pick⟩]) (.cond (.slot 16) (.seq (.reg [c1 4 (.int .i64 0) .mv, c1 5 (.bool false) .mv]) .ret) .skip)) (.seq (.dreg [o1 17 1 .mv, o1 18 2 (.faddr false 1 1), o1 19 18 (.load false 1), o2 20 17 19 (.bin .shr), o1 21 2 (.faddr false 2 1), o1 22 21 (.load false 1), ⟨(some 23), [(.const (.int .i64 1)), (.slot 22)], none, (.bin .shl)⟩, c2 24 23 (.int .i64 1) (.bin .sub), o2 25 20 24 (.bin .and), o1 26 2 (.faddr false 3 1), o1 27 26 (.load false 1), o2 28 25 27 (.bin .shl), o1 4 28 .mv, c1 5 (.bool true) .mv]) .ret)))
theorem c_part_Value : compFn Try.prog 124 2 = some ⟨29, 2, [(.slot 4), (.slot 5)], B_part_Value⟩ := by kernel_rfl
end Go.Proofs.Yticodgjinajkpaa
set_option linter.unusedSimpArgs false
set_option linter.unusedVariables false
namespace Go.Proofs.Yticodgjinajkpaa
open Abs
theorem acalls_w {P : Program} {f m np b : Nat} {xs : List AV} {l : List Grp} {K : AV → AHeap → Prop} {res : List ARes} {B : AC} (hf : compFn P f xs.length = some ⟨m, np, res, B⟩) (hb : b = l.length) (h : W P m b B (entry xs) (Abs.hl l) (Ret P res K)) : ACalls P f xs (Abs.hl l) K := by
  subst hb
  exact acalls hf (W_T h)
theorem insert0 (l : List Span) : ACalls Try.prog 114 [.ref 0 1 0 0, .int .i64 0, .int .i64 0, .fn 95 []] (Abs.hl [⟨2, 1, true, l.map spanV⟩]) fun y H' => y = .tup [] ∧ H' = Abs.hl [⟨2, 1, true, l.map spanV⟩] := by
  refine acalls_w (b := 1) c_slices_insertionSortCmpFunc_api_Span rfl ?_
  unfold B_slices_insertionSortCmpFunc_api_Span
  (repeat' (first | (simp (disch := omega) only [push_cast, ↓zz, seval]) | (with_reducible refine And.intro ?_ ?_) | (with_reducible refine condW_split ?_ ?_ <;> intro hc <;> (try simp only [push_cast] at hc)) | (with_reducible refine guardW_split ?_ ?_ <;> intro hc <;> (try simp only [push_cast] at hc)) | omega | (with_reducible intro _)))
  refine LoopK_T (T_loopR (fun (_ : Unit) => True) (fun _ => 0) (fun _ => [(0, .ref 0 1 0 0), (1, .int .i64 0), (2, .int .i64 0), (3, .fn 95 []), (8, .int .i64 1)])
    (fun _ => [⟨2, 1, true, l.map spanV⟩]) (fun _ _ => []) () trivial ?_ ?_)
  · (repeat' (first | (simp (disch := omega) only [push_cast, ↓zz, seval]) | (with_reducible refine And.intro ?_ ?_) | (with_reducible refine condW_split ?_ ?_ <;> intro hc <;> (try simp only [push_cast] at hc)) | (with_reducible refine guardW_split ?_ ?_ <;> intro hc <;> (try simp only [push_cast] at hc)) | omega | (with_reducible intro _)))
  rintro _ _
  refine W_T ?_
  (repeat' (first | (simp (disch := omega) only [push_cast, ↓zz, seval]) | (with_reducible refine And.intro ?_ ?_) | (with_reducible refine condW_split ?_ ?_ <;> intro hc <;> (try simp only [push_cast] at hc)) | (with_reducible refine guardW_split ?_ ?_ <;> intro hc <;> (try simp only [push_cast] at hc)) | omega | (with_reducible intro _)))
  all_goals trace_state
set_option maxRecDepth 100000 in
theorem len0 : PC Try.prog 123 [.int .u64 0] (.int .i64 0) := by
  refine pc_w' c_math_bits_Len64 ?_
  unfold B_math_bits_Len64
  (repeat' (first | (simp (disch := omega) only [push_cast, ↓zz, seval]) | (with_reducible refine And.intro ?_ ?_) | (with_reducible refine condW_split ?_ ?_ <;> intro hc <;> (try simp only [push_cast] at hc)) | (with_reducible refine guardW_split ?_ ?_ <;> intro hc <;> (try simp only [push_cast] at hc)) | omega | (with_reducible intro _)))
  all_goals decide
theorem len0' : PC Try.prog 107 [.int .u64 0] (.int .i64 0) := by
  refine pc_w' c_math_bits_Len ?_
  unfold B_math_bits_Len
  (repeat' (first | (simp (disch := omega) only [push_cast, ↓zz, seval]) | (with_reducible refine And.intro ?_ ?_) | (with_reducible refine condW_split ?_ ?_ <;> intro hc <;> (try simp only [push_cast] at hc)) | (with_reducible refine guardW_split ?_ ?_ <;> intro hc <;> (try simp only [push_cast] at hc)) | ((with_reducible first | refine eK len0 ?_ | refine eQ len0 ?_ | refine eG len0 ?_)) | ((with_reducible first | refine cK len0 ?_ | refine cQ len0 ?_ | refine cG len0 ?_); (simp (disch := omega) only [push_cast, ↓zz, seval]); (fail_if_success (with_reducible change False))) | omega | (with_reducible intro _)))
theorem pdq0 (l : List Span) : ACalls Try.prog 106 [.ref 0 1 0 0, .int .i64 0, .int .i64 0, .int .i64 0, .fn 95 []] (Abs.hl [⟨2, 1, true, l.map spanV⟩]) fun y H' => y = .tup [] ∧ H' = Abs.hl [⟨2, 1, true, l.map spanV⟩] := by
  refine acalls_w (b := 1) c_slices_pdqsortCmpFunc_api_Span rfl ?_
  unfold B_slices_pdqsortCmpFunc_api_Span
  (repeat' (first | (simp (disch := omega) only [push_cast, ↓zz, seval]) | (with_reducible refine And.intro ?_ ?_) | (with_reducible refine condW_split ?_ ?_ <;> intro hc <;> (try simp only [push_cast] at hc)) | (with_reducible refine guardW_split ?_ ?_ <;> intro hc <;> (try simp only [push_cast] at hc)) | omega | (with_reducible intro _)))
  refine LoopK_T (T_loopR (fun (_ : Unit) => True) (fun _ => 0) (fun _ => [(0, .ref 0 1 0 0), (1, .int .i64 0), (2, .int .i64 0), (3, .int .i64 0), (4, .fn 95 []), (10, .bool true), (11, .bool true)])
    (fun _ => [⟨2, 1, true, l.map spanV⟩]) (fun _ _ => []) () trivial ?_ ?_)
  · (repeat' (first | (simp (disch := omega) only [push_cast, ↓zz, seval]) | (with_reducible refine And.intro ?_ ?_) | (with_reducible refine condW_split ?_ ?_ <;> intro hc <;> (try simp only [push_cast] at hc)) | (with_reducible refine guardW_split ?_ ?_ <;> intro hc <;> (try simp only [push_cast] at hc)) | omega | (with_reducible intro _)))
  rintro _ _
  refine W_T ?_
  (repeat' (first | (simp (disch := omega) only [push_cast, ↓zz, seval]) | (with_reducible refine And.intro ?_ ?_) | (with_reducible refine condW_split ?_ ?_ <;> intro hc <;> (try simp only [push_cast] at hc)) | (with_reducible refine guardW_split ?_ ?_ <;> intro hc <;> (try simp only [push_cast] at hc)) | omega | (with_reducible intro _)))
  refine ACalls.mono (insert0 l) ?_
  rintro y H' ⟨rfl, rfl⟩
  (repeat' (first | (simp (disch := omega) only [push_cast, ↓zz, seval]) | (with_reducible refine And.intro ?_ ?_) | (with_reducible refine condW_split ?_ ?_ <;> intro hc <;> (try simp only [push_cast] at hc)) | (with_reducible refine guardW_split ?_ ?_ <;> intro hc <;> (try simp only [push_cast] at hc)) | omega | (with_reducible intro _)))
  all_goals trace_state
theorem sort0 (l : List Span) : ACalls Try.prog 94 [.ref 0 1 0 0, .fn 95 []] (Abs.hl [⟨2, 1, true, l.map spanV⟩]) fun y H' => y = .tup [] ∧ H' = Abs.hl [⟨2, 1, true, l.map spanV⟩] := by
  refine acalls_w (b := 1) c_slices_SortFunc_api_Span_api_Span rfl ?_
  unfold B_slices_SortFunc_api_Span_api_Span
  (repeat' (first | (simp (disch := omega) only [push_cast, ↓zz, seval]) | (with_reducible refine And.intro ?_ ?_) | (with_reducible refine condW_split ?_ ?_ <;> intro hc <;> (try simp only [push_cast] at hc)) | (with_reducible refine guardW_split ?_ ?_ <;> intro hc <;> (try simp only [push_cast] at hc)) | ((with_reducible first | refine eK len0' ?_ | refine eQ len0' ?_ | refine eG len0' ?_)) | ((with_reducible first | refine cK len0' ?_ | refine cQ len0' ?_ | refine cG len0' ?_); (simp (disch := omega) only [push_cast, ↓zz, seval]); (fail_if_success (with_reducible change False))) | omega | (with_reducible intro _)))
  refine ACalls.mono (pdq0 l) ?_
  rintro y H' ⟨rfl, rfl⟩
  (repeat' (first | (simp (disch := omega) only [push_cast, ↓zz, seval]) | (with_reducible refine And.intro ?_ ?_) | (with_reducible refine condW_split ?_ ?_ <;> intro hc <;> (try simp only [push_cast] at hc)) | (with_reducible refine guardW_split ?_ ?_ <;> intro hc <;> (try simp only [push_cast] at hc)) | omega | (with_reducible intro _)))
  all_goals trace_state
end Go.Proofs.Yticodgjinajkpaa
set_option linter.unusedSimpArgs false
set_option linter.unusedVariables false
namespace Go.Proofs.Yticodgjinajkpaa
open Abs
def memL (l : List Span) (x : Int) : Prop := ∃ s ∈ l, s.lo ≤ x ∧ x ≤ s.hi
theorem memL_nil (x : Int) : ¬ memL [] x := fun ⟨s, hs, _⟩ => by cases hs
theorem memL_cons {s : Span} {l : List Span} {x : Int} : memL (s :: l) x ↔ (s.lo ≤ x ∧ x ≤ s.hi) ∨ memL l x := by
  constructor
  · rintro ⟨t, ht, hx⟩
    rcases List.mem_cons.1 ht with rfl | ht
    · exact .inl hx
    · exact .inr ⟨t, ht, hx⟩
  · rintro (hx | ⟨t, ht, hx⟩)
    · exact ⟨s, by simp, hx⟩
    · exact ⟨t, by simp [ht], hx⟩
theorem memL_app {l m : List Span} {x : Int} : memL (l ++ m) x ↔ memL l x ∨ memL m x := by
  constructor
  · rintro ⟨t, ht, hx⟩
    rcases List.mem_append.1 ht with ht | ht
    · exact .inl ⟨t, ht, hx⟩
    · exact .inr ⟨t, ht, hx⟩
  · rintro (⟨t, ht, hx⟩ | ⟨t, ht, hx⟩)
    · exact ⟨t, by simp [ht], hx⟩
    · exact ⟨t, by simp [ht], hx⟩
def Plain (l : List Span) : Prop := (∀ s ∈ l, s.lo ≤ s.hi) ∧ l.Pairwise fun s t => s.hi + 1 < t.lo
theorem Plain.tail {s : Span} {l : List Span} (h : Plain (s :: l)) : Plain l := ⟨fun t ht => h.1 t (by simp [ht]), (List.pairwise_cons.1 h.2).2⟩
theorem Plain.head {s : Span} {l : List Span} (h : Plain (s :: l)) : s.lo ≤ s.hi := h.1 s (by simp)
theorem Plain.after {s : Span} {l : List Span} (h : Plain (s :: l)) {x : Int} (hx : memL l x) : s.hi + 1 < x := by
  obtain ⟨t, ht, h1, h2⟩ := hx
  have := (List.pairwise_cons.1 h.2).1 t ht
  omega
theorem plain_ext : ∀ {a b : List Span}, Plain a → Plain b → (∀ x, memL a x ↔ memL b x) → a = b
  | [], [], _, _, _ => rfl
  | [], t :: b, _, hb, h => absurd ((h t.lo).2 (memL_cons.2 (.inl ⟨Int.le_refl _, hb.head⟩))) (memL_nil _)
  | s :: a, [], ha, _, h => absurd ((h s.lo).1 (memL_cons.2 (.inl ⟨Int.le_refl _, ha.head⟩))) (memL_nil _)
  | s :: a, t :: b, ha, hb, h => by
    have hs := ha.head
    have ht := hb.head
    have key : ∀ {s t : Span} {a b : List Span}, Plain (s :: a) → Plain (t :: b) → (∀ x, memL (s :: a) x ↔ memL (t :: b) x) → t.lo ≤ s.lo := fun {s t a b} ha hb h => by
      rcases memL_cons.1 ((h s.lo).1 (memL_cons.2 (.inl ⟨Int.le_refl _, ha.head⟩))) with hh | hh
      · exact hh.1
      · have := hb.after hh; have := hb.head; omega
    have hlo : s.lo = t.lo := Int.le_antisymm (key hb ha fun x => (h x).symm) (key ha hb h)
    have key2 : ∀ {s t : Span} {a b : List Span}, Plain (s :: a) → Plain (t :: b) → (∀ x, memL (s :: a) x ↔ memL (t :: b) x) → s.lo = t.lo → t.hi ≤ s.hi := fun {s t a b} ha hb h e => by
      have := ha.head
      rcases Int.lt_or_le s.hi t.hi with hlt | hle
      · rcases memL_cons.1 ((h (s.hi + 1)).2 (memL_cons.2 (.inl ⟨by omega, by omega⟩))) with hh | hh
        · omega
        · have := ha.after hh; omega
      · exact hle
    have hhi : s.hi = t.hi := Int.le_antisymm (key2 hb ha (fun x => (h x).symm) hlo.symm) (key2 ha hb h hlo)
    have hst : s = t := by cases s; cases t; simp_all
    subst hst
    refine congrArg _ (plain_ext ha.tail hb.tail fun x => ⟨fun hx => ?_, fun hx => ?_⟩)
    · rcases memL_cons.1 ((h x).1 (memL_cons.2 (.inr hx))) with hh | hh
      · have := ha.after hx; omega
      · exact hh
    · rcases memL_cons.1 ((h x).2 (memL_cons.2 (.inr hx))) with hh | hh
      · have := hb.after hx; omega
      · exact hh
def mergeF (out : List Span) (x : Span) : List Span :=
  match out.getLast? with
  | some y => if x.lo ≤ y.hi + 1 then out.dropLast ++ [⟨y.lo, max y.hi x.hi⟩] else out ++ [x]
  | none => [x]
theorem mergeF_nil (x : Span) : mergeF [] x = [x] := rfl
theorem mergeF_snoc (out : List Span) (y x : Span) : mergeF (out ++ [y]) x = if x.lo ≤ y.hi + 1 then out ++ [⟨y.lo, max y.hi x.hi⟩] else out ++ [y] ++ [x] := by
  simp [mergeF]
theorem snoc_cases (l : List Span) : l = [] ∨ ∃ m y, l = m ++ [y] := by
  rcases List.eq_nil_or_concat l with h | ⟨m, y, h⟩
  · exact .inl h
  · exact .inr ⟨m, y, by simpa using h⟩
theorem plain_snoc {m : List Span} {y : Span} : Plain (m ++ [y]) ↔ Plain m ∧ y.lo ≤ y.hi ∧ ∀ s ∈ m, s.hi + 1 < y.lo := by
  simp only [Plain, List.pairwise_append, List.mem_append, List.mem_singleton, List.pairwise_singleton, true_and, or_imp, forall_and, forall_eq]
  constructor
  · rintro ⟨⟨h1, h2⟩, h3, h4⟩; exact ⟨⟨h1, h3⟩, h2, h4⟩
  · rintro ⟨⟨h1, h3⟩, h2, h4⟩; exact ⟨⟨h1, h2⟩, h3, h4⟩
def Before (l : List Span) (x : Int) : Prop := ∀ s ∈ l, s.lo ≤ x
theorem merge_plain {out : List Span} {x : Span} (h : Plain out) (hx : x.lo ≤ x.hi) (hb : Before out x.lo) : Plain (mergeF out x) ∧ Before (mergeF out x) x.lo ∧ ∀ v, memL (mergeF out x) v ↔ memL out v ∨ (x.lo ≤ v ∧ v ≤ x.hi) := by
  rcases snoc_cases out with rfl | ⟨m, y, rfl⟩
  · refine ⟨⟨by simp [mergeF_nil, hx], by simp [mergeF_nil]⟩, by simp [mergeF_nil, Before], fun v => ?_⟩
    rw [mergeF_nil, memL_cons]
    constructor
    · rintro (h | h)
      · exact .inr h
      · exact absurd h (memL_nil _)
    · rintro (h | h)
      · exact absurd h (memL_nil _)
      · exact .inl h
  · rw [mergeF_snoc]
    obtain ⟨h1, h2, h3⟩ := plain_snoc.1 h
    have hy : y.lo ≤ x.lo := hb y (by simp)
    split
    · rename_i hle
      refine ⟨plain_snoc.2 ⟨h1, by simp only; omega, fun s hs => h3 s hs⟩, ?_, fun v => ?_⟩
      · intro s hs
        rcases List.mem_append.1 hs with hs | hs
        · exact hb s (by simp [hs])
        · simp only [List.mem_singleton] at hs; subst hs; exact hy
      · rw [memL_app, memL_app, memL_cons, memL_cons]
        simp only [memL_nil, or_false]
        constructor
        · rintro (h | h)
          · exact .inl (.inl h)
          · by_cases hv : v ≤ y.hi
            · exact .inl (.inr ⟨h.1, hv⟩)
            · exact .inr ⟨by omega, by omega⟩
        · rintro ((h | h) | h)
          · exact .inl h
          · exact .inr ⟨h.1, by omega⟩
          · exact .inr ⟨by omega, by omega⟩
    · rename_i hle
      refine ⟨plain_snoc.2 ⟨h, hx, fun s hs => ?_⟩, ?_, fun v => ?_⟩
      · rcases List.mem_append.1 hs with hs | hs
        · have := h3 s hs; omega
        · simp only [List.mem_singleton] at hs; subst hs; omega
      · intro s hs
        rcases List.mem_append.1 hs with hs | hs
        · exact hb s hs
        · simp only [List.mem_singleton] at hs; subst hs; exact Int.le_refl _
      · rw [memL_app, memL_cons]
        simp only [memL_nil, or_false]
theorem fold_plain : ∀ (l out : List Span), Plain out → (∀ s ∈ l, s.lo ≤ s.hi) → l.Pairwise (fun a b => a.lo ≤ b.lo) → (∀ s ∈ l, Before out s.lo) → Plain (l.foldl mergeF out) ∧ ∀ v, memL (l.foldl mergeF out) v ↔ memL out v ∨ memL l v
  | [], out, h, _, _, _ => ⟨h, fun v => by simp only [List.foldl_nil, memL_nil, or_false]⟩
  | x :: l, out, h, h1, h2, h3 => by
    obtain ⟨p1, p2, p3⟩ := merge_plain h (h1 x (by simp)) (h3 x (by simp))
    rw [List.pairwise_cons] at h2
    obtain ⟨q1, q2⟩ := fold_plain l (mergeF out x) p1 (fun s hs => h1 s (by simp [hs])) h2.2 (fun s hs t ht => Int.le_trans (p2 t ht) (h2.1 s hs))
    refine ⟨q1, fun v => ?_⟩
    rw [List.foldl_cons, q2 v, p3 v, memL_cons, or_assoc]
theorem mergeF_len (out : List Span) (x : Span) : (mergeF out x).length ≤ out.length + 1 := by
  rcases snoc_cases out with rfl | ⟨m, y, rfl⟩
  · simp [mergeF_nil]
  · rw [mergeF_snoc]; split <;> simp
theorem fold_len : ∀ (l out : List Span), (l.foldl mergeF out).length ≤ out.length + l.length
  | [], out => by simp
  | x :: l, out => by
    have h1 := fold_len l (mergeF out x)
    have h2 := mergeF_len out x
    simp only [List.foldl_cons, List.length_cons]
    omega
def clipS (s : Span) : Span := ⟨max s.lo (-1073741824), min s.hi 1073741824⟩
def inN (l : List Span) : List Span := (l.map clipS).filter fun s => decide (s.lo ≤ s.hi)
theorem inN_mem {l : List Span} {x : Int} : memL (inN l) x ↔ memL l x ∧ -1073741824 ≤ x ∧ x ≤ 1073741824 := by
  constructor
  · rintro ⟨s, hs, h1, h2⟩
    simp only [inN, List.mem_filter, List.mem_map] at hs
    obtain ⟨⟨t, ht, rfl⟩, _⟩ := hs
    simp only [clipS] at h1 h2
    exact ⟨⟨t, ht, by omega, by omega⟩, by omega, by omega⟩
  · rintro ⟨⟨t, ht, h1, h2⟩, h3, h4⟩
    refine ⟨clipS t, ?_, by simp only [clipS]; omega, by simp only [clipS]; omega⟩
    simp only [inN, List.mem_filter, List.mem_map, decide_eq_true_eq]
    exact ⟨⟨t, ht, rfl⟩, by simp only [clipS]; omega⟩
theorem inN_ok {l : List Span} : ∀ s ∈ inN l, s.lo ≤ s.hi := fun s hs => by
  simp only [inN, List.mem_filter, decide_eq_true_eq] at hs
  exact hs.2
theorem memL_perm {l m : List Span} (h : l.Perm m) (x : Int) : memL l x ↔ memL m x :=
  ⟨fun ⟨s, hs, hx⟩ => ⟨s, h.mem_iff.1 hs, hx⟩, fun ⟨s, hs, hx⟩ => ⟨s, h.mem_iff.2 hs, hx⟩⟩
def normI (l : List Span) : List Span := ((inN l).mergeSort fun a b => decide (a.lo ≤ b.lo)).foldl mergeF []
theorem normI_of {l m : List Span} (hp : m.Perm (inN l)) (hs : m.Pairwise fun a b => a.lo ≤ b.lo) : m.foldl mergeF [] = normI l := by
  have hq : ((inN l).mergeSort fun a b => decide (a.lo ≤ b.lo)).Perm (inN l) := List.mergeSort_perm _ _
  have hs' : ((inN l).mergeSort fun a b => decide (a.lo ≤ b.lo)).Pairwise fun a b => a.lo ≤ b.lo := by
    have := List.pairwise_mergeSort (le := fun a b : Span => decide (a.lo ≤ b.lo)) (fun a b c h1 h2 => by simp at *; omega) (fun a b => by simp; omega) (inN l)
    simpa using this
  obtain ⟨a1, a2⟩ := fold_plain m [] ⟨by simp, by simp⟩ (fun s h => inN_ok s (hp.mem_iff.1 h)) hs (fun s _ t ht => by cases ht)
  obtain ⟨b1, b2⟩ := fold_plain _ [] ⟨by simp, by simp⟩ (fun s h => inN_ok s (hq.mem_iff.1 h)) hs' (fun s _ t ht => by cases ht)
  refine plain_ext a1 b1 fun x => ?_
  rw [normI, a2 x, b2 x, memL_perm hp x, memL_perm hq x]
theorem normI_plain (l : List Span) : Plain (normI l) ∧ ∀ x, memL (normI l) x ↔ memL l x ∧ -1073741824 ≤ x ∧ x ≤ 1073741824 := by
  have hq : ((inN l).mergeSort fun a b => decide (a.lo ≤ b.lo)).Perm (inN l) := List.mergeSort_perm _ _
  have hs' : ((inN l).mergeSort fun a b => decide (a.lo ≤ b.lo)).Pairwise fun a b => a.lo ≤ b.lo := by
    have := List.pairwise_mergeSort (le := fun a b : Span => decide (a.lo ≤ b.lo)) (fun a b c h1 h2 => by simp at *; omega) (fun a b => by simp; omega) (inN l)
    simpa using this
  obtain ⟨b1, b2⟩ := fold_plain _ [] ⟨by simp, by simp⟩ (fun s h => inN_ok s (hq.mem_iff.1 h)) hs' (fun s _ t ht => by cases ht)
  refine ⟨b1, fun x => ?_⟩
  rw [normI, b2 x, memL_perm hq x, inN_mem]
  simp only [memL_nil, false_or]
theorem inN_len (l : List Span) : (inN l).length ≤ l.length := by
  have := List.length_filter_le (fun s : Span => decide (s.lo ≤ s.hi)) (l.map clipS)
  simpa [inN] using this
theorem normI_len (l : List Span) : (normI l).length ≤ l.length := by
  have h1 := fold_len ((inN l).mergeSort fun a b => decide (a.lo ≤ b.lo)) []
  have h2 := inN_len l
  rw [List.length_mergeSort] at h1
  simp only [List.length_nil] at h1
  rw [normI]
  omega
end Go.Proofs.Yticodgjinajkpaa
set_option linter.unusedSimpArgs false
set_option linter.unusedVariables false
namespace Go.Proofs.Yticodgjinajkpaa.Abs
mutual
def valOf : AV → Value
  | .int k a => .int k a
  | .bool b => .bool b
  | .agg xs => .agg (valsOf xs).toArray
  | _ => undef
def valsOf : List AV → List Value
  | [] => []
  | x :: xs => valOf x :: valsOf xs
end
def Flat (x : AV) : Prop := ∀ S : MS, VRel S x (valOf x)
abbrev encI (r : List AV) : Array Value := (r.map valOf).toArray
def Clo (J : Nat → (Nat → Prop) → World → Prop) : Prop :=
  ∀ k O W W', J k O W → W'.os = W.os → W'.tape = W.tape → W'.output = W.output → W.heap.size ≤ W'.heap.size →
    (∀ b, b < W.heap.size → ¬ O b → W'.heap[b]? = W.heap[b]?) → J k (fun b => O b ∨ (W.heap.size ≤ b ∧ b < W'.heap.size)) W'
def IterOK (P : Program) (gf : Nat) (caps : List AV) (rows : List (List AV)) : Prop :=
  Enters P gf ∧ ∀ (m l : Nat) (S : MS) (lb : List Value) (J Jx : Nat → (Nat → Prop) → World → Prop),
    SRel S AHeap.nil → VsRel S caps lb → Clo J → Clo Jx → J 0 (fun _ => False) S.w →
    (∀ k O W, J k O W ∨ Jx k O W → (∀ b, S.im b → ¬ O b ∧ W.heap[b]? = S.w.heap[b]?) ∧ (W.os = S.w.os ∧ W.tape = S.w.tape ∧ W.output = S.w.output) ∧ S.w.heap.size ≤ W.heap.size ∧ ∀ b, O b → S.w.heap.size ≤ b ∧ b < W.heap.size) →
    (∀ k row O W, rows[k]? = some row → J k O W → YieldAt Fence.wide m P l (encI row) W fun e W' => W.heap.size ≤ W'.heap.size ∧ (∀ b, O b → W'.heap[b]? = W.heap[b]?) ∧ (e = .returned (.bool true) ∧ J (k + 1) O W' ∨ e = .returned (.bool false) ∧ Jx (k + 1) O W')) →
    CallsIn Fence.wide (m + 1) P gf (#[.func (.yield l) #[] #[]] ++ lb.toArray) S.w fun e W' => (∃ v, e = .returned v) ∧ ((∃ O, J rows.length O W') ∨ ∃ k O, Jx k O W')
def setL : Env → List Nat → List AV → Env
  | env, p :: ps, x :: r => setL (env.put (some p) x) ps r
  | env, _, _ => env
section
variable {P : Program} {n b : Nat} {env : Env} {H : AHeap} {Q : Ex → Env → AHeap → Prop}
theorem SRel.turn2 {S S' : MS} {H : AHeap} (h : SRel S H) (hw : ∀ b, S.im b → S'.w.heap[b]? = S.w.heap[b]?) (hi : S'.im = S.im) (hn : S'.n = S.n) (hc : S'.cur = S.cur) (hp : S'.place = S.place) (hcap : S'.cap = S.cap) (hwid : S'.wid = S.wid)
    (hk : ∀ b, S'.keep b → S.keep b ∨ S.w.heap.size ≤ b) (hkb : ∀ b, S'.keep b → b < S'.w.heap.size) (hg : ∀ b, ¬ (S.im b ∨ S.keep b) → b < S.w.heap.size → S'.w.heap[b]? = S.w.heap[b]?) (hsz : S.w.heap.size ≤ S'.w.heap.size) : SRel S' H := by
  have ev := Evi.of hw hi hn hc hp hcap hwid
  refine ⟨hn.trans h.n, fun g hgn => ?_, fun g g' h1 h2 h3 h4 h5 => ?_, fun b hb => ?_⟩
  · have hG := h.grp g hgn
    have hni : ¬ (S.im (S.place g) ∨ S.keep (S.place g)) → S.place g < S.w.heap.size → ¬ (S'.im (S'.place g) ∨ S'.keep (S'.place g)) := fun hn hlt hh => by
      rw [hi, hp] at hh
      rcases hh with hh | hh
      · exact hn (.inl hh)
      · rcases hk _ hh with hh | hh
        · exact hn (.inr hh)
        · omega
    refine ⟨by rw [hc]; exact hG.ver, by rw [hwid]; exact hG.wid, fun hw0 hc0 => ?_, fun hw0 => by rw [hcap]; exact hG.len hw0, fun hw0 he => by rw [hcap]; exact hG.full hw0 he, fun hw0 he => ?_⟩
    · rw [hcap] at hc0 ⊢
      obtain ⟨⟨cells, T, vs, a1, a2, a3, a4⟩, a5⟩ := hG.live hw0 hc0
      exact ⟨⟨cells, T, vs, by rw [hp, hg _ a5 (hG.lt hw0 hc0)]; exact a1, a2, VsRel.moni ev _ a3, a4⟩, hni a5 (hG.lt hw0 hc0)⟩
    · obtain ⟨⟨es, clock, a1, a2⟩, a5⟩ := hG.mlive hw0 he
      exact ⟨⟨es, clock, by rw [hp, hg _ a5 (hG.mlt hw0 he)]; exact a1, VsRel.moni ev _ a2⟩, hni a5 (hG.mlt hw0 he)⟩
  · rw [hp]
    rw [hcap] at h4 h5
    exact h.apart g g' h1 h2 h3 h4 h5
  · rcases hb with hb | hb
    · rw [hi] at hb; exact Nat.lt_of_lt_of_le (h.im b (.inl hb)) hsz
    · exact hkb b hb
theorem setL_rel {S : MS} {ds : List Deferred} (hd : Marks S ds) : ∀ {ps : List Nat} {row : List AV} {env : Env} {tmps : Array Value} {ds' : List Deferred}, FRel S n env { tmps := tmps, defers := ds' } → (∀ p ∈ ps, p < n) → (∀ x ∈ row, Flat x) →
    FRel S n (setL env ps row) { tmps := (ps.zip (row.map valOf)).foldl (fun t (p, v) => t.setIfInBounds p v) tmps, defers := ds }
  | [], row, env, tmps, _, hF, _, _ => by
    rw [show setL env [] row = env from by cases row <;> rfl]
    exact ⟨hF.size, hd, hF.val⟩
  | p :: ps, [], env, tmps, _, hF, _, _ => ⟨hF.size, hd, hF.val⟩
  | p :: ps, x :: row, env, tmps, ds', hF, hp, hx => by
    have := hF.put (dst := some p) (by simpa using hp p (by simp)) (x := x) (v := valOf x) (hx x (by simp) S)
    exact setL_rel hd (ps := ps) (row := row) this (fun q hq => hp q (by simp [hq])) (fun y hy => hx y (by simp [hy]))
def codeOf : Ex → Code
  | .normal => .skip
  | .exit id => .exit id
  | .ret => .ret
structure Lo (S : MS) (rec : LoopState → Option Code → Loop) (W1 : Nat) (st : LoopState) (pe : Option Code) (O : Nat → Prop) (S' : MS) (H' : AHeap) : Prop where
  evo : Evo S S'
  rel : SRel S' H'
  own : ∀ b, O b → S'.keep b ∧ ¬ S'.im b ∧ W1 ≤ b ∧ b < S'.w.heap.size
  size : W1 ≤ S'.w.heap.size
  loop : S'.w.heap[S.w.heap.size + 1]? = some (.loop (rec st pe))
  defd : S'.w.heap[S.w.heap.size]? = some (.deferred (some []))
  k1 : S'.keep S.w.heap.size ∧ ¬ S'.im S.w.heap.size
  k2 : S'.keep (S.w.heap.size + 1) ∧ ¬ S'.im (S.w.heap.size + 1)
theorem Lo.clo {S S' : MS} {rec : LoopState → Option Code → Loop} {st : LoopState} {pe : Option Code} {O : Nat → Prop} {H' : AHeap} (hS : ∀ b, S.im b ∨ S.keep b → b < S.w.heap.size) (h : Lo S rec (S.w.heap.size + 2) st pe O S' H') {W' : World}
    (h1 : W'.os = S'.w.os) (h2 : W'.tape = S'.w.tape) (h3 : W'.output = S'.w.output) (h4 : S'.w.heap.size ≤ W'.heap.size) (h5 : ∀ b, b < S'.w.heap.size → ¬ O b → W'.heap[b]? = S'.w.heap[b]?) :
    ∃ S'' : MS, S''.w = W' ∧ Lo S rec (S.w.heap.size + 2) st pe (fun b => O b ∨ (S'.w.heap.size ≤ b ∧ b < W'.heap.size)) S'' H' := by
  obtain ⟨S'', hd⟩ : ∃ S'' : MS, S'' = { S' with w := W', keep := fun b => S'.keep b ∨ (S'.w.heap.size ≤ b ∧ b < W'.heap.size) } := ⟨_, rfl⟩
  have him : ∀ b, S'.im b → b < S'.w.heap.size := fun b hb => h.rel.im b (.inl hb)
  have hio : ∀ b, S'.im b → ¬ O b := fun b hb ho => (h.own b ho).2.1 hb
  have hlt : ∀ b, S.im b ∨ S.keep b → ¬ O b := fun b hb ho => by have := (h.own b ho).2.2.1; have := hS b hb; omega
  have hsz := h.size
  refine ⟨S'', by rw [hd], ?_⟩
  have hrel : SRel S'' H' := by
    subst hd
    exact h.rel.turn2 (fun b hb => h5 b (him b hb) (hio b hb)) rfl rfl rfl rfl rfl rfl (fun b hb => hb.imp id And.left) (fun b hb => hb.elim (fun hh => Nat.lt_of_lt_of_le (h.rel.im b (.inr hh)) h4) And.right)
      (fun b hb hl => h5 b hl (fun ho => hb (.inr (h.own b ho).1))) h4
  have hevo : Evo S S'' := by
    have e := h.evo
    subst hd
    refine ⟨e.base, h1.trans e.os, h2.trans e.tape, h3.trans e.output, Nat.le_trans e.size h4, fun b hb => ?_, e.im, fun b hb => .inl (e.keep b hb), e.fresh, e.n, e.cur, e.same⟩
    exact (h5 b (Nat.lt_of_lt_of_le (hS b hb) e.size) (hlt b hb)).trans (e.kept b hb)
  have hw : S''.w = W' := by rw [hd]
  have hkeep : S''.keep = fun b => S'.keep b ∨ (S'.w.heap.size ≤ b ∧ b < W'.heap.size) := by rw [hd]
  have himm : S''.im = S'.im := by rw [hd]
  have hnO : ∀ b, b < S.w.heap.size + 2 → ¬ O b := fun b hb ho => by have := (h.own b ho).2.2.1; omega
  refine ⟨hevo, hrel, fun b hb => ?_, by rw [hw]; omega, ?_, ?_, ?_, ?_⟩
  · rw [hkeep, himm, hw]
    rcases hb with hb | ⟨hb1, hb2⟩
    · obtain ⟨q1, q2, q3, q4⟩ := h.own b hb
      exact ⟨.inl q1, q2, q3, by omega⟩
    · exact ⟨.inr ⟨hb1, hb2⟩, fun hi => by have := him b hi; omega, by omega, hb2⟩
  · rw [hw, h5 _ (by omega) (hnO _ (by omega))]; exact h.loop
  · rw [hw, h5 _ (by omega) (hnO _ (by omega))]; exact h.defd
  · rw [hkeep, himm]; exact ⟨.inl h.k1.1, h.k1.2⟩
  · rw [hkeep, himm]; exact ⟨.inl h.k2.1, h.k2.2⟩
theorem Lo.turn {S S' : MS} {rec : LoopState → Option Code → Loop} {st : LoopState} {pe : Option Code} {O : Nat → Prop} {H' : AHeap} (hS : ∀ b, S.im b ∨ S.keep b → b < S.w.heap.size) (h : Lo S rec (S.w.heap.size + 2) st pe O S' H') (st' : LoopState) (pe' : Option Code) :
    ∃ S'' : MS, S''.w = S'.w.putObj (S.w.heap.size + 1) (.loop (rec st' pe')) ∧ Lo S rec (S.w.heap.size + 2) st' pe' O S'' H' ∧ Evi S' S'' ∧ S''.n = S'.n ∧ S''.base = S'.base ∧ S''.keep = S'.keep ∧ S''.im = S'.im := by
  obtain ⟨S'', hd⟩ : ∃ S'' : MS, S'' = { S' with w := S'.w.putObj (S.w.heap.size + 1) (.loop (rec st' pe')) } := ⟨_, rfl⟩
  have hne : ∀ b, S'.im b → b ≠ S.w.heap.size + 1 := fun b hb hh => h.k2.2 (hh ▸ hb)
  have hsz := h.size
  have hw : S''.w = S'.w.putObj (S.w.heap.size + 1) (.loop (rec st' pe')) := by rw [hd]
  refine ⟨S'', hw, ⟨?_, ?_, fun b hb => ?_, by rw [hw, World.putObj_size]; exact hsz, ?_, ?_, ?_, ?_⟩, ?_, by rw [hd], by rw [hd], by rw [hd], by rw [hd]⟩
  · have e := h.evo
    subst hd
    refine ⟨e.base, e.os, e.tape, e.output, by show _ ≤ (World.putObj _ _ _).heap.size; rw [World.putObj_size]; exact e.size, fun b hb => ?_, e.im, e.keep, e.fresh, e.n, e.cur, e.same⟩
    show (World.putObj _ _ _).heap[b]? = _
    rw [World.putObj_heap_other (by have := hS b hb; omega)]
    exact e.kept b hb
  · subst hd
    refine h.rel.turn (fun b hb => World.putObj_heap_other (hne b hb)) rfl rfl rfl rfl rfl rfl (fun _ h => h) (fun b hb _ => World.putObj_heap_other fun hh => hb (.inr (hh ▸ h.k2.1))) (by show _ ≤ (World.putObj _ _ _).heap.size; rw [World.putObj_size]; exact Nat.le_refl _)
  · obtain ⟨q1, q2, q3, q4⟩ := h.own b hb
    rw [hd]
    exact ⟨q1, q2, q3, by show _ < (World.putObj _ _ _).heap.size; rw [World.putObj_size]; exact q4⟩
  · rw [hw]; exact World.putObj_heap_same (by omega)
  · rw [hw, World.putObj_heap_other (by omega)]; exact h.defd
  · rw [hd]; exact h.k1
  · rw [hd]; exact h.k2
  · subst hd
    exact Evi.of (fun b hb => World.putObj_heap_other (hne b hb)) rfl rfl rfl rfl rfl rfl
theorem Lo.on {S S' S2 : MS} {rec : LoopState → Option Code → Loop} {W1 : Nat} {st : LoopState} {pe : Option Code} {O : Nat → Prop} {H' H2 : AHeap} (h : Lo S rec W1 st pe O S' H') (e : BEvo S.n S' S2) (hr : SRel S2 H2) : Lo S rec W1 st pe O S2 H2 ∧ ∀ b, O b → S2.w.heap[b]? = S'.w.heap[b]? := by
  have hk : ∀ b, S'.keep b → ¬ S'.im b → S2.keep b ∧ ¬ S2.im b ∧ S2.w.heap[b]? = S'.w.heap[b]? := fun b h1 h2 => ⟨e.keep b h1, fun hi => (e.fresh b hi).elim h2 (fun hh => hh h1), e.kept b (.inr h1)⟩
  refine ⟨⟨((h.evo.down (Nat.le_refl _)).trans e).up, hr, fun b hb => ?_, Nat.le_trans h.size e.size, ?_, ?_, ?_, ?_⟩, fun b hb => ?_⟩
  · obtain ⟨q1, q2, q3, q4⟩ := h.own b hb
    obtain ⟨r1, r2, _⟩ := hk b q1 q2
    exact ⟨r1, r2, q3, Nat.lt_of_lt_of_le q4 e.size⟩
  · rw [(hk _ h.k2.1 h.k2.2).2.2]; exact h.loop
  · rw [(hk _ h.k1.1 h.k1.2).2.2]; exact h.defd
  · obtain ⟨r1, r2, _⟩ := hk _ h.k1.1 h.k1.2; exact ⟨r1, r2⟩
  · obtain ⟨r1, r2, _⟩ := hk _ h.k2.1 h.k2.2; exact ⟨r1, r2⟩
  · obtain ⟨q1, q2, _, _⟩ := h.own b hb
    exact (hk b q1 q2).2.2
theorem T_rng {f : AArg} {ps : List Nat} {asg body : AC} {gf : Nat} {caps : List AV} (hf : f.eval env = .fn gf caps) (hpure : pureL caps = true) (hfr1 : asg.free = true) (hfr2 : body.free = true) {rows : List (List AV)} (hit : IterOK P gf caps rows) (hfl : ∀ r ∈ rows, ∀ x ∈ r, Flat x)
    (hps : ∀ r ∈ rows, r.length = ps.length) (hpn : ∀ p ∈ ps, p < n) (Inv : Nat → AHeap → Prop) (Qx : Ex → AHeap → Prop) (h0 : Inv 0 H) (hn : ∀ k H', Inv k H' → H'.n = H.n) (hnx : ∀ x H', Qx x H' → H'.n = H.n)
    (round : ∀ k row H1, rows[k]? = some row → Inv k H1 → T P n H.n asg (setL env ps row) H1 (fun x env1 H2 => x = .normal ∧ T P n H.n body env1 H2 (fun x _ H3 => (x = .normal ∧ Inv (k + 1) H3) ∨ (x ≠ .normal ∧ Qx x H3))))
    (done : ∀ H1, Inv rows.length H1 → Q .normal env H1) (out : ∀ x H1, Qx x H1 → Q x env H1) : T P n b (.rng f ps asg body) env H Q := T_of fun rd mm hrd code hc hs S a hb hS hF => by
  obtain rfl : rd = none := by
    rcases hrd with h | h
    · cases h
    · exact h
  cases code <;> simp only [compC, reduceCtorEq, Option.some.injEq] at hc
  case rangeFunc g pps asgc bodyc =>
    split at hc
    · rename_i z x y hz hx hy
      cases hc
      have hSim := hS.im
      have hv := arg_rel hF hz
      rw [hf] at hv
      obtain ⟨lb, hgv, hlb⟩ := hv
      obtain ⟨hent, hit⟩ := hit
      have hFn : S.n = H.n := hS.n
      refine wpIn_rangeFunc (F := fen none) fun fn _ => ?_
      obtain ⟨rec, hrec⟩ : ∃ rec : LoopState → Option Code → Loop, rec = fun st pe => { state := st, pending := pe, fn, tmps := a.tmps, params := pps, assign := asgc, body := bodyc, defers := S.w.heap.size } := ⟨_, rfl⟩
      obtain ⟨W1, hW1⟩ : ∃ W1, (S.w.alloc (.deferred (some []))).alloc (.loop (rec .ready none)) = W1 := ⟨_, rfl⟩
      have hW1s : W1.heap.size = S.w.heap.size + 2 := by rw [← hW1, size_alloc, size_alloc]
      have hW1o : ∀ b, b < S.w.heap.size → W1.heap[b]? = S.w.heap[b]? := fun b hb => by
        rw [← hW1, heap_alloc_lt _ _ _ (by rw [size_alloc]; omega), heap_alloc_lt _ _ _ hb]
      have hL1 : W1.heap[S.w.heap.size + 1]? = some (.loop (rec .ready none)) := by
        rw [← hW1]; have := heap_alloc_new (S.w.alloc (.deferred (some []))) (.loop (rec .ready none)); rwa [size_alloc] at this
      have hK1 : W1.heap[S.w.heap.size]? = some (.deferred (some [])) := by
        rw [← hW1, heap_alloc_lt _ _ _ (by rw [size_alloc]; omega)]; exact heap_alloc_new _ _
      -- the state at the loop's beginning
      obtain ⟨S1, hS1d⟩ : ∃ S1 : MS, S1 = { S with w := W1, keep := fun b => S.keep b ∨ b = S.w.heap.size ∨ b = S.w.heap.size + 1 } := ⟨_, rfl⟩
      have hw1 : S1.w = W1 := by rw [hS1d]
      have hlo : Lo S rec (S.w.heap.size + 2) .ready none (fun _ => False) S1 H := by
        refine ⟨?_, ?_, fun b hb => hb.elim, by rw [hw1, hW1s]; exact Nat.le_refl _, by rw [hw1]; exact hL1, by rw [hw1]; exact hK1, ?_, ?_⟩
        · subst hS1d hW1
          exact ⟨rfl, rfl, rfl, rfl, by rw [hW1s]; omega, fun b hb => hW1o b (hSim b hb), fun _ h => h, fun _ h => .inl h, fun _ h => .inl h, Nat.le_refl _, fun _ _ => Nat.le_refl _, fun _ _ _ => ⟨rfl, rfl, rfl⟩⟩
        · subst hS1d
          exact hS.turn2 (fun b hb => hW1o b (hSim b (.inl hb))) rfl rfl rfl rfl rfl rfl (fun b hb => hb.imp id (fun h => by omega)) (fun b hb => by
            show b < W1.heap.size
            rw [hW1s]
            rcases hb with hb | hb
            · have := hSim b (.inr hb); omega
            · omega) (fun b _ hl => hW1o b hl) (by show _ ≤ W1.heap.size; rw [hW1s]; omega)
        · rw [hS1d]; exact ⟨.inr (.inl rfl), fun hi => by have := hSim _ (.inl hi); omega⟩
        · rw [hS1d]; exact ⟨.inr (.inr rfl), fun hi => by have := hSim _ (.inl hi); omega⟩
      obtain ⟨Sit, hSid⟩ : ∃ Sit : MS, Sit = { S1 with n := 0, keep := fun _ => False } := ⟨_, rfl⟩
      have hSit : SRel Sit AHeap.nil := by
        subst hSid
        exact ⟨rfl, fun g hg => absurd hg (Nat.not_lt_zero _), fun g _ hg => absurd hg (Nat.not_lt_zero _), fun b hb => hlo.rel.im b (hb.imp id False.elim)⟩
      have hlb' : VsRel Sit caps lb := by
        have := VsRel.mono hlo.evo _ hlb
        subst hSid
        exact VsRel.of_pure (S := S1) (S' := { S1 with n := 0, keep := fun _ => False }) rfl (fun _ h => h) hpure this
      have hwit : Sit.w = W1 := by rw [hSid]; exact hw1
      have himit : Sit.im = S.im := by rw [hSid, hS1d]
      refine ⟨S.w.heap.size + 1, [mark S.w.heap.size], W1, { target := .fn (.func gf) lb.toArray, args := #[.func (.yield (S.w.heap.size + 1)) #[] #[]] }, W1, gf, #[.func (.yield (S.w.heap.size + 1)) #[] #[]] ++ lb.toArray, W1, ?_, ?_, fun _ _ => trivial, ?_, fun h => (by cases h), ?_⟩
      · rw [← hW1, hrec]; exact run_enterLoop_outer _ _ _ _ _
      · simp only [rangeCall, resolve, hgv]
        simp [go_sem, Act.eval]
      · simpa [invoke, go_sem] using hent (Value.func (.yield (S.w.heap.size + 1)) #[] #[] :: lb).toArray W1
      -- the iterator
      have hcall := hit (mm + 1) (S.w.heap.size + 1) Sit lb
        (fun k O W => ∃ S' H', S'.w = W ∧ Lo S rec (S.w.heap.size + 2) .ready none O S' H' ∧ Inv k H')
        (fun k O W => ∃ x S' H', S'.w = W ∧ Lo S rec (S.w.heap.size + 2) .done (some (codeOf x)) O S' H' ∧ x ≠ .normal ∧ Qx x H')
        hSit hlb'
        (fun k O W W' ⟨S', H', hw, hl, hi⟩ h1 h2 h3 h4 h5 => by
          subst hw
          obtain ⟨S'', hw', hl'⟩ := hl.clo hSim h1 h2 h3 h4 h5
          exact ⟨S'', H', hw', hl', hi⟩)
        (fun k O W W' ⟨x, S', H', hw, hl, hi⟩ h1 h2 h3 h4 h5 => by
          subst hw
          obtain ⟨S'', hw', hl'⟩ := hl.clo hSim h1 h2 h3 h4 h5
          exact ⟨x, S'', H', hw', hl', hi⟩)
        ⟨S1, H, by rw [hwit, hw1], hlo, h0⟩
        (fun k O W hJ => by
          have hW1e : W1.os = S.w.os ∧ W1.tape = S.w.tape ∧ W1.output = S.w.output := by rw [← hW1]; exact ⟨rfl, rfl, rfl⟩
          have key : ∀ {st : LoopState} {pe : Option Code} {S' : MS} {H' : AHeap}, Lo S rec (S.w.heap.size + 2) st pe O S' H' → (∀ b, Sit.im b → ¬ O b ∧ S'.w.heap[b]? = Sit.w.heap[b]?) ∧ (S'.w.os = Sit.w.os ∧ S'.w.tape = Sit.w.tape ∧ S'.w.output = Sit.w.output) ∧ Sit.w.heap.size ≤ S'.w.heap.size ∧ ∀ b, O b → Sit.w.heap.size ≤ b ∧ b < S'.w.heap.size := fun hl => by
            refine ⟨fun b hb => ?_, by rw [hwit, hW1e.1, hW1e.2.1, hW1e.2.2]; exact ⟨hl.evo.os, hl.evo.tape, hl.evo.output⟩, by rw [hwit, hW1s]; exact hl.size, fun b hb => ?_⟩
            · rw [himit] at hb
              refine ⟨fun ho => by have := (hl.own b ho).2.2.1; have := hSim b (.inl hb); omega, ?_⟩
              rw [hwit, hW1o b (hSim b (.inl hb))]
              exact hl.evo.kept b (.inl hb)
            · obtain ⟨_, _, q3, q4⟩ := hl.own b hb
              rw [hwit, hW1s]
              exact ⟨q3, q4⟩
          rcases hJ with ⟨S', H', hw, hl, _⟩ | ⟨x, S', H', hw, hl, _, _⟩
          · subst hw; exact key hl
          · subst hw; exact key hl)
        (fun k row O W hrow ⟨S', H', hw, hl, hi⟩ => by
          subst hw
          have hlen : (encI row).size = (rec .ready none).params.size := by
            rw [hrec]
            have := hps row (List.mem_of_getElem? hrow)
            simp [this]
          refine ⟨_, _, _, _, run_yield hl.loop hlen, ?_⟩
          have hrf : rec .ready none = { state := .ready, pending := none, fn, tmps := a.tmps, params := pps, assign := asgc, body := bodyc, defers := S.w.heap.size } := by rw [hrec]
          rw [hrf]
          refine roundIn_of_wpIn (F := Fence.wide) trivial ?_
          have hF' : FRel S' n env a := hF.mono hl.evo
          have hFr := setL_rel (n := n) (Marks.nil hF'.defers.1) (ps := pps.toList) (row := row) (env := env) (tmps := a.tmps) (ds' := a.defers) hF' hpn (hfl row (List.mem_of_getElem? hrow))
          have hTa' := (round k row H' hrow hi) (some (S.w.heap.size + 1)) (mm + 1) (.inl hfr1) asgc hx S' _ (by rw [hl.rel.n, hn k H' hi]; exact Nat.le_refl _) hl.rel hFr
          have hzip : (pps.zip (encI row)).foldl (fun t (p, v) => t.setIfInBounds p v) a.tmps = (pps.toList.zip (row.map valOf)).foldl (fun t (p, v) => t.setIfInBounds p v) a.tmps := by
            rw [← Array.foldl_toList]
            simp
          rw [hzip]
          refine wpIn_mono hTa' fun e a1 w1 hh => ?_
          obtain ⟨S2, env1, H2, x1, rfl, e2, hS2, hF2, rfl, rfl, hbody⟩ := hh
          have hn' : H'.n = H.n := hn k H' hi
          have hsz2 := hl.size
          obtain ⟨hl2, ho2⟩ := hl.on (by rw [hFn]; exact e2) hS2
          obtain ⟨S3, hw3, hl3, ev3, hn3, hb3, hk3, hi3⟩ := hl2.turn hSim .busy none
          have hbr := run_beginRound (P := P) hl2.loop (by rw [hrec])
          have hrb : ({ rec .ready none with state := .busy } : Loop) = rec .busy none := by rw [hrec]
          rw [hrb] at hbr
          refine ⟨_, hbr, ?_⟩
          rw [← hw3]
          have hMs : Marks S3 a1.defers := by
            obtain ⟨q0, Ds, q1, q2, q3⟩ := hF2.defers
            refine ⟨by rw [hb3, hw3, World.putObj_size]; exact q0, Ds, q1, q2, fun D hD => ?_⟩
            obtain ⟨r1, r2, r3, r4⟩ := q3 D hD
            refine ⟨by rw [hb3]; exact r1, by rw [hk3]; exact r2, by rw [hi3]; exact r3, ?_⟩
            rw [hw3, World.putObj_heap_other, r4]
            intro hDl
            rw [hDl, hl2.loop] at r4
            cases r4
          have hF3 : FRel S3 n env1 a1 := ⟨hF2.size, hMs, fun i hi => VRel.moni ev3 _ (hF2.val i hi)⟩
          have hTb := hbody (some (S.w.heap.size + 1)) (mm + 1) (.inl hfr2) bodyc hy S3 a1 (by rw [← hFn]; exact hl3.evo.n) hl3.rel hF3
          refine wpIn_mono hTb fun e a4 w4 hh => ?_
          obtain ⟨S4, env4, H4, x4, rfl, e4, hS4, hF4, rfl, hx4⟩ := hh
          obtain ⟨hl4, ho4⟩ := hl3.on (by rw [hFn]; exact e4) hS4
          have hob : ∀ b, O b → S4.w.heap[b]? = S'.w.heap[b]? := fun b hb => by
            have hne : b ≠ S.w.heap.size + 1 := by have := (hl.own b hb).2.2.1; omega
            rw [ho4 b hb, hw3, World.putObj_heap_other hne, ho2 b hb]
          have hput : ∀ (o : Obj) b, O b → (S4.w.putObj (S.w.heap.size + 1) o).heap[b]? = S'.w.heap[b]? := fun o b hb => by
            have hne : b ≠ S.w.heap.size + 1 := by have := (hl.own b hb).2.2.1; omega
            rw [World.putObj_heap_other hne, hob b hb]
          have hend := fun j => run_endRound (P := P) j hl4.loop
          have hgrow : ∀ o : Obj, S'.w.heap.size ≤ (S4.w.putObj (S.w.heap.size + 1) o).heap.size := fun o => by
            have g1 := e2.size
            have g2 := e4.size
            rw [hw3, World.putObj_size] at g2
            rw [World.putObj_size]
            omega
          have hr1 : ({ rec .busy none with state := .ready, pending := none } : Loop) = rec .ready none := by rw [hrec]
          have hr2 : ∀ c, ({ rec .busy none with state := .done, pending := some c } : Loop) = rec .done (some c) := fun c => by rw [hrec]
          rcases hx4 with ⟨rfl, hinv⟩ | ⟨hxn, hqx⟩
          · obtain ⟨S5, hw5, hl5, _⟩ := hl4.turn hSim .ready none
            have := hend none
            simp only [Option.isNone_none, if_true, hr1] at this
            exact ⟨_, _, this, hgrow _, hput _, .inl ⟨rfl, S5, H4, hw5, hl5, hinv⟩⟩
          · obtain ⟨S5, hw5, hl5, _⟩ := hl4.turn hSim .done (some (codeOf x4))
            have := hend (some (codeOf x4))
            simp only [Option.isNone_some, Bool.false_eq_true, if_false, hr2] at this
            cases x4 with
            | normal => exact absurd rfl hxn
            | exit id => exact ⟨_, _, this, hgrow _, hput _, .inr ⟨rfl, .exit id, S5, H4, hw5, hl5, hxn, hqx⟩⟩
            | ret => exact ⟨_, _, this, hgrow _, hput _, .inr ⟨rfl, .ret, S5, H4, hw5, hl5, hxn, hqx⟩⟩)
      rw [hwit] at hcall
      have hmk : ∀ (S' : MS) (H' : AHeap), Evo S S' → SRel S' H' → S'.keep S.w.heap.size ∧ ¬ S'.im S.w.heap.size → S'.w.heap[S.w.heap.size]? = some (.deferred (some [])) → FRel S' n env { a with defers := [mark S.w.heap.size] ++ a.defers } := fun S' H' ev _ hk hd => by
        have hF' := hF.mono ev
        refine ⟨hF'.size, ?_, hF'.val⟩
        obtain ⟨q0, Ds, q1, q2, q3⟩ := hF'.defers
        obtain ⟨_, Ds', p1, _, p3⟩ := hF.defers
        have hDs : Ds' = Ds := by
          rw [q1] at p1
          have hinj : ∀ {l l' : List Nat}, l.map mark = l'.map mark → l = l' := by
            intro l
            induction l with
            | nil => intro l' h; cases l' with
              | nil => rfl
              | cons => simp at h
            | cons x l ih => intro l' h; cases l' with
              | nil => simp at h
              | cons y l' =>
                simp only [List.map_cons, List.cons.injEq, mark, Deferred.mk.injEq, and_true, Target.collected.injEq] at h
                rw [h.1, ih h.2]
          exact (hinj p1).symm
        subst hDs
        refine ⟨q0, S.w.heap.size :: Ds', by rw [q1]; rfl, List.nodup_cons.2 ⟨fun hm => by have := hSim _ (.inr (p3 _ hm).2.1); omega, q2⟩, fun D hD => ?_⟩
        rcases List.mem_cons.1 hD with rfl | hD
        · exact ⟨by rw [ev.base]; exact hF.defers.1, hk.1, hk.2, hd⟩
        · exact q3 D hD
      refine CallsIn.mono (callsIn_wide.2 (callsIn_wide.1 hcall)) fun e w3 hh => ?_
      obtain ⟨⟨v, rfl⟩, hh⟩ := hh
      rcases hh with ⟨O, S', H', rfl, hl, hinv⟩ | ⟨k, O, x, S', H', rfl, hl, hxn, hqx⟩
      · obtain ⟨S5, hw5, hl5, _⟩ := hl.turn hSim .exhausted none
        have := run_endLoop (P := P) hl.loop (by rw [hrec]; intro hh; cases hh)
        have hr1 : ({ rec .ready none with state := .exhausted } : Loop) = rec .exhausted none := by rw [hrec]
        rw [hr1] at this
        have hpn' : (rec .ready none).pending = none := by rw [hrec]
        rw [hpn'] at this
        exact ⟨_, _, this, S5, env, H', .normal, hw5, hl5.evo.down hb, hl5.rel, hmk S5 H' hl5.evo hl5.rel hl5.k1 hl5.defd, rfl, done H' hinv⟩
      · obtain ⟨S5, hw5, hl5, _⟩ := hl.turn hSim .exhausted (some (codeOf x))
        have := run_endLoop (P := P) hl.loop (by rw [hrec]; intro hh; cases hh)
        have hr1 : ({ rec .done (some (codeOf x)) with state := .exhausted } : Loop) = rec .exhausted (some (codeOf x)) := by rw [hrec]
        rw [hr1] at this
        have hpn' : (rec .done (some (codeOf x))).pending = some (codeOf x) := by rw [hrec]
        rw [hpn'] at this
        refine ⟨_, _, this, ?_⟩
        have hAft : After S n b Q (Ex.up x) { a with defers := [mark S.w.heap.size] ++ a.defers } (S'.w.putObj (S.w.heap.size + 1) (.loop (rec .exhausted (some (codeOf x))))) :=
          ⟨S5, env, H', x, hw5, hl5.evo.down hb, hl5.rel, hmk S5 H' hl5.evo hl5.rel hl5.k1 hl5.defd, rfl, out x H' hqx⟩
        cases x with
        | normal => exact absurd rfl hxn
        | exit id => exact wpIn_exit hAft
        | ret => exact wpIn_ret hAft
    · cases hc
  case region => exact absurd hc compReg_ne
  case seq => split at hc <;> cases hc
  case cond => split at hc <;> cases hc
  case block => obtain ⟨_, _, h⟩ := Option.map_eq_some_iff.1 hc; cases h
  case loop => obtain ⟨_, _, h⟩ := Option.map_eq_some_iff.1 hc; cases h
  case scope d => exact absurd rfl (hs d)
end
end Go.Proofs.Yticodgjinajkpaa.Abs
set_option linter.unusedSimpArgs false
set_option linter.unusedVariables false
namespace Go.Proofs.Yticodgjinajkpaa.Abs
section
variable {P : Program} {n b : Nat} {env : Env} {H : AHeap} {Q : Ex → Env → AHeap → Prop}
theorem virt_rel {a : Act} : ∀ (ws : List Nat) {S : MS} {l : List Grp}, (∀ w ∈ ws, 0 < w) → SRel S (hl l) → FRel S n env a → ∃ S', S'.w = S.w ∧ Evo S S' ∧ SRel S' (hl (l ++ ws.map virtG)) ∧ FRel S' n env a
  | [], S, l, _, hS, hF => ⟨S, rfl, .refl S, by simpa using hS, hF⟩
  | w :: ws, S, l, hw, hS, hF => by
    have h1 := hS.virt w (hw w (by simp))
    rw [hl_push] at h1
    obtain ⟨S', e1, e2, e3, e4⟩ := virt_rel ws (S := S.virt w) (l := l ++ [virtG w]) (fun w' h' => hw w' (by simp [h'])) h1 ⟨hF.size, hF.defers.mono (Evo.virt _), fun j hj => VRel.mono (Evo.virt _) _ (hF.val j hj)⟩
    exact ⟨S', e1, (Evo.virt _).trans e2, by simpa using e3, e4⟩
theorem head_rel {srcs : List Src} {live : List (Nat × AV)} {heap : List Grp} {S : MS} {a : Act} (hh : Head b env H srcs live heap) (hbS : b ≤ S.n) (hS : SRel S H) (hF : FRel S n env a) :
    ∃ S', S'.w = S.w ∧ BEvo b S S' ∧ SRel S' (hl heap) ∧ FRel S' n (mkEnv live) a := by
  obtain ⟨hb, hh⟩ := hh
  have hgn : H.groups.length = H.n := by simp [AHeap.groups]
  have hS1 : SRel S (hl H.groups) := hS.congr hgn (fun g hg => by
    show H.groups.getD g default = _
    simp [AHeap.groups, List.getD, hg])
  obtain ⟨S2, e1, e2, e3, e4⟩ := virt_rel (srcKs H.n srcs).2 (allPos_mem hh.1) hS1 hF
  replace hh := hh.2
  generalize hl1 : H.groups ++ (srcKs H.n srcs).2.map virtG = l1 at *
  obtain ⟨h1, h2, h3, h4⟩ := hh
  have hb1 : b ≤ l1.length := by rw [← hl1, List.length_append]; omega
  have hbS2 : b ≤ S2.n := Nat.le_trans hbS e2.n
  obtain ⟨k1, k2⟩ := repack_hl (ks := (srcKs H.n srcs).1) hb1
  have hev := repack_evo (ks := (srcKs H.n srcs).1) e3 hbS2
  have hrel := (repack_rel (ks := (srcKs H.n srcs).1) 6 e3 hb1 (fun k hk => allB_mem h1 k hk) (diffr_nodup h2)).congr k1 k2
  have hF3 : FRel (S2.repack b (hl l1) (srcKs H.n srcs).1) n (fun i => rnV b (hl l1) (srcKs H.n srcs).1 6 (env i)) a := ⟨e4.size, e4.defers.of hev.base hev.size hev.keep hev.fresh (fun b hb => hev.kept b (.inr hb)), fun j hj => rn_ok e3 6 (e4.val j hj)⟩
  exact ⟨S2.repack b (hl l1) (srcKs H.n srcs).1, e1, (e2.down hbS).trans hev, grpsLe_rel hrel h4, ⟨hF3.size, hF3.defers, liveLe_at hrel hF3 h3⟩⟩
theorem T_endH {c : AC} {Q' : Ex → Env → AHeap → Prop} (h : T P n b c env H Q') (hq : ∀ x env' H', Q' x env' H' → ∃ srcs live heap, Head b env' H' srcs live heap ∧ Q x (mkEnv live) (hl heap)) : T P n b c env H Q :=
  fun rd mm hrd code hc S a hb hS hF => wpIn_mono (h rd mm hrd code hc S a hb hS hF) fun e a w hh => by
    obtain ⟨S', env', H', x, e1, e2, e3, e4, e5, e6⟩ := hh
    obtain ⟨srcs, live, heap, k1, k2⟩ := hq _ _ _ e6
    obtain ⟨S2, q1, q2, q3, q4⟩ := head_rel k1 e2.n e3 e4
    exact ⟨S2, _, _, x, q1.trans e1, e2.trans q2, q3, q4, e5, k2⟩
theorem T_rngR {σ : Type} (Fact : Nat → σ → Prop) (live : List (Nat × AV)) (heap : σ → List Grp) (srcs : List Src) (N : Nat) {f : AArg} {ps : List Nat} {asg body : AC} {gf : Nat} {caps : List AV} {rows : List (List AV)} (s0 : σ)
    (hit : IterOK P gf caps rows) (he : Head b env H srcs live (heap s0)) (hN : ∀ s, (heap s).length = N) (hf : f.eval (mkEnv live) = .fn gf caps) (hpure : pureL caps = true) (hfr1 : asg.free = true) (hfr2 : body.free = true)
    (hfl : ∀ r ∈ rows, ∀ x ∈ r, Flat x) (hps : ∀ r ∈ rows, r.length = ps.length) (hpn : ∀ p ∈ ps, p < n) (h0 : Fact 0 s0)
    (round : ∀ k row s, rows[k]? = some row → Fact k s → T P n N asg (setL (mkEnv live) ps row) (hl (heap s)) (fun x env1 H2 => x = .normal ∧ T P n N body env1 H2 (Ex.then (fun env3 H3 => ∃ s', Head N env3 H3 [] [] (heap s') ∧ Fact (k + 1) s') (fun _ _ _ => False))))
    (done : ∀ s, Fact rows.length s → Q .normal (mkEnv live) (hl (heap s))) : T P n b (.rng f ps asg body) env H Q := by
  refine T_head he ?_
  refine T_rng hf hpure hfr1 hfr2 hit hfl hps hpn (fun k H' => ∃ s, H' = hl (heap s) ∧ Fact k s) (fun _ _ => False) ⟨s0, rfl, h0⟩ (fun k H' hh => ?_) (fun _ _ hh => hh.elim) (fun k row H1 hrow hh => ?_) (fun H1 hh => ?_) (fun _ _ hh => hh.elim)
  · obtain ⟨s, rfl, _⟩ := hh
    show (heap s).length = (heap s0).length
    rw [hN, hN]
  · obtain ⟨s, rfl, hs⟩ := hh
    have hn0 : (hl (heap s0)).n = N := hN s0
    rw [hn0]
    refine T.mono (round k row s hrow hs) fun x env1 H2 hh => ⟨hh.1, ?_⟩
    refine T_endH hh.2 fun x env3 H3 hq => ?_
    cases x with
    | normal =>
      obtain ⟨s', q1, q2⟩ := hq
      exact ⟨[], [], heap s', q1, .inl ⟨rfl, s', rfl, q2⟩⟩
    | exit id => exact hq.elim
    | ret => exact hq.elim
  · obtain ⟨s, rfl, hs⟩ := hh
    exact done s hs
theorem LoopK_R {f : AArg} {ps : List Nat} {asg body : AC} (h : T P n b (.rng f ps asg body) env H Q) : @LoopK ⟨T P n b (.rng f ps asg body) env H Q⟩ := h
end
end Go.Proofs.Yticodgjinajkpaa.Abs
set_option linter.unusedSimpArgs false
set_option linter.unusedVariables false
namespace Go.Proofs.Yticodgjinajkpaa.Abs
mutual
def ren (σ : Nat → Nat) : AV → AV
  | .any => .any
  | .bool b => .bool b
  | .int k n => .int k n
  | .str s => .str s
  | .nilS => .nilS
  | .nul => .nul
  | .emp => .emp
  | .lst w xs => .lst w xs
  | .full w xs => .full w xs
  | .map g v => .map (σ g) v
  | .ref g v o n => .ref (σ g) v o n
  | .cptr x => .cptr x
  | .ptr g v i o => .ptr (σ g) v i o
  | .nilP => .nilP
  | .agg cs => .agg (renL σ cs)
  | .tup cs => .tup (renL σ cs)
  | .fn f cs => .fn f (renL σ cs)
  | .nilF => .nilF
  | .yld l => .yld l
def renL (σ : Nat → Nat) : List AV → List AV
  | [] => []
  | x :: xs => ren σ x :: renL σ xs
end
mutual
def ltV (m : Nat) : AV → Prop
  | .map g _ | .ref g _ _ _ | .ptr g _ _ _ => g < m
  | .agg cs | .tup cs | .fn _ cs => ltL m cs
  | .any | .bool _ | .int .. | .str _ | .nilS | .nul | .emp | .lst .. | .full .. | .cptr _ | .nilP | .nilF | .yld _ => True
def ltL (m : Nat) : List AV → Prop
  | [] => True
  | x :: xs => ltV m x ∧ ltL m xs
end
def renG (σ : Nat → Nat) (G : Grp) : Grp := ⟨G.w, G.ver, G.exact, renL σ G.xs⟩
mutual
theorem ren_up {A B : MS} {σ : Nat → Nat} (hw : B.w = A.w) (hi : ∀ b, A.im b → B.im b) (hg : ∀ g, g < A.n → σ g < B.n ∧ B.cur (σ g) = A.cur g ∧ B.place (σ g) = A.place g ∧ B.cap (σ g) = A.cap g ∧ B.wid (σ g) = A.wid g) : ∀ (x : AV) {v : Value}, VRel A x v → VRel B (ren σ x) v
  | .any, _, _ => trivial
  | .bool _, _, h => h
  | .int _ _, _, h => h
  | .str _, _, h => h
  | .nilS, _, h => h
  | .nul, _, h => h
  | .emp, _, h => h
  | .nilP, _, h => h
  | .nilF, _, h => h
  | .yld _, _, h => h
  | .lst wd xs, v, h => by
    obtain ⟨hp, h0, a, cap, vs, hv, hc, hl, hr⟩ := h
    refine ⟨hp, h0, a, cap, vs, hv, hc, VsRel.of_pure hw hi hp hl, fun hne => ?_⟩
    obtain ⟨b, o, ha, hb, hrow⟩ := hr hne
    exact ⟨b, o, ha, hi b hb, by rw [hw]; exact hrow⟩
  | .full wd xs, v, h => by
    obtain ⟨hp, h0, a, vs, hv, hc, hl, hr⟩ := h
    refine ⟨hp, h0, a, vs, hv, hc, VsRel.of_pure hw hi hp hl, fun hne => ?_⟩
    obtain ⟨b, o, ha, hb, hrow⟩ := hr hne
    exact ⟨b, o, ha, hi b hb, by rw [hw]; exact hrow⟩
  | .cptr x, v, h => by
    obtain ⟨hp, b, o, u, hv, hb, hx, hl⟩ := h
    exact ⟨hp, b, o, u, hv, hi b hb, VRel.of_pure hw hi hp hx, by rw [hw]; exact hl⟩
  | .map g vn, v, h => by
    obtain ⟨hs, hgn, hc, hv⟩ := h
    obtain ⟨k1, k2, k3, k4, k5⟩ := hg g hgn
    exact ⟨hs, k1, by rw [k2]; exact hc, fun h' => by rw [k3]; exact hv (by rw [← k2]; exact h')⟩
  | .ref g vn off len, v, h => by
    obtain ⟨hs, hgn, hc, hv⟩ := h
    obtain ⟨k1, k2, k3, k4, k5⟩ := hg g hgn
    exact ⟨hs, k1, by rw [k2]; exact hc, fun h' => by rw [k3, k4, k5]; exact hv (by rw [← k2]; exact h')⟩
  | .ptr g vn i o, v, h => by
    obtain ⟨hs, hgn, hc, hv⟩ := h
    obtain ⟨k1, k2, k3, k4, k5⟩ := hg g hgn
    exact ⟨hs, k1, by rw [k2]; exact hc, fun h' => by rw [k3, k5]; exact hv (by rw [← k2]; exact h')⟩
  | .agg cs, v, h => by obtain ⟨vs, hv, h⟩ := h; exact ⟨vs, hv, renL_up hw hi hg cs h⟩
  | .tup cs, v, h => by obtain ⟨vs, hv, h⟩ := h; exact ⟨vs, hv, renL_up hw hi hg cs h⟩
  | .fn f cs, v, h => by obtain ⟨vs, hv, h⟩ := h; exact ⟨vs, hv, renL_up hw hi hg cs h⟩
theorem renL_up {A B : MS} {σ : Nat → Nat} (hw : B.w = A.w) (hi : ∀ b, A.im b → B.im b) (hg : ∀ g, g < A.n → σ g < B.n ∧ B.cur (σ g) = A.cur g ∧ B.place (σ g) = A.place g ∧ B.cap (σ g) = A.cap g ∧ B.wid (σ g) = A.wid g) : ∀ (xs : List AV) {vs : List Value}, VsRel A xs vs → VsRel B (renL σ xs) vs
  | [], _, h => h
  | x :: xs, _, h => by
    obtain ⟨v, r, hv, h1, h2⟩ := h
    exact ⟨v, r, hv, ren_up hw hi hg x h1, renL_up hw hi hg xs h2⟩
end
mutual
theorem ren_down {A B : MS} {σ : Nat → Nat} {m : Nat} (hw : A.w = B.w) (hi : ∀ b, B.im b → A.im b) (hg : ∀ g, g < m → g < A.n ∧ B.cur (σ g) = A.cur g ∧ B.place (σ g) = A.place g ∧ B.cap (σ g) = A.cap g ∧ B.wid (σ g) = A.wid g) : ∀ (x : AV) {v : Value}, ltV m x → VRel B (ren σ x) v → VRel A x v
  | .any, _, _, _ => trivial
  | .bool _, _, _, h => h
  | .int _ _, _, _, h => h
  | .str _, _, _, h => h
  | .nilS, _, _, h => h
  | .nul, _, _, h => h
  | .emp, _, _, h => h
  | .nilP, _, _, h => h
  | .nilF, _, _, h => h
  | .yld _, _, _, h => h
  | .lst wd xs, v, _, h => by
    obtain ⟨hp, h0, a, cap, vs, hv, hc, hl, hr⟩ := h
    refine ⟨hp, h0, a, cap, vs, hv, hc, VsRel.of_pure hw hi hp hl, fun hne => ?_⟩
    obtain ⟨b, o, ha, hb, hrow⟩ := hr hne
    exact ⟨b, o, ha, hi b hb, by rw [hw]; exact hrow⟩
  | .full wd xs, v, _, h => by
    obtain ⟨hp, h0, a, vs, hv, hc, hl, hr⟩ := h
    refine ⟨hp, h0, a, vs, hv, hc, VsRel.of_pure hw hi hp hl, fun hne => ?_⟩
    obtain ⟨b, o, ha, hb, hrow⟩ := hr hne
    exact ⟨b, o, ha, hi b hb, by rw [hw]; exact hrow⟩
  | .cptr x, v, _, h => by
    obtain ⟨hp, b, o, u, hv, hb, hx, hl⟩ := h
    exact ⟨hp, b, o, u, hv, hi b hb, VRel.of_pure hw hi hp hx, by rw [hw]; exact hl⟩
  | .map g vn, v, hm, h => by
    obtain ⟨hs, hgn, hc, hv⟩ := h
    obtain ⟨k1, k2, k3, k4, k5⟩ := hg g hm
    exact ⟨hs, k1, by rw [← k2]; exact hc, fun h' => by rw [← k3]; exact hv (by rw [k2]; exact h')⟩
  | .ref g vn off len, v, hm, h => by
    obtain ⟨hs, hgn, hc, hv⟩ := h
    obtain ⟨k1, k2, k3, k4, k5⟩ := hg g hm
    exact ⟨hs, k1, by rw [← k2]; exact hc, fun h' => by rw [← k3, ← k4, ← k5]; exact hv (by rw [k2]; exact h')⟩
  | .ptr g vn i o, v, hm, h => by
    obtain ⟨hs, hgn, hc, hv⟩ := h
    obtain ⟨k1, k2, k3, k4, k5⟩ := hg g hm
    exact ⟨hs, k1, by rw [← k2]; exact hc, fun h' => by rw [← k3, ← k5]; exact hv (by rw [k2]; exact h')⟩
  | .agg cs, v, hm, h => by obtain ⟨vs, hv, h⟩ := h; exact ⟨vs, hv, renL_down hw hi hg cs hm h⟩
  | .tup cs, v, hm, h => by obtain ⟨vs, hv, h⟩ := h; exact ⟨vs, hv, renL_down hw hi hg cs hm h⟩
  | .fn f cs, v, hm, h => by obtain ⟨vs, hv, h⟩ := h; exact ⟨vs, hv, renL_down hw hi hg cs hm h⟩
theorem renL_down {A B : MS} {σ : Nat → Nat} {m : Nat} (hw : A.w = B.w) (hi : ∀ b, B.im b → A.im b) (hg : ∀ g, g < m → g < A.n ∧ B.cur (σ g) = A.cur g ∧ B.place (σ g) = A.place g ∧ B.cap (σ g) = A.cap g ∧ B.wid (σ g) = A.wid g) : ∀ (xs : List AV) {vs : List Value}, ltL m xs → VsRel B (renL σ xs) vs → VsRel A xs vs
  | [], _, _, h => h
  | x :: xs, _, hm, h => by
    obtain ⟨v, r, hv, h1, h2⟩ := h
    exact ⟨v, r, hv, ren_down hw hi hg x hm.1 h1, renL_down hw hi hg xs hm.2 h2⟩
end
theorem renL_len {σ : Nat → Nat} : ∀ xs : List AV, (renL σ xs).length = xs.length
  | [] => rfl
  | x :: xs => by simp [renL, renL_len xs]
def sg (ks : List Nat) (N i : Nat) : Nat := if i < ks.length then ks.getD i 0 else N + (i - ks.length)
def iv (ks : List Nat) (N g : Nat) : Nat := if g < N then ks.idxOf g else ks.length + (g - N)
def setG : List Nat → List Grp → List Grp → List Grp
  | [], r, l => l ++ r
  | _ :: _, [], l => l
  | k :: ks, G :: r, l => setG ks r (l.set k G)
theorem setG_len : ∀ {ks : List Nat} {r l : List Grp}, ks.length ≤ r.length → (setG ks r l).length = l.length + (r.length - ks.length)
  | [], r, l, _ => by simp [setG]
  | k :: ks, [], l, h => by simp at h
  | k :: ks, G :: r, l, h => by
    rw [setG, setG_len (by simpa using h)]
    simp
theorem setG_other : ∀ {ks : List Nat} {r l : List Grp} {g : Nat}, g < l.length → g ∉ ks → (setG ks r l).getD g default = l.getD g default
  | [], r, l, g, hg, _ => by simp [setG, List.getD, List.getElem?_append_left hg]
  | k :: ks, [], l, g, _, _ => rfl
  | k :: ks, G :: r, l, g, hg, hk => by
    simp only [List.mem_cons, not_or] at hk
    rw [setG, setG_other (by simpa using hg) hk.2]
    simp [List.getD, List.getElem?_set_ne (fun h => hk.1 h.symm)]
theorem setG_at : ∀ {ks : List Nat} {r l : List Grp} {i : Nat}, ks.Nodup → (∀ k ∈ ks, k < l.length) → i < r.length → (setG ks r l).getD (sg ks l.length i) default = r.getD i default
  | [], r, l, i, _, _, hi => by
    simp only [setG, sg, List.length_nil, Nat.not_lt_zero, if_false, Nat.sub_zero, List.getD]
    rw [List.getElem?_append_right (by omega), Nat.add_sub_cancel_left]
  | k :: ks, [], l, i, _, _, hi => by simp at hi
  | k :: ks, G :: r, l, 0, hn, hk, _ => by
    rw [List.nodup_cons] at hn
    have h1 : k < l.length := hk k (by simp)
    have e : sg (k :: ks) l.length 0 = k := by simp [sg]
    rw [e, setG, setG_other (by simpa using h1) hn.1]
    simp [List.getD, List.getElem?_set_self h1]
  | k :: ks, G :: r, l, i + 1, hn, hk, hi => by
    rw [List.nodup_cons] at hn
    have e : sg (k :: ks) l.length (i + 1) = sg ks (l.set k G).length i := by simp [sg]
    rw [e, setG, setG_at hn.2 (fun k' h' => by simpa using hk k' (by simp [h'])) (by simpa using hi)]
    simp
theorem sg_lt {ks : List Nat} {N i n : Nat} (hk : ∀ k ∈ ks, k < N) (hi : i < n) (hm : ks.length ≤ n) : sg ks N i < N + (n - ks.length) := by
  unfold sg
  split
  · rename_i h
    have : ks.getD i 0 ∈ ks := by rw [List.getD_eq_getElem?_getD, List.getElem?_eq_getElem h]; exact List.getElem_mem h
    have := hk _ this
    omega
  · omega
theorem iv_sg {ks : List Nat} {N i : Nat} (hn : ks.Nodup) (hk : ∀ k ∈ ks, k < N) : iv ks N (sg ks N i) = i := by
  unfold sg
  split
  · rename_i h
    have hmem : ks.getD i 0 ∈ ks := by rw [List.getD_eq_getElem?_getD, List.getElem?_eq_getElem h]; exact List.getElem_mem h
    rw [iv, if_pos (hk _ hmem), List.getD_eq_getElem?_getD, List.getElem?_eq_getElem h]
    exact hn.idxOf_getElem i h
  · rw [iv, if_neg (by omega)]; omega
theorem sg_mem {ks : List Nat} {N g : Nat} (hg : g ∈ ks) : ∃ i, i < ks.length ∧ sg ks N i = g := by
  obtain ⟨i, hi, he⟩ := List.getElem_of_mem hg
  exact ⟨i, hi, by rw [sg, if_pos hi, List.getD_eq_getElem?_getD, List.getElem?_eq_getElem hi]; exact he⟩
theorem sg_cover {ks : List Nat} {N g n : Nat} (hm : ks.length ≤ n) (hg : g < N + (n - ks.length)) (h : ¬ (g < N ∧ g ∉ ks)) : ∃ i, i < n ∧ sg ks N i = g := by
  by_cases hgN : g < N
  · have hmem : g ∈ ks := by
      by_cases hh : g ∈ ks
      · exact hh
      · exact absurd ⟨hgN, hh⟩ h
    obtain ⟨i, hi, he⟩ := sg_mem (N := N) hmem
    exact ⟨i, by omega, he⟩
  · exact ⟨ks.length + (g - N), by omega, by rw [sg, if_neg (by omega)]; omega⟩
theorem getD_map_ren {σ : Nat → Nat} {l : List Grp} {i : Nat} (h : i < l.length) : (l.map (renG σ)).getD i default = renG σ (l.getD i default) := by
  simp [List.getD, List.getElem?_eq_getElem h]
theorem acalls_at {P : Program} {f : Nat} {xs0 xs : List AV} {l0 l : List Grp} {K0 K : AV → AHeap → Prop} (ks : List Nat) (h : ACalls P f xs0 (hl l0) K0) (hxs : renL (sg ks l.length) xs0 = xs)
    (hl0 : l0.map (renG (sg ks l.length)) = ks.map (fun k => l.getD k default)) (hn : ks.Nodup) (hk : ∀ k ∈ ks, k < l.length) (hlt : ltL ks.length xs0) (hltG : ∀ G ∈ l0, ltL ks.length G.xs)
    (hK : ∀ y H', K0 y H' → ∃ l', H' = hl l' ∧ ks.length ≤ l'.length ∧ K (ren (sg ks l.length) y) (hl (setG ks (l'.map (renG (sg ks l.length))) l))) : ACalls P f xs (hl l) K := by
  refine ⟨h.1, fun S cargs hS hx => ?_⟩
  have hm : l0.length = ks.length := by simpa using congrArg List.length hl0
  have hSn : S.n = l.length := hS.n
  have hinj : ∀ i j, sg ks l.length i = sg ks l.length j → i = j := fun i j e => by rw [← iv_sg (i := i) hn hk, e, iv_sg hn hk]
  have hin : ∀ i, i < ks.length → sg ks l.length i < l.length ∧ sg ks l.length i ∈ ks := fun i hi => by
    have e : sg ks l.length i = ks[i] := by rw [sg, if_pos hi, List.getD_eq_getElem?_getD, List.getElem?_eq_getElem hi]; rfl
    rw [e]
    exact ⟨hk _ (List.getElem_mem hi), List.getElem_mem hi⟩
  have hat : ∀ i, i < ks.length → l.getD (sg ks l.length i) default = renG (sg ks l.length) (l0.getD i default) := fun i hi => by
    rw [← getD_map_ren (by omega), hl0, sg, if_pos hi]
    simp [List.getD, List.getElem?_eq_getElem hi]
  have hG : ∀ i, i < ks.length → GRel S (renG (sg ks l.length) (l0.getD i default)) (sg ks l.length i) := fun i hi => by
    have := hS.grp (sg ks l.length i) (hin i hi).1
    rwa [hl_at, hat i hi] at this
  obtain ⟨O, hO⟩ : ∃ O : Nat → Prop, ∀ b, O b ↔ ∃ g, g < l.length ∧ g ∉ ks ∧ (l.getD g default).has (S.cap g) ∧ S.place g = b := ⟨_, fun _ => Iff.rfl⟩
  have hOfree : ∀ b, O b → ¬ (S.im b ∨ S.keep b) := fun b hb => by
    obtain ⟨g, h1, h2, h3, rfl⟩ := (hO b).1 hb
    exact (hS.grp g h1).has_ni (by rw [hl_at]; exact h3)
  obtain ⟨S0, hS0d⟩ : ∃ S0 : MS, S0 = { S with keep := fun b => S.keep b ∨ O b, n := ks.length, place := fun i => S.place (sg ks l.length i), cur := fun i => S.cur (sg ks l.length i), cap := fun i => S.cap (sg ks l.length i), wid := fun i => S.wid (sg ks l.length i) } := ⟨_, rfl⟩
  have hdn : ∀ g, g < ks.length → g < S0.n ∧ S.cur (sg ks l.length g) = S0.cur g ∧ S.place (sg ks l.length g) = S0.place g ∧ S.cap (sg ks l.length g) = S0.cap g ∧ S.wid (sg ks l.length g) = S0.wid g := fun g hg => by
    subst hS0d; exact ⟨hg, rfl, rfl, rfl, rfl⟩
  have hw0 : S0.w = S.w := by subst hS0d; rfl
  have hi0 : ∀ b, S.im b → S0.im b := fun b hb => by subst hS0d; exact hb
  have hrel0 : SRel S0 (hl l0) := by
    refine ⟨by subst hS0d; exact hm.symm, fun i hi => ?_, fun i j hi hj hne h1 h2 => ?_, fun b hb => ?_⟩
    · have hi' : i < ks.length := by rw [← hm]; exact hi
      have hg := hG i hi'
      have hmem : l0.getD i default ∈ l0 := by rw [List.getD_eq_getElem?_getD, List.getElem?_eq_getElem (show i < l0.length from hi)]; exact List.getElem_mem _
      have hlg := hltG _ hmem
      rw [hl_at]
      have hnO : (l0.getD i default).has (S.cap (sg ks l.length i)) → ¬ O (S.place (sg ks l.length i)) := fun hh ho => by
        obtain ⟨g, a1, a2, a3, a4⟩ := (hO _).1 ho
        exact hS.apart g (sg ks l.length i) a1 (hin i hi').1 (fun e => a2 (e ▸ (hin i hi').2)) (by rw [hl_at]; exact a3) (by rw [hl_at, hat i hi']; exact hh) a4
      refine ⟨by subst hS0d; exact hg.ver, by subst hS0d; exact hg.wid, fun hw hc => ?_, fun hw => by have := hg.len hw; subst hS0d; simpa [renG, renL_len] using this, fun hw he => by have := hg.full hw he; subst hS0d; simpa [renG, renL_len] using this, fun hw he => ?_⟩
      · have hc' : 0 < S.cap (sg ks l.length i) := by subst hS0d; exact hc
        obtain ⟨⟨cells, T, vs, b1, b2, b3, b4⟩, ni⟩ := hg.live hw hc'
        refine ⟨⟨cells, T, vs, by subst hS0d; exact b1, by subst hS0d; exact b2, renL_down hw0 hi0 hdn _ hlg b3, b4⟩, fun hh => ?_⟩
        have hno := hnO (.inl ⟨hw, hc'⟩)
        subst hS0d
        exact hh.elim (fun hh => ni (.inl hh)) (fun hh => hh.elim (fun hh => ni (.inr hh)) hno)
      · obtain ⟨⟨es, clock, b1, b2⟩, ni⟩ := hg.mlive hw he
        refine ⟨⟨es, clock, by subst hS0d; exact b1, renL_down hw0 hi0 hdn _ hlg b2⟩, fun hh => ?_⟩
        have hno := hnO (.inr ⟨hw, he⟩)
        subst hS0d
        exact hh.elim (fun hh => ni (.inl hh)) (fun hh => hh.elim (fun hh => ni (.inr hh)) hno)
    · have hi' : i < ks.length := by rw [← hm]; exact hi
      have hj' : j < ks.length := by rw [← hm]; exact hj
      rw [hl_at] at h1 h2
      have := hS.apart (sg ks l.length i) (sg ks l.length j) (hin i hi').1 (hin j hj').1 (fun e => hne (hinj _ _ e)) (by rw [hl_at, hat i hi']; subst hS0d; exact h1) (by rw [hl_at, hat j hj']; subst hS0d; exact h2)
      subst hS0d
      exact this
    · subst hS0d
      rcases hb with hb | hb | hb
      · exact hS.im b (.inl hb)
      · exact hS.im b (.inr hb)
      · obtain ⟨g, a1, a2, a3, rfl⟩ := (hO _).1 hb
        exact (hS.grp g a1).has_lt (by rw [hl_at]; exact a3)
  have hx0 : VsRel S0 xs0 cargs := renL_down hw0 hi0 hdn xs0 hlt (by rw [hxs]; exact hx)
  have hsz : S0.w.heap = S.w.heap := by rw [hw0]
  have hcall := h.2 S0 cargs hrel0 hx0
  rw [hw0] at hcall
  refine hcall.mono fun e w' hh => ?_
  obtain ⟨v, S1, y, H', he, hw1, ev, hS1, hv, hk0⟩ := hh
  obtain ⟨l', rfl, hml, hK'⟩ := hK y H' hk0
  have hn1 : S1.n = l'.length := hS1.n
  have hnot : ∀ i, ¬ (sg ks l.length i < l.length ∧ sg ks l.length i ∉ ks) := fun i hh => by
    by_cases hi : i < ks.length
    · exact hh.2 (hin i hi).2
    · have : sg ks l.length i = l.length + (i - ks.length) := by rw [sg, if_neg hi]
      omega
  obtain ⟨S', hS'd⟩ : ∃ S' : MS, S' = { w := S1.w, im := S1.im, keep := fun b => S1.keep b ∧ ¬ O b, n := l.length + (l'.length - ks.length), place := fun g => if g < l.length ∧ g ∉ ks then S.place g else S1.place (iv ks l.length g), cur := fun g => if g < l.length ∧ g ∉ ks then S.cur g else S1.cur (iv ks l.length g), cap := fun g => if g < l.length ∧ g ∉ ks then S.cap g else S1.cap (iv ks l.length g), wid := fun g => if g < l.length ∧ g ∉ ks then S.wid g else S1.wid (iv ks l.length g), base := S1.base } := ⟨_, rfl⟩
  have hoth : ∀ g, g < l.length → g ∉ ks → S'.place g = S.place g ∧ S'.cur g = S.cur g ∧ S'.cap g = S.cap g ∧ S'.wid g = S.wid g := fun g h1 h2 => by
    subst hS'd
    exact ⟨if_pos ⟨h1, h2⟩, if_pos ⟨h1, h2⟩, if_pos ⟨h1, h2⟩, if_pos ⟨h1, h2⟩⟩
  have hour : ∀ i, S'.place (sg ks l.length i) = S1.place i ∧ S'.cur (sg ks l.length i) = S1.cur i ∧ S'.cap (sg ks l.length i) = S1.cap i ∧ S'.wid (sg ks l.length i) = S1.wid i := fun i => by
    subst hS'd
    refine ⟨?_, ?_, ?_, ?_⟩ <;> simp only [if_neg (hnot i), iv_sg hn hk]
  have hn' : S'.n = l.length + (l'.length - ks.length) := by subst hS'd; rfl
  have hwS' : S'.w = S1.w := by subst hS'd; rfl
  have hup : ∀ g, g < S1.n → sg ks l.length g < S'.n ∧ S'.cur (sg ks l.length g) = S1.cur g ∧ S'.place (sg ks l.length g) = S1.place g ∧ S'.cap (sg ks l.length g) = S1.cap g ∧ S'.wid (sg ks l.length g) = S1.wid g := fun g hg => by
    obtain ⟨a1, a2, a3, a4⟩ := hour g
    exact ⟨by rw [hn']; exact sg_lt hk (by omega) hml, a2, a1, a3, a4⟩
  have hiS' : ∀ b, S1.im b → S'.im b := fun b hb => by subst hS'd; exact hb
  have hkS0 : ∀ b, O b → S0.keep b := fun b hb => by subst hS0d; exact .inr hb
  have hn0 : S0.n = ks.length := by subst hS0d; rfl
  have hevo : Evo S S' := by
    refine ⟨?_, ?_, ?_, ?_, ?_, fun b hb => ?_, fun b hb => ?_, fun b hb => ?_, fun b hb => ?_, ?_, fun g hg => ?_, fun g hg he => ?_⟩
    · have := ev.base; subst hS'd; subst hS0d; exact this
    · have := ev.os; rw [hw0] at this; rw [hwS']; exact this
    · have := ev.tape; rw [hw0] at this; rw [hwS']; exact this
    · have := ev.output; rw [hw0] at this; rw [hwS']; exact this
    · have := ev.size; rw [hw0] at this; rw [hwS']; exact this
    · have := ev.kept b (by subst hS0d; exact hb.imp id .inl); rw [hw0] at this; rw [hwS']; exact this
    · exact hiS' b (ev.im b (hi0 b hb))
    · have h1 := ev.keep b (by subst hS0d; exact .inl hb)
      subst hS'd
      exact ⟨h1, fun ho => hOfree b ho (.inr hb)⟩
    · have h1 := ev.fresh b (by subst hS'd; exact hb)
      subst hS0d
      exact h1.imp id fun hh h2 => hh (.inl h2)
    · rw [hn', hSn]; omega
    · rw [hSn] at hg
      by_cases hmem : g ∈ ks
      · obtain ⟨i, hi, rfl⟩ := sg_mem (N := l.length) hmem
        rw [(hour i).2.1]
        have := ev.cur i (by rw [hn0]; exact hi)
        subst hS0d
        exact this
      · rw [(hoth g hg hmem).2.1]; exact Nat.le_refl _
    · rw [hSn] at hg
      by_cases hmem : g ∈ ks
      · obtain ⟨i, hi, rfl⟩ := sg_mem (N := l.length) hmem
        obtain ⟨a1, a2, a3, a4⟩ := hour i
        rw [a1, a3, a4]
        rw [a2] at he
        have := ev.same i (by rw [hn0]; exact hi) (by subst hS0d; exact he)
        subst hS0d
        exact this
      · obtain ⟨a1, a2, a3, a4⟩ := hoth g hg hmem
        exact ⟨a1, a3, a4⟩
  have hlen : (setG ks (l'.map (renG (sg ks l.length))) l).length = l.length + (l'.length - ks.length) := by rw [setG_len (by simpa using hml)]; simp
  have hatO : ∀ g, g < l.length → g ∉ ks → (setG ks (l'.map (renG (sg ks l.length))) l).getD g default = l.getD g default := fun g h1 h2 => setG_other h1 h2
  have hatI : ∀ i, i < l'.length → (setG ks (l'.map (renG (sg ks l.length))) l).getD (sg ks l.length i) default = renG (sg ks l.length) (l'.getD i default) := fun i hi => by
    rw [setG_at hn hk (by simpa using hi), getD_map_ren hi]
  have hrel' : SRel S' (hl (setG ks (l'.map (renG (sg ks l.length))) l)) := by
    have hcov : ∀ g, g < (setG ks (l'.map (renG (sg ks l.length))) l).length → (g < l.length ∧ g ∉ ks) ∨ ∃ i, i < l'.length ∧ sg ks l.length i = g := fun g hg => by
      by_cases hh : g < l.length ∧ g ∉ ks
      · exact .inl hh
      · exact .inr (sg_cover hml (by rw [← hlen]; exact hg) hh)
    have hfree1 : ∀ i, i < l'.length → (l'.getD i default).has (S1.cap i) → ¬ S1.keep (S1.place i) := fun i hi hh hkk => (hS1.grp i hi).has_ni (by rw [hl_at]; exact hh) (.inr hkk)
    refine ⟨by rw [hn']; exact hlen.symm, fun g hg => ?_, fun g g' hg hg' hne h1 h2 => ?_, fun b hb => ?_⟩
    · rcases hcov g hg with ⟨h1, h2⟩ | ⟨i, hi, rfl⟩
      · have hr := hS.grp g h1
        obtain ⟨a1, a2, a3, a4⟩ := hoth g h1 h2
        rw [hl_at] at hr ⊢
        rw [hatO g h1 h2]
        have hblk : (l.getD g default).has (S.cap g) → S'.w.heap[S.place g]? = S.w.heap[S.place g]? := fun hh => by
          have := ev.kept (S.place g) (.inr (hkS0 _ ((hO _).2 ⟨g, h1, h2, hh, rfl⟩)))
          rw [hw0] at this; rw [hwS']; exact this
        have hnik : (l.getD g default).has (S.cap g) → ¬ (S'.im (S.place g) ∨ S'.keep (S.place g)) := fun hh hik => by
          have ho : O (S.place g) := (hO _).2 ⟨g, h1, h2, hh, rfl⟩
          rcases hik with hik | hik
          · rcases ev.fresh (S.place g) (by subst hS'd; exact hik) with h3 | h3
            · exact hOfree _ ho (.inl (by subst hS0d; exact h3))
            · exact h3 (hkS0 _ ho)
          · subst hS'd; exact hik.2 ho
        refine ⟨by rw [a2]; exact hr.ver, by rw [a4]; exact hr.wid, fun hw hc => ?_, fun hw => by rw [a3]; exact hr.len hw, fun hw he => by rw [a3]; exact hr.full hw he, fun hw he => ?_⟩
        · rw [a3] at hc
          obtain ⟨⟨cells, T, vs, b1, b2, b3, b4⟩, ni⟩ := hr.live hw hc
          rw [a1, a3]
          exact ⟨⟨cells, T, vs, by rw [hblk (.inl ⟨hw, hc⟩)]; exact b1, b2, b3.mono hevo, b4⟩, hnik (.inl ⟨hw, hc⟩)⟩
        · obtain ⟨⟨es, clock, b1, b2⟩, ni⟩ := hr.mlive hw he
          rw [a1]
          exact ⟨⟨es, clock, by rw [hblk (.inr ⟨hw, he⟩)]; exact b1, b2.mono hevo⟩, hnik (.inr ⟨hw, he⟩)⟩
      · have hr := hS1.grp i hi
        obtain ⟨a1, a2, a3, a4⟩ := hour i
        rw [hl_at] at hr ⊢
        rw [hatI i hi]
        have hnik : ¬ (S1.im (S1.place i) ∨ S1.keep (S1.place i)) → ¬ (S'.im (S1.place i) ∨ S'.keep (S1.place i)) := fun hh hik => by
          subst hS'd
          exact hh (hik.imp id fun h3 => h3.1)
        refine ⟨by rw [a2]; exact hr.ver, by rw [a4]; exact hr.wid, fun hw hc => ?_, fun hw => by rw [a3]; have := hr.len hw; simpa [renG, renL_len] using this, fun hw he => by rw [a3]; have := hr.full hw he; simpa [renG, renL_len] using this, fun hw he => ?_⟩
        · rw [a3] at hc
          obtain ⟨⟨cells, T, vs, b1, b2, b3, b4⟩, ni⟩ := hr.live hw hc
          rw [a1, a3]
          exact ⟨⟨cells, T, vs, by rw [hwS']; exact b1, b2, renL_up hwS' hiS' hup _ b3, b4⟩, hnik ni⟩
        · obtain ⟨⟨es, clock, b1, b2⟩, ni⟩ := hr.mlive hw he
          rw [a1]
          exact ⟨⟨es, clock, by rw [hwS']; exact b1, renL_up hwS' hiS' hup _ b2⟩, hnik ni⟩
    · have hmix : ∀ g i, g < l.length → g ∉ ks → i < l'.length → (l.getD g default).has (S.cap g) → (l'.getD i default).has (S1.cap i) → S.place g ≠ S1.place i := fun g i b1 b2 b3 b4 b5 e => by
        have h3 := ev.keep _ (hkS0 _ ((hO _).2 ⟨g, b1, b2, b4, rfl⟩))
        rw [e] at h3
        exact hfree1 i b3 b5 h3
      rw [hl_at] at h1 h2
      rcases hcov g hg with ⟨c1, c2⟩ | ⟨i, hi, rfl⟩ <;> rcases hcov g' hg' with ⟨d1, d2⟩ | ⟨j, hj, rfl⟩
      · rw [hatO g c1 c2, (hoth g c1 c2).2.2.1] at h1
        rw [hatO g' d1 d2, (hoth g' d1 d2).2.2.1] at h2
        rw [(hoth g c1 c2).1, (hoth g' d1 d2).1]
        exact hS.apart g g' c1 d1 hne (by rw [hl_at]; exact h1) (by rw [hl_at]; exact h2)
      · rw [hatO g c1 c2, (hoth g c1 c2).2.2.1] at h1
        rw [hatI j hj, (hour j).2.2.1] at h2
        rw [(hoth g c1 c2).1, (hour j).1]
        exact hmix g j c1 c2 hj h1 h2
      · rw [hatI i hi, (hour i).2.2.1] at h1
        rw [hatO g' d1 d2, (hoth g' d1 d2).2.2.1] at h2
        rw [(hoth g' d1 d2).1, (hour i).1]
        exact fun e => hmix g' i d1 d2 hi h2 h1 e.symm
      · rw [hatI i hi, (hour i).2.2.1] at h1
        rw [hatI j hj, (hour j).2.2.1] at h2
        rw [(hour i).1, (hour j).1]
        exact hS1.apart i j hi hj (fun e => hne (by rw [e])) (by rw [hl_at]; exact h1) (by rw [hl_at]; exact h2)
    · rw [hwS']
      refine hS1.im b ?_
      subst hS'd
      exact hb.imp id fun h3 => h3.1
  exact ⟨v, S', _, _, he, by rw [hwS']; exact hw1, hevo, hrel', ren_up hwS' hiS' hup y hv, hK'⟩
mutual
theorem ren_pure (σ : Nat → Nat) : ∀ (x : AV), x.pure = true → ren σ x = x
  | .any, _ => rfl
  | .bool _, _ => rfl
  | .int _ _, _ => rfl
  | .str _, _ => rfl
  | .nilS, _ => rfl
  | .nul, _ => rfl
  | .emp, _ => rfl
  | .lst _ _, _ => rfl
  | .full _ _, _ => rfl
  | .cptr _, _ => rfl
  | .nilP, _ => rfl
  | .nilF, _ => rfl
  | .yld _, _ => rfl
  | .map _ _, h => by cases h
  | .ref _ _ _ _, h => by cases h
  | .ptr _ _ _ _, h => by cases h
  | .agg cs, h => by rw [ren, renL_pure σ cs h]
  | .tup cs, h => by rw [ren, renL_pure σ cs h]
  | .fn f cs, h => by rw [ren, renL_pure σ cs h]
theorem renL_pure (σ : Nat → Nat) : ∀ (xs : List AV), pureL xs = true → renL σ xs = xs
  | [], _ => rfl
  | x :: xs, h => by
    simp only [pureL, Bool.and_eq_true] at h
    rw [renL, ren_pure σ x h.1, renL_pure σ xs h.2]
end
mutual
theorem lt_pure (m : Nat) : ∀ (x : AV), x.pure = true → ltV m x
  | .any, _ => trivial
  | .bool _, _ => trivial
  | .int _ _, _ => trivial
  | .str _, _ => trivial
  | .nilS, _ => trivial
  | .nul, _ => trivial
  | .emp, _ => trivial
  | .lst _ _, _ => trivial
  | .full _ _, _ => trivial
  | .cptr _, _ => trivial
  | .nilP, _ => trivial
  | .nilF, _ => trivial
  | .yld _, _ => trivial
  | .map _ _, h => by cases h
  | .ref _ _ _ _, h => by cases h
  | .ptr _ _ _ _, h => by cases h
  | .agg cs, h => ltL_pure m cs h
  | .tup cs, h => ltL_pure m cs h
  | .fn f cs, h => ltL_pure m cs h
theorem ltL_pure (m : Nat) : ∀ (xs : List AV), pureL xs = true → ltL m xs
  | [], _ => trivial
  | x :: xs, h => by
    simp only [pureL, Bool.and_eq_true] at h
    exact ⟨lt_pure m x h.1, ltL_pure m xs h.2⟩
end
def renM (σ : Nat → Nat) (xs : List AV) : List AV := renL σ xs
def ltM (m : Nat) (xs : List AV) : Prop := ltL m xs
section
variable {ks : List Nat} {N i m g k v o n w f : Nat} {x : AV} {xs cs : List AV} {e : Bool} {G : Grp} {r l : List Grp}
theorem renL_eq : renL (sg ks N) xs = bif pureL xs then xs else renM (sg ks N) xs := by
  cases h : pureL xs
  · rfl
  · exact renL_pure _ xs h
theorem ltL_eq : ltL m xs = ifB (pureL xs) (ltM m xs) := propext ⟨fun h => .inr h, fun h => h.elim (ltL_pure m xs) id⟩
theorem renM_nil : renM (sg ks N) [] = [] := rfl
theorem renM_cons : renM (sg ks N) (x :: xs) = ren (sg ks N) x :: renM (sg ks N) xs := rfl
theorem ltM_nil : ltM m [] = True := rfl
theorem ltM_cons : ltM m (x :: xs) = (ltV m x ∧ ltM m xs) := rfl
theorem re_any : ren (sg ks N) .any = .any := rfl
theorem re_bool {b : Bool} : ren (sg ks N) (.bool b) = .bool b := rfl
theorem re_int {q : IntKind} {z : Int} : ren (sg ks N) (.int q z) = .int q z := rfl
theorem re_str {s : List UInt8} : ren (sg ks N) (.str s) = .str s := rfl
theorem re_nilS : ren (sg ks N) .nilS = .nilS := rfl
theorem re_nul : ren (sg ks N) .nul = .nul := rfl
theorem re_emp : ren (sg ks N) .emp = .emp := rfl
theorem re_nilP : ren (sg ks N) .nilP = .nilP := rfl
theorem re_nilF : ren (sg ks N) .nilF = .nilF := rfl
theorem re_lst : ren (sg ks N) (.lst w xs) = .lst w xs := rfl
theorem re_full : ren (sg ks N) (.full w xs) = .full w xs := rfl
theorem re_cptr : ren (sg ks N) (.cptr x) = .cptr x := rfl
theorem re_ref : ren (sg ks N) (.ref g v o n) = .ref (sg ks N g) v o n := rfl
theorem re_ptr : ren (sg ks N) (.ptr g v i o) = .ptr (sg ks N g) v i o := rfl
theorem re_map : ren (sg ks N) (.map g v) = .map (sg ks N g) v := rfl
theorem re_agg : ren (sg ks N) (.agg cs) = .agg (renL (sg ks N) cs) := rfl
theorem re_tup : ren (sg ks N) (.tup cs) = .tup (renL (sg ks N) cs) := rfl
theorem re_fn : ren (sg ks N) (.fn f cs) = .fn f (renL (sg ks N) cs) := rfl
theorem lv_any : ltV m .any = True := rfl
theorem lv_bool {b : Bool} : ltV m (.bool b) = True := rfl
theorem lv_int {q : IntKind} {z : Int} : ltV m (.int q z) = True := rfl
theorem lv_str {s : List UInt8} : ltV m (.str s) = True := rfl
theorem lv_nilS : ltV m .nilS = True := rfl
theorem lv_nul : ltV m .nul = True := rfl
theorem lv_emp : ltV m .emp = True := rfl
theorem lv_nilP : ltV m .nilP = True := rfl
theorem lv_nilF : ltV m .nilF = True := rfl
theorem lv_lst : ltV m (.lst w xs) = True := rfl
theorem lv_full : ltV m (.full w xs) = True := rfl
theorem lv_cptr : ltV m (.cptr x) = True := rfl
theorem lv_ref : ltV m (.ref g v o n) = (g < m) := rfl
theorem lv_ptr : ltV m (.ptr g v i o) = (g < m) := rfl
theorem lv_map : ltV m (.map g v) = (g < m) := rfl
theorem lv_agg : ltV m (.agg cs) = ltL m cs := rfl
theorem lv_tup : ltV m (.tup cs) = ltL m cs := rfl
theorem lv_fn : ltV m (.fn f cs) = ltL m cs := rfl
theorem sg_eq : sg ks N i = if i < ks.length then ks.getD i 0 else N + (i - ks.length) := rfl
theorem reG {σ : Nat → Nat} : renG σ ⟨w, v, e, xs⟩ = ⟨w, v, e, renL σ xs⟩ := rfl
theorem sG_nil : setG [] r l = l ++ r := rfl
theorem sG_cons : setG (k :: ks) (G :: r) l = setG ks r (l.set k G) := rfl
end
attribute [push_cast] renL_eq ltL_eq renM_nil renM_cons ltM_nil ltM_cons re_any re_bool re_int re_str re_nilS re_nul re_emp re_nilP re_nilF re_lst re_full re_cptr re_ref re_ptr re_map re_agg re_tup re_fn
attribute [push_cast] lv_any lv_bool lv_int lv_str lv_nilS lv_nul lv_emp lv_nilP lv_nilF lv_lst lv_full lv_cptr lv_ref lv_ptr lv_map lv_agg lv_tup lv_fn sg_eq reG sG_nil sG_cons List.set_cons_zero List.set_cons_succ List.getD_cons_zero List.getD_cons_succ
theorem at_call {P : Program} {f : Nat} {xs0 xs : List AV} {l0 l : List Grp} {K0 K : AV → AHeap → Prop} (ks : List Nat) (h : ACalls P f xs0 (hl l0) K0) (hn : ks.Nodup) (hk : ∀ k ∈ ks, k < l.length) (hxs : renL (sg ks l.length) xs0 = xs)
    (hl0 : l0.map (renG (sg ks l.length)) = ks.map (fun k => l.getD k default)) (hlt : ltL ks.length xs0) (hltG : ∀ G ∈ l0, ltL ks.length G.xs)
    (hK : ∀ y H', K0 y H' → ∃ l', H' = hl l' ∧ ks.length ≤ l'.length ∧ @nx (ren (sg ks l.length) y) (hl (setG ks (l'.map (renG (sg ks l.length))) l)) ⟨K⟩) : @CallK P f xs (hl l) ⟨K⟩ :=
  acalls_at ks h hxs hl0 hn hk hlt hltG hK
end Go.Proofs.Yticodgjinajkpaa.Abs
set_option linter.unusedSimpArgs false
set_option linter.unusedVariables false
namespace Go.Proofs.Yticodgjinajkpaa.Abs
section
variable {P : Program} {n b : Nat} {env : Env} {H : AHeap}
theorem liveLe_val {S : MS} {l2 : List Grp} {H1 : AHeap} {ks : List Nat} {val : Nat → Value} (hS : SRel S (hl l2)) (hF : ∀ i, VRel S (rnV b H1 ks 6 (env i)) (val i)) : ∀ {live : List (Nat × AV)}, liveLe l2 H1 b ks env live → ∀ i, VRel S (mkEnv live i) (val i)
  | [], _, i => trivial
  | (t, y) :: r, h, i => by
    show VRel S (if i = t then y else mkEnv r i) _
    split
    · rename_i hit
      subst hit
      exact leS_ok (.inl hS) _ h.1 (hF i)
    · exact liveLe_val hS hF h.2 i
theorem virt_val : ∀ (ws : List Nat) {S : MS} {l : List Grp} {val : Nat → Value}, (∀ w ∈ ws, 0 < w) → SRel S (hl l) → (∀ i, VRel S (env i) (val i)) → ∃ S', S'.w = S.w ∧ Evo S S' ∧ SRel S' (hl (l ++ ws.map virtG)) ∧ ∀ i, VRel S' (env i) (val i)
  | [], S, l, val, _, hS, hF => ⟨S, rfl, .refl S, by simpa using hS, hF⟩
  | w :: ws, S, l, val, hw, hS, hF => by
    have h1 := hS.virt w (hw w (by simp))
    rw [hl_push] at h1
    obtain ⟨S', e1, e2, e3, e4⟩ := virt_val ws (S := S.virt w) (l := l ++ [virtG w]) (fun w' h' => hw w' (by simp [h'])) h1 (fun j => VRel.mono (Evo.virt _) _ (hF j))
    exact ⟨S', e1, (Evo.virt _).trans e2, by simpa using e3, e4⟩
theorem head_val {srcs : List Src} {live : List (Nat × AV)} {heap : List Grp} {S : MS} {val : Nat → Value} (hh : Head b env H srcs live heap) (hbS : b ≤ S.n) (hS : SRel S H) (hF : ∀ i, VRel S (env i) (val i)) :
    ∃ S', S'.w = S.w ∧ BEvo b S S' ∧ SRel S' (hl heap) ∧ ∀ i, VRel S' (mkEnv live i) (val i) := by
  obtain ⟨hb, hh⟩ := hh
  have hgn : H.groups.length = H.n := by simp [AHeap.groups]
  have hS1 : SRel S (hl H.groups) := hS.congr hgn (fun g hg => by
    show H.groups.getD g default = _
    simp [AHeap.groups, List.getD, hg])
  obtain ⟨S2, e1, e2, e3, e4⟩ := virt_val (srcKs H.n srcs).2 (allPos_mem hh.1) hS1 hF
  replace hh := hh.2
  generalize hl1 : H.groups ++ (srcKs H.n srcs).2.map virtG = l1 at *
  obtain ⟨h1, h2, h3, h4⟩ := hh
  have hb1 : b ≤ l1.length := by rw [← hl1, List.length_append]; omega
  have hbS2 : b ≤ S2.n := Nat.le_trans hbS e2.n
  obtain ⟨k1, k2⟩ := repack_hl (ks := (srcKs H.n srcs).1) hb1
  have hev := repack_evo (ks := (srcKs H.n srcs).1) e3 hbS2
  have hrel := (repack_rel (ks := (srcKs H.n srcs).1) 6 e3 hb1 (fun k hk => allB_mem h1 k hk) (diffr_nodup h2)).congr k1 k2
  exact ⟨S2.repack b (hl l1) (srcKs H.n srcs).1, e1, (e2.down hbS).trans hev, grpsLe_rel hrel h4, liveLe_val hrel (fun j => rn_ok e3 6 (e4 j)) h3⟩
def Drop (b : Nat) (y : AV) (H : AHeap) [K : HK] : Prop := ∃ srcs y' heap, Head b (mkEnv [(0, y)]) H srcs [(0, y')] heap ∧ K.f y' (hl heap)
theorem drop_i {y : AV} {K : AV → AHeap → Prop} (srcs : List Src) (y' : AV) (heap : List Grp) (h1 : Head b (mkEnv [(0, y)]) H srcs [(0, y')] heap) (h2 : K y' (hl heap)) : @Drop b y H ⟨K⟩ := ⟨srcs, y', heap, h1, h2⟩
theorem acalls_drop {f : Nat} {xs : List AV} {l : List Grp} {K : AV → AHeap → Prop} (h : ACalls P f xs (hl l) (fun y H' => @Drop l.length y H' ⟨K⟩)) : ACalls P f xs (hl l) K :=
  ⟨h.1, fun S cargs hS hx => (h.2 S cargs hS hx).mono fun e w' hh => by
    obtain ⟨v, S1, y, H', he, hw, ev, hS1, hv, srcs, y', heap, h1, h2⟩ := hh
    have hn : S.n = l.length := hS.n
    obtain ⟨S2, q1, q2, q3, q4⟩ := head_val (S := S1) (val := fun i => if i = 0 then v else undef) h1 (by rw [← hn]; exact ev.n) hS1 (fun i => by
      show VRel S1 (if i = 0 then y else .any) _
      split
      · exact hv
      · trivial)
    have hb := (ev.down (b := l.length) (by omega)).trans q2
    exact ⟨v, S2, y', _, he, q1.trans hw, ⟨hb.base, hb.os, hb.tape, hb.output, hb.size, hb.kept, hb.im, hb.keep, hb.fresh, by rw [hn]; exact hb.n, fun g hg => hb.cur g (by omega), fun g hg => hb.same g (by omega)⟩, q3, q4 0, h2⟩⟩
theorem acalls_v {f m np b : Nat} {xs : List AV} {l : List Grp} {K : AV → AHeap → Prop} {res : List ARes} {B : AC} (hf : compFn P f xs.length = some ⟨m, np, res, B⟩) (hb : b = l.length) (h : W P m b B (entry xs) (hl l) (Ret P res fun y H' => @Drop b y H' ⟨K⟩)) : ACalls P f xs (hl l) K := by
  subst hb
  exact acalls_drop (acalls hf (W_T h))
end
theorem setL_nil (env : Env) : setL env [] [] = env := rfl
theorem setL_cons (env : Env) (p : Nat) (ps : List Nat) (x : AV) (r : List AV) : setL env (p :: ps) (x :: r) = setL (env.put (some p) x) ps r := rfl
attribute [push_cast] setL_nil setL_cons
end Go.Proofs.Yticodgjinajkpaa.Abs
