/-
  Parts of the proof that the law holds whatever the input; without conditions.
-/
import Derived.Test.YtbcjoeadpjfcfaaGreatProg
import Derived.KernelRfl
import Derived.Test.YtbcjoeadpjfcfaaGreatRQ2
import Derived.Test.YtbcjoeadpjfcfaaGreatRQ3
set_option linter.unusedSimpArgs false
set_option linter.unusedVariables false
set_option linter.unusedSectionVars false
set_option maxRecDepth 100000
namespace Go.Proofs.YtbcjoeadpjfcfaaGreat
open Abs
abbrev s_(n:Nat):AArg:=.slot n
abbrev k_(x:AV):AArg:=.const x
abbrev h_(a:List AArg)(k:AK):AOp:=⟨none,a,none,k⟩
abbrev m_(d:Nat)(a:List AArg)(k:AK):AOp:=⟨some d,a,none,k⟩
abbrev g_(d g:Nat)(w:Bool)(a:List AArg)(k:AK):AOp:=⟨some d,a,some (g,w),k⟩
abbrev ld:AK:=.load false 1
abbrev ln:AK:=.len false
abbrev l6:AK:=.load true 6
abbrev nt:AK:=.un .not
abbrev st:AK:=.store 1
abbrev f0_:AK:=.faddr false 0 1
abbrev f1_:AK:=.faddr false 1 1
abbrev f2_:AK:=.faddr false 2 1
abbrev f3_:AK:=.faddr false 3 1
abbrev f4_:AK:=.faddr false 4 1
abbrev f5_:AK:=.faddr false 5 1
abbrev bad_:AK:=.bin .add
abbrev bls_:AK:=.bin .lss
abbrev beq_:AK:=.bin .eql
abbrev bgt_:AK:=.bin .gtr
abbrev bsu_:AK:=.bin .sub
abbrev ble_:AK:=.bin .leq
abbrev bne_:AK:=.bin .neq
abbrev bge_:AK:=.bin .geq
abbrev a1_:AK:=.iaddr 1
abbrev a2_:AK:=.iaddr 2
abbrev a3_:AK:=.iaddr 3
abbrev a4_:AK:=.iaddr 4
abbrev a5_:AK:=.iaddr 5
abbrev a6_:AK:=.iaddr 6
abbrev v_(d a:Nat):AOp:=⟨some d,[.slot a],none,.mv⟩
abbrev z_(d:Nat):AOp:=⟨some d,[.const (.int .i64 0)],none,.mv⟩
abbrev i1_(d a:Nat):AOp:=⟨some d,[.slot a,.const (.int .i64 1)],none,.bin .add⟩
abbrev bf_(d:Nat):AOp:=⟨some d,[.const (.bool false)],none,.mv⟩
abbrev bt_(d:Nat):AOp:=⟨some d,[.const (.bool true)],none,.mv⟩
abbrev ns_(d:Nat):AOp:=⟨some d,[.const .nilS],none,.mv⟩
abbrev ex_(s e:Nat):AC:=.cond (.slot s) .skip (.exit e)
abbrev i_(s:Nat)(a b:AC):AC:=.cond (.slot s) a b
abbrev sr_(l:List AOp)(c:AC):AC:=.seq (.reg l) c
def Dh:AC:=(sr_ [o1 3 0 .box,bf_ 6] (.seq (sr_ [o1 14 3 l6,v_ 15 1,k2 16 23 14 15] (i_ 16 (sr_ [k0 17 24,v_ 6 17] .ret) .skip)) (sr_ [o1 18 3 l6,v_ 19 1,k2 20 25 18 19,v_ 7 20] (.seq (sr_ [v_ 21 7,c2 22 21 (.int .i64 0) bne_,v_ 23 22,g_ 24 23 false [s_ 2] .mv,g_ 25 23 false [s_ 24,k_ (.int .i64 1)] bls_,m_ 26 [s_ 23,k_ (.bool true),s_ 25] .pick] (i_ 26 (sr_ [o1 28 3 l6,v_ 29 1,v_ 30 2,k3 31 26 28 29 30,v_ 27 31,o1 32 27 (.extract 0),o1 33 27 (.extract 1),v_ 8 32,v_ 9 33] (sr_ [v_ 34 8,o1 35 34 ln,c2 36 35 (.int .i64 0) beq_,v_ 37 36,g1 38 37 9 .mv,g1 39 37 7 .mv,g2 40 37 38 39 beq_,g1 41 37 40 .mv,g_ 42 41 false [s_ 7] .mv,g_ 43 41 false [s_ 42,k_ (.int .i64 0)] beq_,g_ 44 41 false [s_ 43] .mv,g1 45 44 9 .mv,g_ 46 44 true [s_ 45,k_ (.int .i64 1)] beq_,g_ 47 41 false [s_ 44,s_ 46,k_ (.bool false)] .pick,g_ 48 37 true [s_ 41,k_ (.bool true),s_ 47] .pick,m_ 49 [s_ 37,s_ 48,k_ (.bool false)] .pick,v_ 50 49,g_ 51 50 true [k_ (.fn 24 [])] .call,m_ 52 [s_ 50,s_ 51,k_ (.bool false)] .pick,v_ 6 52] .ret)) .skip)) (sr_ [o1 54 3 l6,v_ 55 1,k2 56 27 54 55,v_ 53 56,o1 57 53 (.extract 0),o1 58 53 (.extract 1),v_ 10 57,v_ 11 58] (.seq (sr_ [v_ 59 11,o1 60 59 nt] (i_ 60 (sr_ [k0 61 24,v_ 6 61] .ret) .skip)) (sr_ [o1 63 3 l6,v_ 64 1,v_ 65 2,k3 66 26 63 64 65,v_ 62 66,o1 67 62 (.extract 0),o1 68 62 (.extract 1),v_ 12 67,v_ 13 68] (.seq (sr_ [v_ 69 10,o1 70 69 ln,v_ 71 2,o2 72 70 71 bgt_] (i_ 72 (sr_ [v_ 73 13,c2 74 73 (.int .i64 5) beq_,v_ 75 74,g1 76 75 12 .mv,g1 77 75 76 ln,g_ 78 75 true [s_ 77,k_ (.int .i64 0)] beq_,m_ 79 [s_ 75,s_ 78,k_ (.bool false)] .pick,v_ 80 79,g_ 81 80 true [k_ (.fn 24 [])] .call,m_ 82 [s_ 80,s_ 81,k_ (.bool false)] .pick,v_ 6 82] .ret) .skip)) (sr_ [v_ 83 13,c2 84 83 (.int .i64 0) beq_,v_ 85 84,g1 86 85 12 .mv,g1 87 85 10 .mv,g_ 88 85 true [k_ (.fn 28 []),s_ 86,s_ 87] .call,m_ 89 [s_ 85,s_ 88,k_ (.bool false)] .pick,v_ 90 89,g_ 91 90 true [k_ (.fn 24 [])] .call,m_ 92 [s_ 90,s_ 91,k_ (.bool false)] .pick,v_ 6 92] .ret)))))))))
theorem DV:AS Tryz.prog 5 3=some ⟨93,3,[(.slot 6)],Dh⟩:=by kernel_rfl
def DW:AC:=(sr_ [o1 2 0 .box,bf_ 4] (.seq (sr_ [o1 14 2 l6,v_ 15 1,k2 16 23 14 15] (i_ 16 (sr_ [k0 17 24,v_ 4 17] .ret) .skip)) (sr_ [o1 18 2 l6,v_ 19 1,k2 20 25 18 19,v_ 5 20] (sr_ [o1 22 2 l6,v_ 23 1,k2 24 33 22 23,v_ 21 24,o1 25 21 (.extract 0),o1 26 21 (.extract 1),v_ 6 25,v_ 7 26] (sr_ [o1 28 2 l6,v_ 29 1,k2 30 34 28 29,v_ 27 30,o1 31 27 (.extract 0),o1 32 27 (.extract 1),o1 33 27 (.extract 2),v_ 8 31,v_ 9 32,v_ 10 33] (.seq (sr_ [v_ 34 5,c2 35 34 (.int .i64 0) bne_] (i_ 35 (sr_ [v_ 36 6,o1 37 36 nt,v_ 38 37,g1 39 38 7 .mv,g1 40 38 5 .mv,g2 41 38 39 40 beq_,m_ 42 [s_ 38,s_ 41,k_ (.bool false)] .pick,v_ 43 42,g1 44 43 8 .mv,g1 45 43 44 ln,g_ 46 43 true [s_ 45,k_ (.int .i64 0)] beq_,m_ 47 [s_ 43,s_ 46,k_ (.bool false)] .pick,v_ 48 47,g1 49 48 9 .mv,g1 50 48 49 nt,m_ 51 [s_ 48,s_ 50,k_ (.bool false)] .pick,v_ 52 51,g1 53 52 10 .mv,g1 54 52 5 .mv,g2 55 52 53 54 beq_,m_ 56 [s_ 52,s_ 55,k_ (.bool false)] .pick,v_ 57 56,g_ 58 57 true [k_ (.fn 24 [])] .call,m_ 59 [s_ 57,s_ 58,k_ (.bool false)] .pick,v_ 4 59] .ret) .skip)) (sr_ [o1 61 2 l6,v_ 62 1,k2 63 27 61 62,v_ 60 63,o1 64 60 (.extract 0),o1 65 60 (.extract 1),v_ 11 64,v_ 12 65] (.seq (sr_ [v_ 66 12,o1 67 66 nt] (i_ 67 (sr_ [k0 68 24,v_ 4 68] .ret) .skip)) (sr_ [v_ 69 11,o1 70 69 ln,c2 71 70 (.int .i64 0) bgt_,v_ 13 71] (sr_ [v_ 72 7,c2 73 72 (.int .i64 0) beq_,v_ 74 73,g1 75 74 10 .mv,g_ 76 74 true [s_ 75,k_ (.int .i64 0)] beq_,m_ 77 [s_ 74,s_ 76,k_ (.bool false)] .pick,v_ 78 77,g1 79 78 6 .mv,g1 80 78 13 .mv,g2 81 78 79 80 (.eqb false),m_ 82 [s_ 78,s_ 81,k_ (.bool false)] .pick,v_ 83 82,g1 84 83 9 .mv,g1 85 83 13 .mv,g2 86 83 84 85 (.eqb false),m_ 87 [s_ 83,s_ 86,k_ (.bool false)] .pick,v_ 88 87,g1 89 88 13 .mv,g1 90 88 89 .mv,g1 91 90 8 .mv,g1 92 90 11 .mv,g_ 93 90 true [s_ 92,k_ (.int .i64 0)] a1_,g1 94 90 93 ld,g_ 95 90 true [k_ (.fn 32 []),s_ 91,s_ 94] .call,g_ 96 88 true [s_ 90,s_ 95,k_ (.bool false)] .pick,g1 97 88 96 .mv,g_ 98 97 false [s_ 13] .mv,g_ 99 97 false [s_ 98] nt,g_ 100 97 false [s_ 99] .mv,g1 101 100 8 .mv,g1 102 100 101 ln,g_ 103 100 true [s_ 102,k_ (.int .i64 0)] beq_,g_ 104 97 false [s_ 100,s_ 103,k_ (.bool false)] .pick,g_ 105 88 true [s_ 97,k_ (.bool true),s_ 104] .pick,m_ 106 [s_ 88,s_ 105,k_ (.bool false)] .pick,v_ 107 106,g_ 108 107 true [k_ (.fn 24 [])] .call,m_ 109 [s_ 107,s_ 108,k_ (.bool false)] .pick,v_ 4 109] .ret))))))))))
theorem E9:AS Tryz.prog 8 2=some ⟨110,2,[(.slot 4)],DW⟩:=by kernel_rfl
def DX:AC:=(sr_ [o1 3 0 .box,bf_ 6] (.seq (sr_ [o1 12 3 l6,v_ 13 1,k2 14 23 12 13,v_ 15 14,g_ 16 15 false [s_ 2] .mv,g_ 17 15 false [s_ 16] ln,g_ 18 15 false [s_ 17,k_ (.int .i64 200)] bgt_,m_ 19 [s_ 15,k_ (.bool true),s_ 18] .pick] (i_ 19 (sr_ [k0 20 24,v_ 6 20] .ret) .skip)) (sr_ [o1 21 3 l6,v_ 22 1,k2 23 25 21 22,v_ 7 23] (sr_ [o1 25 3 l6,v_ 26 1,v_ 27 2,k3 28 37 25 26 27,v_ 24 28,o1 29 24 (.extract 0),o1 30 24 (.extract 1),v_ 8 29,v_ 9 30] (.seq (sr_ [v_ 31 7,c2 32 31 (.int .i64 0) bne_] (i_ 32 (sr_ [v_ 33 8,o1 34 33 nt,v_ 35 34,g1 36 35 9 .mv,g1 37 35 7 .mv,g2 38 35 36 37 beq_,m_ 39 [s_ 35,s_ 38,k_ (.bool false)] .pick,v_ 40 39,g_ 41 40 true [k_ (.fn 24 [])] .call,m_ 42 [s_ 40,s_ 41,k_ (.bool false)] .pick,v_ 6 42] .ret) .skip)) (sr_ [o1 44 3 l6,v_ 45 1,k2 46 27 44 45,v_ 43 46,o1 47 43 (.extract 0),o1 48 43 (.extract 1),v_ 10 47,v_ 11 48] (sr_ [v_ 49 11,o1 50 49 nt,v_ 51 50,g_ 52 51 false [s_ 9] .mv,g_ 53 51 false [s_ 52,k_ (.int .i64 0)] beq_,g_ 54 51 false [s_ 53] .mv,g1 55 54 8 .mv,g1 56 54 10 .mv,g1 57 54 2 .mv,g_ 58 54 true [k_ (.fn 38 []),s_ 56,s_ 57] .call,g2 59 54 55 58 (.eqb false),g_ 60 51 false [s_ 54,s_ 59,k_ (.bool false)] .pick,m_ 61 [s_ 51,k_ (.bool true),s_ 60] .pick,v_ 62 61,g_ 63 62 true [k_ (.fn 24 [])] .call,m_ 64 [s_ 62,s_ 63,k_ (.bool false)] .pick,v_ 6 64] .ret)))))))
theorem EA:AS Tryz.prog 10 3=some ⟨65,3,[(.slot 6)],DX⟩:=by kernel_rfl
def Ld:AC:=(sr_ [o1 1 0 .box,bf_ 2] (sr_ [z_ 3] (.seq (sr_ [o1 6 1 f4_,o1 7 6 ld,o1 8 7 ln,c2 9 8 (.int .i64 80) bgt_,v_ 10 9,g_ 11 10 false [s_ 1] f5_,g_ 12 10 false [s_ 11] ld,g_ 13 10 false [s_ 12] ln,g_ 14 10 false [s_ 13,k_ (.int .i64 80)] bgt_,m_ 15 [s_ 10,k_ (.bool true),s_ 14] .pick] (i_ 15 (sr_ [bf_ 2] .ret) .skip)) (.seq (sr_ [z_ 4] (.block 0 (.loop (.seq (sr_ [v_ 16 4,o1 17 1 f4_,o1 18 17 ld,o1 19 18 ln,o2 20 16 19 bls_] (ex_ 20 0)) (.seq (.block 1 (.dreg [v_ 23 3,o1 24 1 f4_,o1 25 24 ld,v_ 26 4,o2 27 25 26 a5_,o1 28 27 f2_,o1 29 28 ld,o1 30 1 f4_,o1 31 30 ld,v_ 32 4,o2 33 31 32 a5_,o1 34 33 f4_,o1 35 34 ld,k2 36 43 29 35,o2 37 23 36 bad_,v_ 3 37])) (.reg [v_ 21 4,i1_ 22 21,v_ 4 22])))))) (.seq (sr_ [z_ 5] (.block 2 (.loop (.seq (sr_ [v_ 38 5,o1 39 1 f5_,o1 40 39 ld,o1 41 40 ln,o2 42 38 41 bls_] (ex_ 42 2)) (.seq (.block 3 (.dreg [v_ 45 3,o1 46 1 f5_,o1 47 46 ld,v_ 48 5,o2 49 47 48 a3_,o1 50 49 f1_,o1 51 50 ld,o1 52 1 f5_,o1 53 52 ld,v_ 54 5,o2 55 53 54 a3_,o1 56 55 f2_,o1 57 56 ld,k2 58 43 51 57,o2 59 45 58 bad_,v_ 3 59])) (.reg [v_ 43 5,i1_ 44 43,v_ 5 44])))))) (sr_ [v_ 60 3,c2 61 60 (.int .i64 1500) ble_,v_ 2 61] .ret))))))
theorem Sa:AS Tryz.prog 15 1=some ⟨62,1,[(.slot 2)],Ld⟩:=by kernel_rfl
def Le:AC:=(sr_ [o1 1 0 .box,bf_ 2] (sr_ [o1 6 1 l6,k1 7 45 6,v_ 5 7,o1 8 5 (.extract 0),o1 9 5 (.extract 1),v_ 3 8,v_ 4 9] (sr_ [v_ 10 3,c2 11 10 (.int .i64 0) beq_,v_ 2 11] .ret)))
theorem Sb:AS Tryz.prog 18 1=some ⟨12,1,[(.slot 2)],Le⟩:=by kernel_rfl
def Lf:AC:=(sr_ [o1 2 0 .box,bf_ 4] (sr_ [o1 5 2 l6,k1 6 15 5,o1 7 6 nt,v_ 8 7,g_ 9 8 false [s_ 1] .mv,g_ 10 8 false [s_ 9] ln,g_ 11 8 false [s_ 10,k_ (.int .i64 12)] bgt_,g_ 12 8 false [s_ 11] .mv,g1 13 12 1 .mv,g1 14 12 13 ln,g_ 15 12 true [s_ 14,k_ (.int .i64 1024)] ble_,g_ 16 8 false [s_ 12,s_ 15,k_ (.bool false)] .pick,m_ 17 [s_ 8,k_ (.bool true),s_ 16] .pick,v_ 4 17] .ret))
theorem Sc:AS Tryz.prog 23 2=some ⟨18,2,[(.slot 4)],Lf⟩:=by kernel_rfl
def Lg:AC:=(sr_ [bf_ 0] (sr_ [m_ 7 [k_ (.int .i64 97),k_ (.int .i64 97)] (.build [(.int .i64 0),(.int .i64 0)] [(0,1),(1,1)] [0,1]),o1 8 7 (.bslice 2 1 (.agg [(.int .i64 0),(.int .i64 0)]) [0]),o1 9 8 (.bslice 1 1 .nilS [0]),v_ 1 9] (sr_ [o0 10 (.build [(.int .i64 0),.nilS,.nilS] [(0,1),(1,1),(2,1)] []),o1 11 10 (.bslice 3 1 (.agg [(.int .i64 0),.nilS,.nilS]) [0]),v_ 12 1,m_ 13 [k_ (.int .i64 21),k_ (.int .i64 120)] (.build [(.int .i64 0),(.int .i64 0),(.int .i64 0),(.int .i64 0),(.int .i64 0),.nilS] [(0,1),(1,1),(2,1),(3,1),(4,1),(5,1)] [2,4]),o1 14 13 (.bslice 6 1 (.agg [(.int .i64 0),(.int .i64 0),(.int .i64 0),(.int .i64 0),(.int .i64 0),.nilS]) [0]),m_ 15 [s_ 12,k_ (.int .i64 1),s_ 14] (.build [(.int .i64 0),(.int .i64 0),.nilS,(.int .i64 0),.nilS] [(0,1),(1,1),(2,1),(3,1),(4,1)] [2,3,4]),v_ 16 1,m_ 17 [k_ (.int .i64 21),k_ (.int .i64 121)] (.build [(.int .i64 0),(.int .i64 0),(.int .i64 0),(.int .i64 0),(.int .i64 0),.nilS] [(0,1),(1,1),(2,1),(3,1),(4,1),(5,1)] [2,4]),o1 18 17 (.bslice 6 1 (.agg [(.int .i64 0),(.int .i64 0),(.int .i64 0),(.int .i64 0),(.int .i64 0),.nilS]) [0]),m_ 19 [s_ 16,k_ (.int .i64 1),s_ 18] (.build [(.int .i64 0),(.int .i64 0),.nilS,(.int .i64 0),.nilS] [(0,1),(1,1),(2,1),(3,1),(4,1)] [2,3,4]),o2 20 15 19 (.bslice 5 2 (.agg [(.int .i64 0),(.int .i64 0),.nilS,(.int .i64 0),.nilS]) [0,1]),m_ 21 [k_ (.int .i64 1),k_ (.int .i64 1),k_ (.int .i64 1),s_ 11,s_ 20] (.build [(.int .i64 0),(.int .i64 0),(.int .i64 0),(.int .i64 0),.nilS,.nilS] [(0,1),(1,1),(2,1),(3,1),(4,1),(5,1)] [0,1,2,5,4]),o0 2 (.alloc (.agg [(.int .i64 0),(.int .i64 0),(.int .i64 0),(.int .i64 0),.nilS,.nilS]) 6),n2 2 21 (.store 6)] (sr_ [o1 23 2 l6,m_ 24 [k_ (.int .i32 97),k_ (.int .i32 97)] (.bslice 1 2 (.int .i32 0) [0,1]),m_ 25 [k_ (.fn 26 []),s_ 23,s_ 24,k_ (.int .i64 4)] .call,v_ 22 25,o1 26 22 (.extract 0),o1 27 22 (.extract 1),v_ 3 26,v_ 4 27] (sr_ [o1 29 2 l6,m_ 30 [k_ (.int .i32 97),k_ (.int .i32 97)] (.bslice 1 2 (.int .i32 0) [0,1]),m_ 31 [k_ (.fn 26 []),s_ 29,s_ 30,k_ (.int .i64 3)] .call,v_ 28 31,o1 32 28 (.extract 0),o1 33 28 (.extract 1),v_ 5 32,v_ 6 33] (sr_ [v_ 34 4,c2 35 34 (.int .i64 0) beq_,v_ 36 35,g1 37 36 3 .mv,g1 38 36 37 ln,g_ 39 36 true [s_ 38,k_ (.int .i64 4)] beq_,m_ 40 [s_ 36,s_ 39,k_ (.bool false)] .pick,v_ 41 40,g1 42 41 3 .mv,g_ 43 41 true [s_ 42,k_ (.int .i64 1)] a1_,g1 44 41 43 ld,g1 45 41 44 .runStr,g_ 46 41 true [s_ 45,k_ (.str [120,121])] beq_,m_ 47 [s_ 41,s_ 46,k_ (.bool false)] .pick,v_ 48 47,g1 49 48 6 .mv,g_ 50 48 true [s_ 49,k_ (.int .i64 5)] beq_,m_ 51 [s_ 48,s_ 50,k_ (.bool false)] .pick,v_ 0 51] .ret))))))
theorem Sd:AS Tryz.prog 24 0=some ⟨52,0,[(.slot 0)],Lg⟩:=by kernel_rfl
def Lh:AC:=(sr_ [o1 2 0 .box,z_ 4] (.seq (sr_ [o1 5 2 l6,k1 6 18 5,o1 7 6 nt] (i_ 7 (sr_ [c1 4 (.int .i64 2) .mv] .ret) .skip)) (.seq (sr_ [v_ 8 1,o1 9 8 ln,c2 10 9 (.int .i64 1024) bgt_] (i_ 10 (sr_ [c1 4 (.int .i64 4) .mv] .ret) .skip)) (.seq (sr_ [o1 11 2 f0_,o1 12 11 ld,v_ 13 1,k2 14 31 12 13,o1 15 14 nt] (i_ 15 (sr_ [c1 4 (.int .i64 1) .mv] .ret) .skip)) (sr_ [z_ 4] .ret)))))
theorem Se:AS Tryz.prog 25 2=some ⟨16,2,[(.slot 4)],Lh⟩:=by kernel_rfl
def GZ:AC:=(sr_ [o1 3 0 .box,o1 5 2 .box,ns_ 6,z_ 7] (.seq (sr_ [o1 12 3 l6,v_ 13 1,k2 14 59 12 13,v_ 8 14] (sr_ [v_ 15 8,c2 16 15 (.int .i64 0) bne_] (i_ 16 (sr_ [v_ 17 8,ns_ 6,v_ 7 17] .ret) .skip))) (.seq (sr_ [o1 18 5 ld,c2 19 18 (.int .i64 1) bls_] (i_ 19 (sr_ [ns_ 6,c1 7 (.int .i64 1) .mv] .ret) .skip)) (sr_ [o1 20 3 l6,v_ 21 1,k2 22 60 20 21,o0 9 (.alloc .nilP 1),n2 9 22 st] (sr_ [o1 23 9 ld,o1 24 23 .nilCheck,o1 25 24 (.faddr false 10 1),o1 26 25 ld,o1 27 26 ln,o2 28 27 27 (.mkSlice 1 24 .nilS),o0 10 (.alloc .nilS 1),n2 10 28 st] (sr_ [o0 11 (.alloc (.bool false) 1),h_ [s_ 11,k_ (.bool false)] st] (sr_ [o1 29 9 ld,m_ 30 [s_ 11,s_ 9,s_ 3,s_ 10,s_ 5] (.mkFunc 62),k2 31 61 29 30] (.seq (sr_ [o1 32 11 ld] (i_ 32 (sr_ [ns_ 6,c1 7 (.int .i64 5) .mv] .ret) .skip)) (sr_ [o1 33 10 ld,o1 34 3 f3_,o1 35 34 ld,o2 36 33 35 a1_,o1 37 36 ld,v_ 6 37,z_ 7] .ret)))))))))
theorem I8:AS Tryz.prog 26 3=some ⟨38,3,[(.slot 6),(.slot 7)],GZ⟩:=by kernel_rfl
def Jf:AC:=(sr_ [o1 2 0 .box,ns_ 4,bf_ 5] (sr_ [o1 17 2 f3_,o1 18 17 ld,o1 19 18 (.build [(.int .i64 0),(.int .i64 0),.nilS] [(0,1),(1,1),(2,1)] [0]),o1 20 19 (.bslice 3 1 (.agg [(.int .i64 0),(.int .i64 0),.nilS]) [0]),v_ 6 20] (sr_ [ns_ 7] (.seq (sr_ [z_ 8] (.block 0 (.loop (.seq (sr_ [v_ 21 8,v_ 22 6,o1 23 22 ln,o2 24 21 23 bls_] (ex_ 24 0)) (.seq (.block 1 (sr_ [v_ 27 6,v_ 28 8,o2 29 27 28 a3_,o1 30 29 (.load true 3),o0 9 (.alloc (.agg [(.int .i64 0),(.int .i64 0),.nilS]) 3),n2 9 30 (.store 3)] (.seq (sr_ [z_ 10] (.block 2 (.loop (.seq (sr_ [v_ 31 10,o1 32 2 f5_,o1 33 32 ld,o1 34 33 ln,o2 35 31 34 bls_] (ex_ 35 2)) (.seq (.block 3 (sr_ [o1 38 2 f5_,o1 39 38 ld,v_ 40 10,o2 41 39 40 a3_,o1 42 41 (.load true 3),o0 11 (.alloc (.agg [(.int .i64 0),.nilS,.nilS]) 3),n2 11 42 (.store 3)] (sr_ [o1 43 11 f0_,o1 44 43 ld,o1 45 9 f0_,o1 46 45 ld,o2 47 44 46 beq_,v_ 48 47,g1 49 48 11 f1_,g1 50 48 49 ld,g1 51 48 50 ln,g1 52 48 1 .mv,g1 53 48 52 ln,g1 54 48 9 f1_,g1 55 48 54 ld,g2 56 48 53 55 bsu_,g2 57 48 51 56 beq_,m_ 58 [s_ 48,s_ 57,k_ (.bool false)] .pick,v_ 59 58,g1 60 59 11 f1_,g1 61 59 60 ld,g1 62 59 1 .mv,g1 63 59 9 f1_,g1 64 59 63 ld,g_ 65 59 true [k_ (.fn 68 []),s_ 61,s_ 62,s_ 64] .call,m_ 66 [s_ 59,s_ 65,k_ (.bool false)] .pick] (i_ 66 (.dtl [v_ 67 7,o1 68 9 f2_,o1 69 68 ld,o1 70 11 f2_,o1 71 70 ld,v_ 72 1,o1 73 9 f1_,o1 74 73 ld,o2 75 72 74 (.slice 1 true false false),k2 76 71 71 75,k2 77 70 69 76] [k2 78 69 67 77,v_ 7 78]) .skip)))) (.reg [v_ 36 10,i1_ 37 36,v_ 10 37])))))) (sr_ [z_ 12] (.block 4 (.loop (.seq (sr_ [v_ 79 12,o1 80 2 f4_,o1 81 80 ld,o1 82 81 ln,o2 83 79 82 bls_] (ex_ 83 4)) (.seq (.block 5 (sr_ [o1 86 2 f4_,o1 87 86 ld,v_ 88 12,o2 89 87 88 a5_,o1 90 89 (.load true 5),o0 13 (.alloc (.agg [(.int .i64 0),(.int .i64 0),.nilS,(.int .i64 0),.nilS]) 5),n2 13 90 (.store 5)] (.seq (sr_ [o1 91 13 f0_,o1 92 91 ld,o1 93 9 f0_,o1 94 93 ld,o2 95 92 94 bne_,v_ 96 95,g_ 97 96 false [s_ 13] f2_,g_ 98 96 false [s_ 97] ld,g_ 99 96 false [s_ 1] .mv,g_ 100 96 false [s_ 9] f1_,g_ 101 96 false [s_ 100] ld,g_ 102 96 false [k_ (.fn 68 []),s_ 98,s_ 99,s_ 101] .call,g_ 103 96 false [s_ 102] nt,m_ 104 [s_ 96,k_ (.bool true),s_ 103] .pick] (i_ 104 (.exit 5) .skip)) (.seq (.greg [o1 105 13 f1_,o1 106 105 ld,o1 107 9 f1_,o1 108 107 ld,o1 109 13 f3_,o1 110 109 ld,o2 111 108 110 bad_,o1 112 9 f2_,o1 113 112 ld,o1 114 13 f4_,o1 115 114 ld,v_ 116 1,o1 117 9 f1_,o1 118 117 ld,o1 119 9 f1_,o1 120 119 ld,o1 121 13 f2_,o1 122 121 ld,o1 123 122 ln,o2 124 120 123 bad_,o3 125 116 118 124 (.slice 1 true true false),k2 126 71 115 125,k2 127 70 113 126,o3 128 106 111 127 (.build [(.int .i64 0),(.int .i64 0),.nilS] [(0,1),(1,1),(2,1)] [0,1,2]),o0 14 (.alloc (.agg [(.int .i64 0),(.int .i64 0),.nilS]) 3),n2 14 128 (.store 3)]) (sr_ [bf_ 15] (.seq (sr_ [z_ 16] (.block 6 (.loop (.seq (sr_ [v_ 129 16,v_ 130 6,o1 131 130 ln,o2 132 129 131 bls_,v_ 133 132,g1 134 133 15 .mv,g1 135 133 134 nt,m_ 136 [s_ 133,s_ 135,k_ (.bool false)] .pick] (ex_ 136 6)) (.seq (.block 7 (.dtl [v_ 139 6,v_ 140 16,o2 141 139 140 a3_,o1 142 141 f0_,o1 143 142 ld,o1 144 14 f0_,o1 145 144 ld,o2 146 143 145 beq_,v_ 147 146,g1 148 147 6 .mv,g1 149 147 16 .mv,g2 150 147 148 149 a3_,g1 151 147 150 f1_,g1 152 147 151 ld,g1 153 147 14 f1_,g1 154 147 153 ld,g2 155 147 152 154 beq_,m_ 156 [s_ 147,s_ 155,k_ (.bool false)] .pick,v_ 157 156,g1 158 157 6 .mv,g1 159 157 16 .mv,g2 160 157 158 159 a3_,g1 161 157 160 f2_,g1 162 157 161 ld,g1 163 157 14 f2_,g1 164 157 163 ld] [g_ 165 157 true [k_ (.fn 32 []),s_ 162,s_ 164] .call,m_ 166 [s_ 157,s_ 165,k_ (.bool false)] .pick,v_ 15 166])) (.reg [v_ 137 16,i1_ 138 137,v_ 16 138])))))) (.seq (sr_ [v_ 167 15,o1 168 167 nt] (i_ 168 (.reg [v_ 169 6,o1 170 14 (.load true 3),o1 171 170 (.bslice 3 1 (.agg [(.int .i64 0),(.int .i64 0),.nilS]) [0]),o2 172 169 171 (.app 3 40 (.agg [(.int .i64 0),(.int .i64 0),.nilS])),v_ 6 172]) .skip)) (sr_ [v_ 173 6,o1 174 173 ln,c2 175 174 (.int .i64 1500) bgt_] (i_ 175 (sr_ [ns_ 4,bf_ 5] .ret) .skip))))))))) (.reg [v_ 84 12,i1_ 85 84,v_ 12 85]))))))))) (.reg [v_ 25 8,i1_ 26 25,v_ 8 26])))))) (sr_ [v_ 176 7,v_ 4 176,bt_ 5] .ret)))))
theorem On:AS Tryz.prog 27 2=some ⟨177,2,[(.slot 4),(.slot 5)],Jf⟩:=by kernel_rfl
def HZ:AC:=(sr_ [bf_ 4] (.seq (sr_ [v_ 6 0,o1 7 6 ln,v_ 8 1,o1 9 8 ln,o2 10 7 9 bne_] (i_ 10 (sr_ [bf_ 4] .ret) .skip)) (.seq (sr_ [z_ 5] (.block 0 (.loop (.seq (sr_ [v_ 11 5,v_ 12 0,o1 13 12 ln,o2 14 11 13 bls_] (ex_ 14 0)) (.seq (.block 1 (.seq (.dtl [v_ 17 0,v_ 18 5,o2 19 17 18 a1_,o1 20 19 ld,v_ 21 1,v_ 22 5,o2 23 21 22 a1_,o1 24 23 ld] [k2 25 32 20 24,o1 26 25 nt]) (i_ 26 (sr_ [bf_ 4] .ret) .skip))) (.reg [v_ 15 5,i1_ 16 15,v_ 5 16])))))) (sr_ [bt_ 4] .ret))))
theorem Mk:AS Tryz.prog 28 2=some ⟨27,2,[(.slot 4)],HZ⟩:=by kernel_rfl
def M9:AC:=(sr_ [bf_ 4] (.seq (sr_ [z_ 5] (.block 0 (.loop (.seq (sr_ [v_ 6 5,v_ 7 1,o1 8 7 ln,o2 9 6 8 bls_] (ex_ 9 0)) (.seq (.block 1 (sr_ [v_ 12 0,v_ 13 1,v_ 14 5,o2 15 13 14 a1_,o1 16 15 ld,k2 17 74 12 16,o1 18 17 nt] (i_ 18 (sr_ [bf_ 4] .ret) .skip))) (.reg [v_ 10 5,i1_ 11 10,v_ 5 11])))))) (sr_ [bt_ 4] .ret)))
theorem U4:AS Tryz.prog 31 2=some ⟨19,2,[(.slot 4)],M9⟩:=by kernel_rfl
def MA:AC:=(sr_ [bf_ 4] (.seq (sr_ [v_ 6 0,o1 7 6 ln,v_ 8 1,o1 9 8 ln,o2 10 7 9 bne_] (i_ 10 (sr_ [bf_ 4] .ret) .skip)) (.seq (sr_ [z_ 5] (.block 0 (.loop (.seq (sr_ [v_ 11 5,v_ 12 0,o1 13 12 ln,o2 14 11 13 bls_] (ex_ 14 0)) (.seq (.block 1 (.seq (.dreg [v_ 17 0,v_ 18 5,o2 19 17 18 a1_,o1 20 19 ld,v_ 21 1,v_ 22 5,o2 23 21 22 a1_,o1 24 23 ld,o2 25 20 24 bne_]) (i_ 25 (sr_ [bf_ 4] .ret) .skip))) (.reg [v_ 15 5,i1_ 16 15,v_ 5 16])))))) (sr_ [bt_ 4] .ret))))
theorem U5:AS Tryz.prog 32 2=some ⟨26,2,[(.slot 4)],MA⟩:=by kernel_rfl
def Gx:AC:=(sr_ [o1 2 0 .box,bf_ 4,z_ 5] (sr_ [o1 10 2 l6,v_ 11 1,k2 12 34 10 11,v_ 9 12,o1 13 9 (.extract 0),o1 14 9 (.extract 1),o1 15 9 (.extract 2),v_ 6 13,v_ 7 14,v_ 8 15] (sr_ [v_ 16 7,v_ 17 8,v_ 4 16,v_ 5 17] .ret)))
theorem Ha:AS Tryz.prog 33 2=some ⟨18,2,[(.slot 4),(.slot 5)],Gx⟩:=by kernel_rfl
def K6:AC:=(sr_ [o1 2 0 .box,ns_ 4,bf_ 5,z_ 6] (.seq (sr_ [o1 11 2 l6,v_ 12 1,k2 13 59 11 12,v_ 7 13] (sr_ [v_ 14 7,c2 15 14 (.int .i64 0) bne_] (i_ 15 (sr_ [v_ 16 7,ns_ 4,bf_ 5,v_ 6 16] .ret) .skip))) (sr_ [o1 17 2 l6,v_ 18 1,k2 19 60 17 18,o0 8 (.alloc .nilP 1),n2 8 19 st] (sr_ [o1 20 8 ld,o1 21 20 .nilCheck,o1 22 21 (.faddr false 10 1),o1 23 22 ld,o1 24 23 ln,o2 25 24 24 (.mkSlice 1 24 .nilS),o0 9 (.alloc .nilS 1),n2 9 25 st] (sr_ [o1 26 8 ld,o1 27 26 .nilCheck,o1 28 27 (.faddr false 10 1),o1 29 28 ld,o1 30 29 ln,o2 31 30 30 (.mkSlice 1 1 (.bool false)),o0 10 (.alloc .nilS 1),n2 10 31 st] (sr_ [o1 32 8 ld,m_ 33 [s_ 2,s_ 10,s_ 9,s_ 8] (.mkFunc 75),k2 34 61 32 33] (.seq (.dreg [o1 35 9 ld,o1 36 2 f3_,o1 37 36 ld,o2 38 35 37 a1_,o1 39 38 ld,o1 40 10 ld,o1 41 2 f3_,o1 42 41 ld,o2 43 40 42 a1_,o1 44 43 ld,v_ 4 39,v_ 5 44,z_ 6]) .ret)))))))
theorem Oo:AS Tryz.prog 34 2=some ⟨45,2,[(.slot 4),(.slot 5),(.slot 6)],K6⟩:=by kernel_rfl
def I9:AC:=(sr_ [o1 3 0 .box,o1 5 2 .box,bf_ 6,z_ 7] (.seq (sr_ [o1 11 3 l6,v_ 12 1,k2 13 59 11 12,v_ 8 13] (sr_ [v_ 14 8,c2 15 14 (.int .i64 0) bne_] (i_ 15 (sr_ [v_ 16 8,bf_ 6,v_ 7 16] .ret) .skip))) (sr_ [o1 17 3 l6,v_ 18 1,k2 19 60 17 18,o0 9 (.alloc .nilP 1),n2 9 19 st] (sr_ [o1 20 9 ld,o1 21 20 .nilCheck,o1 22 21 (.faddr false 10 1),o1 23 22 ld,o1 24 23 ln,o2 25 24 24 (.mkSlice 1 24 .nilS),o0 10 (.alloc .nilS 1),n2 10 25 st] (sr_ [o1 26 9 ld,m_ 27 [s_ 5,s_ 9,s_ 3,s_ 10] (.mkFunc 80),k2 28 61 26 27] (.seq (.dreg [o1 29 10 ld,o1 30 3 f3_,o1 31 30 ld,o2 32 29 31 a1_,o1 33 32 ld,o1 34 5 ld,o1 35 34 ln,o2 36 33 35 a1_,o1 37 36 ld,v_ 6 37,z_ 7]) .ret))))))
theorem Li:AS Tryz.prog 37 3=some ⟨38,3,[(.slot 6),(.slot 7)],I9⟩:=by kernel_rfl
def Oq:AC:=(sr_ [bf_ 4] (.seq (sr_ [z_ 5] (.block 0 (.loop (.seq (sr_ [v_ 6 5,v_ 7 0,o1 8 7 ln,o2 9 6 8 bls_] (ex_ 9 0)) (.seq (.block 1 (sr_ [v_ 12 0,v_ 13 5,o2 14 12 13 a1_,o1 15 14 ld,v_ 16 1,k2 17 32 15 16] (i_ 17 (sr_ [bt_ 4] .ret) .skip))) (.reg [v_ 10 5,i1_ 11 10,v_ 5 11])))))) (sr_ [bf_ 4] .ret)))
theorem Wt:AS Tryz.prog 38 2=some ⟨18,2,[(.slot 4)],Oq⟩:=by kernel_rfl
def MB:AC:=(sr_ [o1 1 0 .box,z_ 2] (.seq (sr_ [o1 6 1 l6,k1 7 82 6,v_ 5 7,o1 8 5 (.extract 0),o1 9 5 (.extract 1),v_ 3 8,v_ 4 9] (sr_ [v_ 10 3,c2 11 10 (.int .i64 0) bne_] (i_ 11 (sr_ [c1 2 (.int .i64 2) .mv] .ret) .skip))) (sr_ [z_ 2] .ret)))
theorem U6:AS Tryz.prog 39 1=some ⟨12,1,[(.slot 2)],MB⟩:=by kernel_rfl
def MC:AC:=(sr_ [z_ 4] (.seq (sr_ [v_ 8 0,o1 9 8 ln,c2 10 9 (.int .i64 100) bgt_,v_ 11 10,g_ 12 11 false [s_ 1] .mv,g_ 13 11 false [s_ 12] ln,g_ 14 11 false [s_ 13,k_ (.int .i64 200)] bgt_,m_ 15 [s_ 11,k_ (.bool true),s_ 14] .pick] (i_ 15 (sr_ [c1 4 (.int .i64 4000) .mv] .ret) .skip)) (sr_ [c1 5 (.int .i64 1) .mv] (.seq (sr_ [z_ 6] (.block 0 (.loop (.seq (sr_ [v_ 16 6,v_ 17 0,o1 18 17 ln,o2 19 16 18 bls_] (ex_ 19 0)) (.seq (.block 1 (.reg [v_ 22 5,v_ 23 0,v_ 24 6,o2 25 23 24 a1_,o1 26 25 ld,o1 27 26 ln,c2 28 27 (.int .i64 4000) .min,o2 29 22 28 bad_,v_ 5 29])) (.reg [v_ 20 6,i1_ 21 20,v_ 6 21])))))) (.seq (sr_ [z_ 7] (.block 2 (.loop (.seq (sr_ [v_ 30 7,v_ 31 1,o1 32 31 ln,o2 33 30 32 bls_] (ex_ 33 2)) (.seq (.block 3 (.reg [v_ 36 5,i1_ 37 36,v_ 38 1,v_ 39 7,o2 40 38 39 a6_,o1 41 40 f5_,o1 42 41 ld,o1 43 42 ln,c2 44 43 (.int .i64 4000) .min,o2 45 37 44 bad_,v_ 5 45])) (.reg [v_ 34 7,i1_ 35 34,v_ 7 35])))))) (sr_ [v_ 46 5,v_ 4 46] .ret))))))
theorem U7:AS Tryz.prog 43 2=some ⟨47,2,[(.slot 4)],MC⟩:=by kernel_rfl
def Lj:AC:=(sr_ [o1 1 0 .box,z_ 2,z_ 3] (.seq (sr_ [o1 10 1 f0_,o1 11 10 ld,c2 12 11 (.int .i64 1) bne_,v_ 13 12,g1 14 13 1 f0_,g1 15 13 14 ld,g_ 16 13 true [s_ 15,k_ (.int .i64 2)] bne_,m_ 17 [s_ 13,s_ 16,k_ (.bool false)] .pick,v_ 18 17,g_ 19 18 false [s_ 1] f1_,g_ 20 18 false [s_ 19] ld,g_ 21 18 false [s_ 20,k_ (.int .i64 1)] bne_,g_ 22 18 false [s_ 21] .mv,g1 23 22 1 f1_,g1 24 22 23 ld,g_ 25 22 true [s_ 24,k_ (.int .i64 2)] bne_,g_ 26 18 false [s_ 22,s_ 25,k_ (.bool false)] .pick,m_ 27 [s_ 18,k_ (.bool true),s_ 26] .pick,v_ 28 27,g_ 29 28 false [s_ 1] f2_,g_ 30 28 false [s_ 29] ld,g_ 31 28 false [s_ 30,k_ (.int .i64 1)] bls_,m_ 32 [s_ 28,k_ (.bool true),s_ 31] .pick,v_ 33 32,g_ 34 33 false [s_ 1] f2_,g_ 35 33 false [s_ 34] ld,g_ 36 33 false [s_ 35,k_ (.int .i64 1024)] bgt_,m_ 37 [s_ 33,k_ (.bool true),s_ 36] .pick,v_ 38 37,g_ 39 38 false [s_ 1] f3_,g_ 40 38 false [s_ 39] ld,g_ 41 38 false [s_ 40,k_ (.int .i64 0)] bls_,m_ 42 [s_ 38,k_ (.bool true),s_ 41] .pick,v_ 43 42,g_ 44 43 false [s_ 1] f3_,g_ 45 43 false [s_ 44] ld,g_ 46 43 false [s_ 1] f2_,g_ 47 43 false [s_ 46] ld,g_ 48 43 false [s_ 45,s_ 47] bge_,m_ 49 [s_ 43,k_ (.bool true),s_ 48] .pick,v_ 50 49,g_ 51 50 false [s_ 1] f4_,g_ 52 50 false [s_ 51] ld,g_ 53 50 false [s_ 52] ln,g_ 54 50 false [s_ 53,k_ (.int .i64 4096)] bgt_,m_ 55 [s_ 50,k_ (.bool true),s_ 54] .pick,v_ 56 55,g_ 57 56 false [s_ 1] f5_,g_ 58 56 false [s_ 57] ld,g_ 59 56 false [s_ 58] ln,g_ 60 56 false [s_ 59,k_ (.int .i64 4096)] bgt_,m_ 61 [s_ 56,k_ (.bool true),s_ 60] .pick] (i_ 61 (sr_ [c1 2 (.int .i64 1) .mv,z_ 3] .ret) .skip)) (.seq (sr_ [z_ 4] (.block 0 (.loop (.seq (sr_ [v_ 62 4,o1 63 1 f4_,o1 64 63 ld,o1 65 64 ln,o2 66 62 65 bls_] (ex_ 66 0)) (.seq (.block 1 (sr_ [o1 69 1 f4_,o1 70 69 ld,v_ 71 4,o2 72 70 71 a5_,o1 73 72 (.load true 5),o0 5 (.alloc (.agg [(.int .i64 0),(.int .i64 0),.nilS,(.int .i64 0),.nilS]) 5),n2 5 73 (.store 5)] (sr_ [o1 74 5 f2_,o1 75 74 ld,o1 76 75 ln,v_ 6 76] (sr_ [v_ 77 6,c2 78 77 (.int .i64 0) beq_,v_ 79 78,g1 80 79 5 f3_,g1 81 79 80 ld,g_ 82 79 true [s_ 81,k_ (.int .i64 0)] beq_,m_ 83 [s_ 79,s_ 82,k_ (.bool false)] .pick,v_ 84 83,g_ 85 84 false [s_ 5] f3_,g_ 86 84 false [s_ 85] ld,g_ 87 84 false [s_ 86,k_ (.int .i64 1)] bge_,g_ 88 84 false [s_ 87] .mv,g1 89 88 5 f3_,g1 90 88 89 ld,g1 91 88 6 .mv,g2 92 88 90 91 ble_,g_ 93 84 false [s_ 88,s_ 92,k_ (.bool false)] .pick,m_ 94 [s_ 84,k_ (.bool true),s_ 93] .pick,v_ 7 94] (sr_ [o1 95 5 f0_,o1 96 95 ld,c2 97 96 (.int .i64 0) bls_,v_ 98 97,g_ 99 98 false [s_ 5] f0_,g_ 100 98 false [s_ 99] ld,g_ 101 98 false [s_ 1] f2_,g_ 102 98 false [s_ 101] ld,g_ 103 98 false [s_ 100,s_ 102] bge_,m_ 104 [s_ 98,k_ (.bool true),s_ 103] .pick,v_ 105 104,g_ 106 105 false [s_ 5] f1_,g_ 107 105 false [s_ 106] ld,g_ 108 105 false [s_ 107,k_ (.int .i64 0)] bls_,m_ 109 [s_ 105,k_ (.bool true),s_ 108] .pick,v_ 110 109,g_ 111 110 false [s_ 5] f1_,g_ 112 110 false [s_ 111] ld,g_ 113 110 false [s_ 1] f2_,g_ 114 110 false [s_ 113] ld,g_ 115 110 false [s_ 112,s_ 114] bge_,m_ 116 [s_ 110,k_ (.bool true),s_ 115] .pick,v_ 117 116,g_ 118 117 false [s_ 7] .mv,g_ 119 117 false [s_ 118] nt,m_ 120 [s_ 117,k_ (.bool true),s_ 119] .pick,v_ 121 120,g_ 122 121 false [s_ 1] f0_,g_ 123 121 false [s_ 122] ld,g_ 124 121 false [s_ 5] f2_,g_ 125 121 false [s_ 124] ld,g_ 126 121 false [k_ (.fn 91 []),s_ 123,s_ 125] .call,g_ 127 121 false [s_ 126] nt,m_ 128 [s_ 121,k_ (.bool true),s_ 127] .pick,v_ 129 128,g_ 130 129 false [s_ 1] l6,g_ 131 129 false [s_ 5] f4_,g_ 132 129 false [s_ 131] ld,g_ 133 129 false [s_ 5] f2_,g_ 134 129 false [s_ 133] ld,g_ 135 129 false [k_ (.fn 92 []),s_ 130,s_ 132,s_ 134] .call,g_ 136 129 false [s_ 135] nt,m_ 137 [s_ 129,k_ (.bool true),s_ 136] .pick] (i_ 137 (sr_ [v_ 138 4,c1 2 (.int .i64 2) .mv,v_ 3 138] .ret) .skip)))))) (.reg [v_ 67 4,i1_ 68 67,v_ 4 68])))))) (.seq (sr_ [z_ 8] (.block 2 (.loop (.seq (sr_ [v_ 139 8,o1 140 1 f5_,o1 141 140 ld,o1 142 141 ln,o2 143 139 142 bls_] (ex_ 143 2)) (.seq (.block 3 (sr_ [o1 146 1 f5_,o1 147 146 ld,v_ 148 8,o2 149 147 148 a3_,o1 150 149 (.load true 3),o0 9 (.alloc (.agg [(.int .i64 0),.nilS,.nilS]) 3),n2 9 150 (.store 3)] (sr_ [o1 151 9 f0_,o1 152 151 ld,c2 153 152 (.int .i64 0) bls_,v_ 154 153,g_ 155 154 false [s_ 9] f0_,g_ 156 154 false [s_ 155] ld,g_ 157 154 false [s_ 1] f2_,g_ 158 154 false [s_ 157] ld,g_ 159 154 false [s_ 156,s_ 158] bge_,m_ 160 [s_ 154,k_ (.bool true),s_ 159] .pick,v_ 161 160,g_ 162 161 false [s_ 1] f0_,g_ 163 161 false [s_ 162] ld,g_ 164 161 false [s_ 9] f1_,g_ 165 161 false [s_ 164] ld,g_ 166 161 false [k_ (.fn 91 []),s_ 163,s_ 165] .call,g_ 167 161 false [s_ 166] nt,m_ 168 [s_ 161,k_ (.bool true),s_ 167] .pick,v_ 169 168,g_ 170 169 false [s_ 1] l6,g_ 171 169 false [s_ 9] f2_,g_ 172 169 false [s_ 171] ld,g_ 173 169 false [s_ 9] f1_,g_ 174 169 false [s_ 173] ld,g_ 175 169 false [k_ (.fn 92 []),s_ 170,s_ 172,s_ 174] .call,g_ 176 169 false [s_ 175] nt,m_ 177 [s_ 169,k_ (.bool true),s_ 176] .pick] (i_ 177 (sr_ [v_ 178 8,c1 2 (.int .i64 3) .mv,v_ 3 178] .ret) .skip)))) (.reg [v_ 144 8,i1_ 145 144,v_ 8 145])))))) (.seq (sr_ [o1 179 1 l6,k1 180 93 179] (i_ 180 (sr_ [c1 2 (.int .i64 4) .mv,z_ 3] .ret) .skip)) (sr_ [z_ 2,z_ 3] .ret))))))
theorem Sf:AS Tryz.prog 45 1=some ⟨181,1,[(.slot 2),(.slot 3)],Lj⟩:=by kernel_rfl
def Ot:AC:=(sr_ [o1 2 0 .box,z_ 4] (.seq (.block 0 (sr_ [o1 6 2 l6,k1 7 39 6,c2 8 7 (.int .i64 0) bne_,v_ 5 8] (i_ 5 (sr_ [c1 4 (.int .i64 2) .mv] .ret) (sr_ [v_ 10 1,o1 11 10 ln,c2 12 11 (.int .i64 1024) bgt_,v_ 9 12] (i_ 9 (sr_ [c1 4 (.int .i64 4) .mv] .ret) (sr_ [o1 14 2 f0_,o1 15 14 ld,v_ 16 1,k2 17 100 15 16,o1 18 17 nt,v_ 13 18] (i_ 13 (sr_ [c1 4 (.int .i64 1) .mv] .ret) .skip))))))) (sr_ [z_ 4] .ret)))
theorem Wu:AS Tryz.prog 59 2=some ⟨19,2,[(.slot 4)],Ot⟩:=by kernel_rfl
def Ou:AC:=(sr_ [o1 2 0 .box,c1 4 .nilP .mv] (.seq (.gry [true,false,true,true,false,true,true,false,false,false,false,false] [m_ 18 [s_ 2] l6,m_ 19 [s_ 1] .mv,m_ 20 [s_ 2] f2_,m_ 21 [s_ 20] ld,m_ 22 [s_ 21,s_ 21] (.mkSlice 1 24 .nilS),m_ 23 [s_ 2] f2_,m_ 24 [s_ 23] ld,m_ 25 [s_ 24,s_ 24] (.mkSlice 1 24 .nilS),m_ 26 [s_ 18,s_ 19,s_ 22,s_ 25] (.build [(.int .i64 0),(.int .i64 0),(.int .i64 0),(.int .i64 0),.nilS,.nilS,.nilS,.nilS,.nilS,.nilS,.nilS] [(0,6),(6,1),(7,1),(8,1),(9,1),(10,1)] [0,1,2,3]),m_ 27 [s_ 26] .box,m_ 5 [] (.alloc .nilP 1),h_ [s_ 5,s_ 27] st]) (.seq (sr_ [o1 28 2 f4_,o1 29 28 ld,o1 30 29 ln,z_ 31] (.block 0 (.loop (sr_ [o2 32 31 30 bls_] (.seq (ex_ 32 0) (.seq (.block 1 (sr_ [v_ 33 31,o2 34 29 31 a5_,o1 35 34 (.load true 5),o0 7 (.alloc (.agg [(.int .i64 0),(.int .i64 0),.nilS,(.int .i64 0),.nilS]) 5),v_ 6 33,n2 7 35 (.store 5)] (.grx [true,false,true,true,true,true,true,false,true,true,true,true,true,false,false,false,false,false,false] [m_ 36 [s_ 5] ld,m_ 37 [s_ 36] .nilCheck,m_ 38 [s_ 37] (.faddr false 7 1),m_ 39 [s_ 38] ld,m_ 40 [s_ 7] f0_,m_ 41 [s_ 40] ld,m_ 42 [s_ 5] ld,m_ 43 [s_ 42] .nilCheck,m_ 44 [s_ 43] (.faddr false 7 1),m_ 45 [s_ 44] ld,m_ 46 [s_ 7] f0_,m_ 47 [s_ 46] ld,m_ 48 [s_ 45,s_ 47] a1_,m_ 49 [s_ 48] ld,m_ 50 [s_ 6] .mv,m_ 51 [s_ 50] (.bslice 1 1 (.int .i64 0) [0]),m_ 52 [s_ 49,s_ 51] (.app 1 8 (.int .i64 0)),m_ 53 [s_ 39,s_ 41] a1_,h_ [s_ 53,s_ 52] st]))) (.reg [i1_ 54 31,v_ 31 54]))))))) (.seq (sr_ [o1 55 2 f5_,o1 56 55 ld,o1 57 56 ln,z_ 58] (.block 2 (.loop (sr_ [o2 59 58 57 bls_] (.seq (ex_ 59 2) (.seq (.block 3 (sr_ [v_ 60 58,o2 61 56 58 a3_,o1 62 61 (.load true 3),o0 9 (.alloc (.agg [(.int .i64 0),.nilS,.nilS]) 3),v_ 8 60,n2 9 62 (.store 3)] (.grx [true,false,true,true,true,true,true,false,true,true,true,true,true,false,false,false,false,false,false] [m_ 63 [s_ 5] ld,m_ 64 [s_ 63] .nilCheck,m_ 65 [s_ 64] (.faddr false 8 1),m_ 66 [s_ 65] ld,m_ 67 [s_ 9] f0_,m_ 68 [s_ 67] ld,m_ 69 [s_ 5] ld,m_ 70 [s_ 69] .nilCheck,m_ 71 [s_ 70] (.faddr false 8 1),m_ 72 [s_ 71] ld,m_ 73 [s_ 9] f0_,m_ 74 [s_ 73] ld,m_ 75 [s_ 72,s_ 74] a1_,m_ 76 [s_ 75] ld,m_ 77 [s_ 8] .mv,m_ 78 [s_ 77] (.bslice 1 1 (.int .i64 0) [0]),m_ 79 [s_ 76,s_ 78] (.app 1 8 (.int .i64 0)),m_ 80 [s_ 66,s_ 68] a1_,h_ [s_ 80,s_ 79] st]))) (.reg [i1_ 81 58,v_ 58 81]))))))) (sr_ [o1 82 2 f2_,o1 83 82 ld,o2 84 83 83 (.mkSlice 1 1 (.bool false)),v_ 10 84] (.seq (sr_ [o1 85 2 f2_,o1 86 85 ld,z_ 87] (.block 4 (.loop (sr_ [o2 88 87 86 bls_] (.seq (ex_ 88 4) (.seq (.block 5 (sr_ [v_ 89 87,v_ 11 89] (.reg [o1 90 5 ld,v_ 91 11,v_ 92 10,k3 93 101 90 91 92]))) (.reg [i1_ 94 87,v_ 87 94]))))))) (.seq (.greg [o1 95 5 ld,v_ 96 1,o1 97 96 ln,i1_ 98 97,o1 99 2 f2_,o1 100 99 ld,o2 101 98 100 (.bin .mul),o2 102 101 101 (.mkSlice 1 1 (.bool false)),o1 103 95 .nilCheck,o1 104 103 (.faddr false 10 1),n2 104 102 st]) (.seq (.dtl [o1 105 5 ld,o1 106 105 .nilCheck,o1 107 106 (.faddr false 10 1),o1 108 107 ld,o1 109 2 f3_,o1 110 109 ld,o2 111 108 110 a1_] [h_ [s_ 111,k_ (.bool true)] st]) (.seq (sr_ [o0 12 (.alloc (.int .i64 0) 1),h_ [s_ 12,k_ (.int .i64 0)] st] (.block 6 (.loop (.seq (sr_ [o1 112 12 ld,v_ 113 1,o1 114 113 ln,o2 115 112 114 ble_] (ex_ 115 6)) (.seq (.block 7 (sr_ [o1 118 5 ld,o1 119 118 .nilCheck,o1 120 119 (.faddr false 9 1),o1 121 120 ld,k1 122 102 121] (.block 8 (.rng (.slot 122) [123,124] (.reg [v_ 14 124]) (.block 9 (.seq (.seq (.dreg [o1 125 5 ld,o1 126 125 .nilCheck,o1 127 126 (.faddr false 10 1),o1 128 127 ld,o1 129 12 ld,o1 130 2 f2_,o1 131 130 ld,o2 132 129 131 (.bin .mul),v_ 133 14,o2 134 132 133 bad_,o2 135 128 134 a1_,o1 136 135 ld,o1 137 136 nt]) (i_ 137 (.exit 9) .skip)) (sr_ [o1 138 5 ld,o1 139 138 .nilCheck,o1 140 139 (.faddr false 7 1),o1 141 140 ld,v_ 142 14,o2 143 141 142 a1_,o1 144 143 ld,o1 145 144 ln,z_ 146] (.block 10 (.loop (sr_ [o2 147 146 145 bls_] (.seq (ex_ 147 10) (.seq (.block 11 (sr_ [o2 148 144 146 a1_,o1 149 148 ld,v_ 16 149] (sr_ [o1 150 2 f4_,o1 151 150 ld,v_ 152 16,o2 153 151 152 a5_,o1 154 153 (.load true 5),o0 17 (.alloc (.agg [(.int .i64 0),(.int .i64 0),.nilS,(.int .i64 0),.nilS]) 5),n2 17 154 (.store 5)] (sr_ [o1 155 5 ld,o1 156 17 f2_,o1 157 156 ld,o1 158 12 ld,k3 159 65 155 157 158] (i_ 159 (.dtl [o1 160 5 ld,o1 161 160 .nilCheck,o1 162 161 (.faddr false 10 1),o1 163 162 ld,o1 164 12 ld,o1 165 17 f3_,o1 166 165 ld,o2 167 164 166 bad_,o1 168 2 f2_,o1 169 168 ld,o2 170 167 169 (.bin .mul),o1 171 17 f1_,o1 172 171 ld,o2 173 170 172 bad_,o2 174 163 173 a1_] [h_ [s_ 174,k_ (.bool true)] st]) .skip))))) (.reg [i1_ 175 146,v_ 146 175]))))))))))))) (.seq (sr_ [o1 176 12 ld] (.reg [o0 12 (.alloc (.int .i64 0) 1),n2 12 176 st])) (.reg [o1 116 12 ld,i1_ 117 116,n2 12 117 st]))))))) (sr_ [o1 177 5 ld,v_ 4 177] .ret))))))))))
theorem Wv:AS Tryz.prog 60 2=some ⟨178,2,[(.slot 4)],Ou⟩:=by kernel_rfl
def Ia:AC:=(sr_ [v_ 7 0,o1 8 7 .nilCheck,o1 9 8 (.faddr false 6 1),o1 10 9 ld,o1 11 10 ln,v_ 4 11] (.block 0 (.loop (.seq (sr_ [v_ 12 4,c2 13 12 (.int .i64 0) bge_] (ex_ 13 0)) (.seq (.block 1 (sr_ [v_ 16 0,o1 17 16 .nilCheck,o1 18 17 (.faddr false 9 1),o1 19 18 ld,o1 20 19 ln,z_ 21] (.block 2 (.loop (sr_ [o2 22 21 20 bls_] (.seq (ex_ 22 2) (.seq (.block 3 (sr_ [o2 23 19 21 a1_,o1 24 23 ld,v_ 6 24] (.seq (.dreg [v_ 25 0,o1 26 25 .nilCheck,o1 27 26 (.faddr false 10 1),o1 28 27 ld,v_ 29 4,v_ 30 0,o1 31 30 .nilCheck,o1 32 31 (.faddr true 0 6),o1 33 32 f2_,o1 34 33 ld,o2 35 29 34 (.bin .mul),v_ 36 6,o2 37 35 36 bad_,o2 38 28 37 a1_,o1 39 38 ld]) (i_ 39 (.reg [v_ 40 1,v_ 41 4,v_ 42 6,o3 43 40 41 42 .call]) .skip)))) (.reg [i1_ 44 21,v_ 21 44])))))))) (.reg [v_ 14 4,c2 15 14 (.int .i64 1) bsu_,v_ 4 15]))))))
theorem Ml:AS Tryz.prog 61 2=some ⟨45,2,[],Ia⟩:=by kernel_rfl
def Jg:AC:=(.seq (sr_ [o1 19 2 ld] (i_ 19 .ret .skip)) (sr_ [ns_ 9] (.seq (sr_ [o1 20 3 ld,o1 21 20 .nilCheck,o1 22 21 (.faddr false 8 1),o1 23 22 ld,v_ 24 1,o2 25 23 24 a1_,o1 26 25 ld,o1 27 26 ln,z_ 28] (.block 0 (.loop (sr_ [o2 29 28 27 bls_] (.seq (ex_ 29 0) (.seq (.block 1 (sr_ [o2 30 26 28 a1_,o1 31 30 ld,v_ 11 31] (sr_ [o1 32 4 f5_,o1 33 32 ld,v_ 34 11,o2 35 33 34 a3_,o1 36 35 (.load true 3),o0 12 (.alloc (.agg [(.int .i64 0),.nilS,.nilS]) 3),n2 12 36 (.store 3)] (sr_ [o1 37 3 ld,o1 38 12 (.load true 3),v_ 39 0,k3 40 63 37 38 39] (i_ 40 (.reg [v_ 41 9,o1 42 3 ld,o1 43 12 f2_,o1 44 43 ld,v_ 45 0,o1 46 12 f1_,o1 47 46 ld,o1 48 47 ln,m_ 49 [k_ (.fn 64 []),s_ 42,s_ 44,s_ 45,s_ 48] .call,o1 50 49 (.bslice 1 1 .nilS [0]),o2 51 41 50 (.app 1 24 .nilS),v_ 9 51]) .skip))))) (.reg [i1_ 52 28,v_ 28 52]))))))) (.seq (sr_ [o1 53 3 ld,o1 54 53 .nilCheck,o1 55 54 (.faddr false 7 1),o1 56 55 ld,v_ 57 1,o2 58 56 57 a1_,o1 59 58 ld,o1 60 59 ln,z_ 61] (.block 2 (.loop (sr_ [o2 62 61 60 bls_] (.seq (ex_ 62 2) (.seq (.block 3 (sr_ [o2 63 59 61 a1_,o1 64 63 ld,v_ 14 64] (sr_ [o1 65 4 f4_,o1 66 65 ld,v_ 67 14,o2 68 66 67 a5_,o1 69 68 (.load true 5),o0 15 (.alloc (.agg [(.int .i64 0),(.int .i64 0),.nilS,(.int .i64 0),.nilS]) 5),n2 15 69 (.store 5)] (.seq (sr_ [o1 70 3 ld,o1 71 15 f2_,o1 72 71 ld,v_ 73 0,k3 74 65 70 72 73,o1 75 74 nt] (i_ 75 (.exit 3) .skip)) (sr_ [o1 76 3 ld,o1 77 15 f4_,o1 78 77 ld,v_ 79 0,o1 80 15 f2_,o1 81 80 ld,o1 82 81 ln,m_ 83 [k_ (.fn 64 []),s_ 76,s_ 78,s_ 79,s_ 82] .call,v_ 16 83] (sr_ [o1 84 5 ld,v_ 85 0,o1 86 15 f3_,o1 87 86 ld,o2 88 85 87 bad_,o1 89 4 f2_,o1 90 89 ld,o2 91 88 90 (.bin .mul),o1 92 15 f1_,o1 93 92 ld,o2 94 91 93 bad_,o2 95 84 94 a1_,o1 96 95 ld,o1 97 96 ln,z_ 98] (.block 4 (.loop (sr_ [o2 99 98 97 bls_] (.seq (ex_ 99 4) (.seq (.block 5 (sr_ [o2 100 96 98 a1_,o1 101 100 ld,v_ 18 101] (.reg [v_ 102 9,v_ 103 16,v_ 104 18,o2 105 103 104 (.bslice 1 2 .nilS [0,1]),k1 106 66 105,o1 107 106 (.bslice 1 1 .nilS [0]),o2 108 102 107 (.app 1 24 .nilS),v_ 9 108]))) (.reg [i1_ 109 98,v_ 98 109])))))))))))) (.reg [i1_ 110 61,v_ 61 110]))))))) (sr_ [v_ 111 9,k1 112 67 111,v_ 9 112] (sr_ [v_ 113 9,o1 114 113 ln,o1 115 6 ld,o2 116 114 115 bgt_,n2 2 116 st] (.reg [o1 117 5 ld,v_ 118 0,o1 119 4 f2_,o1 120 119 ld,o2 121 118 120 (.bin .mul),v_ 122 1,o2 123 121 122 bad_,v_ 124 9,o2 125 117 123 a1_,n2 125 124 st])))))))
theorem Ov:AS Tryz.prog 62 7=some ⟨126,7,[],Jg⟩:=by kernel_rfl
def Ib:AC:=(sr_ [o1 4 1 .box,bf_ 6] (.seq (.dtl [o1 7 4 f1_,o1 8 7 ld,o1 9 8 ln,v_ 10 0,o1 11 10 .nilCheck,o1 12 11 (.faddr false 6 1),o1 13 12 ld,o1 14 13 ln,v_ 15 2,o2 16 14 15 bsu_,o2 17 9 16 beq_,v_ 18 17,g1 19 18 0 .mv,g1 20 18 4 f1_,g1 21 18 20 ld,g1 22 18 2 .mv] [g_ 23 18 true [k_ (.fn 65 []),s_ 19,s_ 21,s_ 22] .call,m_ 24 [s_ 18,s_ 23,k_ (.bool false)] .pick,v_ 6 24]) .ret))
theorem Mm:AS Tryz.prog 63 3=some ⟨25,3,[(.slot 6)],Ib⟩:=by kernel_rfl
def Hq:AC:=(sr_ [ns_ 8] (sr_ [ns_ 9] (.seq (sr_ [v_ 14 1,o1 15 14 ln,z_ 16] (.block 0 (.loop (sr_ [o2 17 16 15 bls_] (.seq (ex_ 17 0) (.seq (.block 1 (sr_ [o2 18 14 16 a6_,o1 19 18 l6,o0 11 (.alloc (.agg [(.int .i64 0),(.int .i64 0),(.int .i64 0),(.int .i64 0),(.int .i64 0),.nilS]) 6),n2 11 19 (.store 6)] (.seq (.dreg [o1 21 11 l6,v_ 22 0,o1 23 22 .nilCheck,o1 24 23 (.faddr false 6 1),o1 25 24 ld,v_ 26 2,v_ 27 2,v_ 28 3,o2 29 27 28 bad_,o3 30 25 26 29 (.slice 1 true true false),k2 31 103 21 30,v_ 20 31,o1 32 20 (.extract 0),o1 33 20 (.extract 1),v_ 12 32,v_ 13 33]) (.reg [v_ 34 9,v_ 35 12,o1 36 35 (.conv .i32),o1 37 36 (.bslice 1 1 (.int .i32 0) [0]),o2 38 34 37 (.app 1 4 (.int .i32 0)),v_ 9 38])))) (.reg [i1_ 39 16,v_ 16 39]))))))) (sr_ [v_ 40 9,v_ 8 40] .ret))))
theorem K7:AS Tryz.prog 64 4=some ⟨41,4,[(.slot 8)],Hq⟩:=by kernel_rfl
def Ic:AC:=(sr_ [bf_ 6] (.seq (sr_ [v_ 9 1,o1 10 9 ln,v_ 11 0,o1 12 11 .nilCheck,o1 13 12 (.faddr false 6 1),o1 14 13 ld,o1 15 14 ln,v_ 16 2,o2 17 15 16 bsu_,o2 18 10 17 bgt_] (i_ 18 (sr_ [bf_ 6] .ret) .skip)) (.seq (sr_ [v_ 19 1,o1 20 19 ln,z_ 21] (.block 0 (.loop (sr_ [o2 22 21 20 bls_] (.seq (ex_ 22 0) (.seq (.block 1 (sr_ [v_ 23 21,o2 24 19 21 a1_,o1 25 24 ld,v_ 7 23,v_ 8 25] (sr_ [v_ 26 8,v_ 27 0,o1 28 27 .nilCheck,o1 29 28 (.faddr false 6 1),o1 30 29 ld,v_ 31 2,v_ 32 7,o2 33 31 32 bad_,o2 34 30 33 a1_,o1 35 34 ld,o1 36 35 (.conv .i64),k2 37 104 26 36,o1 38 37 nt] (i_ 38 (sr_ [bf_ 6] .ret) .skip)))) (.reg [i1_ 39 21,v_ 21 39]))))))) (sr_ [bt_ 6] .ret))))
theorem Mn:AS Tryz.prog 65 3=some ⟨40,3,[(.slot 6)],Ic⟩:=by kernel_rfl
def EJ:AC:=(sr_ [ns_ 2] (sr_ [z_ 3] (.seq (sr_ [v_ 9 0,o1 10 9 ln,z_ 11] (.block 0 (.loop (sr_ [o2 12 11 10 bls_] (.seq (ex_ 12 0) (.seq (.block 1 (sr_ [o2 13 9 11 a1_,o1 14 13 ld,v_ 5 14] (sr_ [v_ 15 3,v_ 16 5,o1 17 16 ln,o2 18 15 17 bad_,v_ 3 18] (sr_ [v_ 19 3,c2 20 19 (.int .i64 0) bls_] (i_ 20 (.reg [c1 21 (.str [108,101,110,32,111,117,116,32,111,102,32,114,97,110,103,101]) .no,h_ [s_ 21] .no]) .skip))))) (.reg [i1_ 22 11,v_ 11 22]))))))) (sr_ [v_ 23 3,m_ 24 [k_ (.fn 105 []),k_ .nilS,s_ 23] .call,v_ 6 24] (.seq (sr_ [v_ 25 0,o1 26 25 ln,z_ 27] (.block 2 (.loop (sr_ [o2 28 27 26 bls_] (.seq (ex_ 28 2) (.seq (.block 3 (sr_ [o2 29 25 27 a1_,o1 30 29 ld,v_ 8 30] (.reg [v_ 31 6,v_ 32 8,o2 33 31 32 (.app 1 4 (.int .i32 0)),v_ 6 33]))) (.reg [i1_ 34 27,v_ 27 34]))))))) (sr_ [v_ 35 6,v_ 2 35] .ret))))))
theorem FW:AS Tryz.prog 66 1=some ⟨36,1,[(.slot 2)],EJ⟩:=by kernel_rfl
def Ow:AC:=(sr_ [ns_ 2] (sr_ [v_ 6 0,o1 7 6 ln,o2 8 7 7 (.mkSlice 1 24 .nilS),v_ 3 8] (.seq (sr_ [v_ 9 0,o1 10 9 ln,z_ 11] (.block 0 (.loop (sr_ [o2 12 11 10 bls_] (.seq (ex_ 12 0) (.seq (.block 1 (sr_ [v_ 13 11,o2 14 9 11 a1_,o1 15 14 ld,v_ 4 13,v_ 5 15] (.reg [v_ 16 3,v_ 17 4,v_ 18 5,k1 19 106 18,o2 20 16 17 a1_,n2 20 19 st]))) (.reg [i1_ 21 11,v_ 11 21]))))))) (sr_ [v_ 22 3,m_ 23 [k_ (.fn 107 []),s_ 22,k_ (.fn 77 [])] .call] (sr_ [v_ 24 3,m_ 25 [k_ (.fn 108 []),s_ 24,k_ (.fn 109 [])] .call,v_ 2 25] .ret)))))
theorem Ww:AS Tryz.prog 67 1=some ⟨26,1,[(.slot 2)],Ow⟩:=by kernel_rfl
def MD:AC:=(sr_ [bf_ 6] (.seq (sr_ [v_ 8 1,o1 9 8 ln,v_ 10 2,o2 11 9 10 bsu_,v_ 12 0,o1 13 12 ln,o2 14 11 13 bls_] (i_ 14 (sr_ [bf_ 6] .ret) .skip)) (.seq (sr_ [z_ 7] (.block 0 (.loop (.seq (sr_ [v_ 15 7,v_ 16 0,o1 17 16 ln,o2 18 15 17 bls_] (ex_ 18 0)) (.seq (.block 1 (.seq (.dtl [v_ 21 0,v_ 22 7,o2 23 21 22 a1_,o1 24 23 ld,v_ 25 1,v_ 26 2,v_ 27 7,o2 28 26 27 bad_,o2 29 25 28 a1_,o1 30 29 ld,o1 31 30 (.conv .i64)] [k2 32 110 24 31,o1 33 32 nt]) (i_ 33 (sr_ [bf_ 6] .ret) .skip))) (.reg [v_ 19 7,i1_ 20 19,v_ 7 20])))))) (sr_ [bt_ 6] .ret))))
theorem U8:AS Tryz.prog 68 3=some ⟨34,3,[(.slot 6)],MD⟩:=by kernel_rfl
def Ox:AC:=(sr_ [ns_ 4] (sr_ [v_ 10 0,o1 11 10 ln,z_ 5,v_ 6 11] (.seq (.block 0 (.loop (.seq (sr_ [v_ 12 5,v_ 13 6,o2 14 12 13 bls_] (ex_ 14 0)) (.block 1 (sr_ [v_ 15 5,v_ 16 6,o2 17 15 16 bad_,c2 18 17 (.int .i64 2) (.bin .quo),v_ 7 18] (sr_ [v_ 19 0,v_ 20 7,o2 21 19 20 a1_,o1 22 21 ld,v_ 23 1,k2 24 111 22 23,c2 25 24 (.int .i64 0) bls_] (i_ 25 (.reg [v_ 26 7,i1_ 27 26,v_ 5 27]) (.reg [v_ 28 7,v_ 6 28])))))))) (.seq (sr_ [v_ 29 5,v_ 30 0,o1 31 30 ln,o2 32 29 31 bls_,v_ 33 32,g1 34 33 0 .mv,g1 35 33 5 .mv,g2 36 33 34 35 a1_,g1 37 33 36 ld,g1 38 33 1 .mv,g_ 39 33 true [k_ (.fn 111 []),s_ 37,s_ 38] .call,g_ 40 33 true [s_ 39,k_ (.int .i64 0)] beq_,m_ 41 [s_ 33,s_ 40,k_ (.bool false)] .pick] (i_ 41 (sr_ [v_ 42 0,v_ 4 42] .ret) .skip)) (sr_ [ns_ 8] (.seq (sr_ [z_ 9] (.block 2 (.loop (.seq (sr_ [v_ 43 9,v_ 44 0,o1 45 44 ln,o2 46 43 45 bls_] (ex_ 46 2)) (.seq (.block 3 (.seq (sr_ [v_ 49 9,v_ 50 5,o2 51 49 50 beq_] (i_ 51 (.reg [v_ 52 8,v_ 53 1,o1 54 53 (.bslice 1 1 .nilS [0]),o2 55 52 54 (.app 1 24 .nilS),v_ 8 55]) .skip)) (.reg [v_ 56 8,v_ 57 0,v_ 58 9,o2 59 57 58 a1_,o1 60 59 ld,o1 61 60 (.bslice 1 1 .nilS [0]),o2 62 56 61 (.app 1 24 .nilS),v_ 8 62]))) (.reg [v_ 47 9,i1_ 48 47,v_ 9 48])))))) (.seq (sr_ [v_ 63 5,v_ 64 0,o1 65 64 ln,o2 66 63 65 beq_] (i_ 66 (.reg [v_ 67 8,v_ 68 1,o1 69 68 (.bslice 1 1 .nilS [0]),o2 70 67 69 (.app 1 24 .nilS),v_ 8 70]) .skip)) (sr_ [v_ 71 8,v_ 4 71] .ret))))))))
theorem Wx:AS Tryz.prog 69 2=some ⟨72,2,[(.slot 4)],Ox⟩:=by kernel_rfl
def ME:AC:=(sr_ [ns_ 4] (sr_ [ns_ 5] (sr_ [v_ 6 5,v_ 7 0,o2 8 6 7 (.app 1 4 (.int .i32 0)),v_ 5 8] (sr_ [v_ 9 5,v_ 10 1,o2 11 9 10 (.app 1 4 (.int .i32 0)),v_ 4 11] .ret))))
theorem U9:AS Tryz.prog 70 2=some ⟨12,2,[(.slot 4)],ME⟩:=by kernel_rfl
def Ke:AC:=(sr_ [ns_ 4] (sr_ [ns_ 5] (.seq (sr_ [z_ 6] (.block 0 (.loop (.seq (sr_ [v_ 9 6,v_ 10 0,o1 11 10 ln,o2 12 9 11 bls_] (ex_ 12 0)) (.seq (.block 1 (sr_ [v_ 16 0,v_ 17 6,o2 18 16 17 a6_,o1 19 18 l6,v_ 20 1,k2 21 112 19 20,v_ 15 21,o1 22 15 (.extract 0),o1 23 15 (.extract 1),v_ 7 22,v_ 8 23] (.reg [v_ 24 5,v_ 25 7,o1 26 25 (.conv .i32),o1 27 26 (.bslice 1 1 (.int .i32 0) [0]),o2 28 24 27 (.app 1 4 (.int .i32 0)),v_ 5 28]))) (.reg [v_ 13 6,i1_ 14 13,v_ 6 14])))))) (sr_ [v_ 29 5,v_ 4 29] .ret))))
theorem PR:AS Tryz.prog 71 2=some ⟨30,2,[(.slot 4)],Ke⟩:=by kernel_rfl
def Lk:AC:=(sr_ [ns_ 2] (.seq (sr_ [v_ 3 0] (.block 0 (sr_ [c2 5 3 (.int .i64 1) beq_,v_ 4 5] (i_ 4 (sr_ [m_ 6 [k_ (.int .i64 0),k_ (.int .i64 255)] (.build [(.int .i64 0),(.int .i64 0)] [(0,1),(1,1)] [0,1]),o1 7 6 (.bslice 2 1 (.agg [(.int .i64 0),(.int .i64 0)]) [0]),v_ 2 7] .ret) (sr_ [c2 9 3 (.int .i64 2) beq_,v_ 8 9] (i_ 8 (sr_ [m_ 10 [k_ (.int .i64 0),k_ (.int .i64 55295)] (.build [(.int .i64 0),(.int .i64 0)] [(0,1),(1,1)] [0,1]),m_ 11 [k_ (.int .i64 57344),k_ (.int .i64 1114111)] (.build [(.int .i64 0),(.int .i64 0)] [(0,1),(1,1)] [0,1]),o2 12 10 11 (.bslice 2 2 (.agg [(.int .i64 0),(.int .i64 0)]) [0,1]),v_ 2 12] .ret) .skip)))))) (sr_ [ns_ 2] .ret)))
theorem Sg:AS Tryz.prog 72 1=some ⟨13,1,[(.slot 2)],Lk⟩:=by kernel_rfl
def QB:AC:=(sr_ [bf_ 4] (.seq (sr_ [v_ 5 0,c2 6 5 (.int .i64 1) beq_] (i_ 6 (sr_ [v_ 7 1,m_ 8 [k_ (.int .i32 0),s_ 7] ble_,v_ 9 8,g1 10 9 1 .mv,g_ 11 9 true [s_ 10,k_ (.int .i32 256)] bls_,m_ 12 [s_ 9,s_ 11,k_ (.bool false)] .pick,v_ 4 12] .ret) .skip)) (sr_ [v_ 13 0,c2 14 13 (.int .i64 2) beq_,v_ 15 14,g1 16 15 1 .mv,g_ 17 15 true [k_ (.int .i32 0),s_ 16] ble_,m_ 18 [s_ 15,s_ 17,k_ (.bool false)] .pick,v_ 19 18,g1 20 19 1 .mv,g_ 21 19 true [s_ 20,k_ (.int .i32 1114112)] bls_,m_ 22 [s_ 19,s_ 21,k_ (.bool false)] .pick,v_ 23 22,g1 24 23 1 .mv,g_ 25 23 true [k_ (.int .i32 55296),s_ 24] ble_,g1 26 23 25 .mv,g1 27 26 1 .mv,g_ 28 26 true [s_ 27,k_ (.int .i32 57344)] bls_,g_ 29 23 true [s_ 26,s_ 28,k_ (.bool false)] .pick,g1 30 23 29 nt,m_ 31 [s_ 23,s_ 30,k_ (.bool false)] .pick,v_ 4 31] .ret)))
theorem z0a:AS Tryz.prog 74 2=some ⟨32,2,[(.slot 4)],QB⟩:=by kernel_rfl
def Ll:AC:=(sr_ [v_ 17 0,o1 18 2 f2_,o1 19 18 ld,o2 20 17 19 (.bin .mul),v_ 21 1,o2 22 20 21 bad_,o0 8 (.alloc (.int .i64 0) 1),n2 8 22 st] (sr_ [o3 23 3 8 4 (.mkFunc 76),v_ 9 23] (.seq (sr_ [o1 24 5 ld,o1 25 24 .nilCheck,o1 26 25 (.faddr false 8 1),o1 27 26 ld,v_ 28 1,o2 29 27 28 a1_,o1 30 29 ld,o1 31 30 ln,z_ 32] (.block 0 (.loop (sr_ [o2 33 32 31 bls_] (.seq (ex_ 33 0) (.seq (.block 1 (sr_ [o2 34 30 32 a1_,o1 35 34 ld,v_ 11 35] (sr_ [o1 36 2 f5_,o1 37 36 ld,v_ 38 11,o2 39 37 38 a3_,o1 40 39 (.load true 3),o0 12 (.alloc (.agg [(.int .i64 0),.nilS,.nilS]) 3),n2 12 40 (.store 3)] (sr_ [o1 41 5 ld,o1 42 12 (.load true 3),v_ 43 0,k3 44 63 41 42 43] (i_ 44 (.reg [v_ 45 9,o1 46 5 ld,o1 47 12 f2_,o1 48 47 ld,v_ 49 0,o1 50 12 f1_,o1 51 50 ld,o1 52 51 ln,m_ 53 [k_ (.fn 64 []),s_ 46,s_ 48,s_ 49,s_ 52] .call,o2 54 45 53 .call]) .skip))))) (.reg [i1_ 55 32,v_ 32 55]))))))) (sr_ [o1 56 5 ld,o1 57 56 .nilCheck,o1 58 57 (.faddr false 7 1),o1 59 58 ld,v_ 60 1,o2 61 59 60 a1_,o1 62 61 ld,o1 63 62 ln,z_ 64] (.block 2 (.loop (sr_ [o2 65 64 63 bls_] (.seq (ex_ 65 2) (.seq (.block 3 (sr_ [o2 66 62 64 a1_,o1 67 66 ld,v_ 14 67] (sr_ [o1 68 2 f4_,o1 69 68 ld,v_ 70 14,o2 71 69 70 a5_,o1 72 71 (.load true 5),o0 15 (.alloc (.agg [(.int .i64 0),(.int .i64 0),.nilS,(.int .i64 0),.nilS]) 5),n2 15 72 (.store 5)] (sr_ [v_ 73 0,o1 74 15 f3_,o1 75 74 ld,o2 76 73 75 bad_,o1 77 2 f2_,o1 78 77 ld,o2 79 76 78 (.bin .mul),o1 80 15 f1_,o1 81 80 ld,o2 82 79 81 bad_,v_ 16 82] (sr_ [o1 83 5 ld,o1 84 15 f2_,o1 85 84 ld,v_ 86 0,k3 87 65 83 85 86,v_ 88 87,g1 89 88 3 ld,g1 90 88 16 .mv,g2 91 88 89 90 a1_,g1 92 88 91 ld,m_ 93 [s_ 88,s_ 92,k_ (.bool false)] .pick] (i_ 93 (.dtl [v_ 94 9,o1 95 5 ld,o1 96 15 f4_,o1 97 96 ld,v_ 98 0,o1 99 15 f2_,o1 100 99 ld,o1 101 100 ln,m_ 102 [k_ (.fn 64 []),s_ 95,s_ 97,s_ 98,s_ 101] .call,o1 103 4 ld,v_ 104 16,o2 105 103 104 a1_,o1 106 105 ld,o2 107 102 106 (.bslice 1 2 .nilS [0,1]),k1 108 66 107] [o2 109 94 108 .call]) .skip)))))) (.reg [i1_ 110 64,v_ 64 110]))))))))))
theorem Si:AS Tryz.prog 75 6=some ⟨111,6,[],Ll⟩:=by kernel_rfl
def Jh:AC:=(sr_ [o1 5 1 ld,o1 6 2 ld,o2 7 5 6 a1_,o1 8 7 ld,o1 9 8 nt,v_ 10 9,g_ 11 10 false [s_ 0] .mv,g_ 12 10 false [s_ 3] ld,g_ 13 10 false [s_ 2] ld,g_ 14 10 false [s_ 12,s_ 13] a1_,g_ 15 10 false [s_ 14] ld,g_ 16 10 false [k_ (.fn 77 []),s_ 11,s_ 15] .call,g_ 17 10 false [s_ 16,k_ (.int .i64 0)] bls_,m_ 18 [s_ 10,k_ (.bool true),s_ 17] .pick] (i_ 18 (.gry [false,false,true,true,false,false,false,false,false] [m_ 19 [s_ 3] ld,m_ 20 [s_ 2] ld,m_ 21 [s_ 1] ld,m_ 22 [s_ 2] ld,m_ 23 [s_ 0] .mv,m_ 24 [s_ 19,s_ 20] a1_,h_ [s_ 24,s_ 23] st,m_ 25 [s_ 21,s_ 22] a1_,h_ [s_ 25,k_ (.bool true)] st]) .skip))
theorem Oy:AS Tryz.prog 76 4=some ⟨26,4,[],Jh⟩:=by kernel_rfl
def Kf:AC:=(sr_ [z_ 4] (sr_ [v_ 6 0,v_ 7 1,k2 8 114 6 7,v_ 5 8] (.seq (.block 0 (sr_ [v_ 10 5,v_ 11 0,o1 12 11 ln,o2 13 10 12 beq_,v_ 14 13,g1 15 14 5 .mv,g1 16 14 1 .mv,g1 17 14 16 ln,g2 18 14 15 17 beq_,m_ 19 [s_ 14,s_ 18,k_ (.bool false)] .pick,v_ 9 19] (i_ 9 (sr_ [z_ 4] .ret) (sr_ [v_ 21 5,v_ 22 0,o1 23 22 ln,o2 24 21 23 beq_,v_ 20 24] (i_ 20 (sr_ [c1 4 (.int .i64 (-1)) .mv] .ret) (sr_ [v_ 26 5,v_ 27 1,o1 28 27 ln,o2 29 26 28 beq_,v_ 25 29] (i_ 25 (sr_ [c1 4 (.int .i64 1) .mv] .ret) .skip))))))) (.seq (.dtl [v_ 30 0,v_ 31 5,o2 32 30 31 a1_,o1 33 32 ld,v_ 34 1,v_ 35 5,o2 36 34 35 a1_,o1 37 36 ld] [k2 38 115 33 37,v_ 4 38]) .ret))))
theorem PT:AS Tryz.prog 77 2=some ⟨39,2,[(.slot 4)],Kf⟩:=by kernel_rfl
def Ji:AC:=(sr_ [o1 15 2 ld,o1 16 15 ln,i1_ 17 16,o2 18 17 17 (.mkSlice 1 1 (.bool false)),v_ 8 18] (.seq (sr_ [o1 19 3 ld,o1 20 19 .nilCheck,o1 21 20 (.faddr false 8 1),o1 22 21 ld,v_ 23 1,o2 24 22 23 a1_,o1 25 24 ld,o1 26 25 ln,z_ 27] (.block 0 (.loop (sr_ [o2 28 27 26 bls_] (.seq (ex_ 28 0) (.seq (.block 1 (sr_ [o2 29 25 27 a1_,o1 30 29 ld,v_ 10 30] (sr_ [o1 31 4 f5_,o1 32 31 ld,v_ 33 10,o2 34 32 33 a3_,o1 35 34 (.load true 3),o0 11 (.alloc (.agg [(.int .i64 0),.nilS,.nilS]) 3),n2 11 35 (.store 3)] (sr_ [o1 36 3 ld,o1 37 11 (.load true 3),v_ 38 0,k3 39 63 36 37 38] (i_ 39 (.dtl [v_ 40 8,o1 41 2 ld,o1 42 3 ld,o1 43 11 f2_,o1 44 43 ld,v_ 45 0,o1 46 11 f1_,o1 47 46 ld,o1 48 47 ln,m_ 49 [k_ (.fn 64 []),s_ 42,s_ 44,s_ 45,s_ 48] .call] [m_ 50 [k_ (.fn 81 []),s_ 40,s_ 41,s_ 49,k_ .nilS] .call]) .skip))))) (.reg [i1_ 51 27,v_ 27 51]))))))) (.seq (sr_ [o1 52 3 ld,o1 53 52 .nilCheck,o1 54 53 (.faddr false 7 1),o1 55 54 ld,v_ 56 1,o2 57 55 56 a1_,o1 58 57 ld,o1 59 58 ln,z_ 60] (.block 2 (.loop (sr_ [o2 61 60 59 bls_] (.seq (ex_ 61 2) (.seq (.block 3 (sr_ [o2 62 58 60 a1_,o1 63 62 ld,v_ 13 63] (sr_ [o1 64 4 f4_,o1 65 64 ld,v_ 66 13,o2 67 65 66 a5_,o1 68 67 (.load true 5),o0 14 (.alloc (.agg [(.int .i64 0),(.int .i64 0),.nilS,(.int .i64 0),.nilS]) 5),n2 14 68 (.store 5)] (sr_ [o1 69 3 ld,o1 70 14 f2_,o1 71 70 ld,v_ 72 0,k3 73 65 69 71 72] (i_ 73 (.dtl [v_ 74 8,o1 75 2 ld,o1 76 3 ld,o1 77 14 f4_,o1 78 77 ld,v_ 79 0,o1 80 14 f2_,o1 81 80 ld,o1 82 81 ln,m_ 83 [k_ (.fn 64 []),s_ 76,s_ 78,s_ 79,s_ 82] .call,o1 84 5 ld,v_ 85 0,o1 86 14 f3_,o1 87 86 ld,o2 88 85 87 bad_,o1 89 4 f2_,o1 90 89 ld,o2 91 88 90 (.bin .mul),o1 92 14 f1_,o1 93 92 ld,o2 94 91 93 bad_,o2 95 84 94 a1_,o1 96 95 ld] [m_ 97 [k_ (.fn 81 []),s_ 74,s_ 75,s_ 83,s_ 96] .call]) .skip))))) (.reg [i1_ 98 60,v_ 60 98]))))))) (.reg [o1 99 5 ld,v_ 100 0,o1 101 4 f2_,o1 102 101 ld,o2 103 100 102 (.bin .mul),v_ 104 1,o2 105 103 104 bad_,v_ 106 8,o2 107 99 105 a1_,n2 107 106 st]))))
theorem Oz:AS Tryz.prog 80 6=some ⟨108,6,[],Ji⟩:=by kernel_rfl
def QC:AC:=(sr_ [v_ 10 0,o1 11 10 ln,z_ 12] (.block 0 (.loop (sr_ [o2 13 12 11 bls_] (.seq (ex_ 13 0) (.seq (.block 1 (sr_ [v_ 14 12,v_ 8 14] (.seq (sr_ [v_ 15 8,v_ 16 2,o1 17 16 ln,o2 18 15 17 bls_,v_ 19 18,g_ 20 19 false [s_ 1] .mv,g_ 21 19 false [s_ 1] .mv,g_ 22 19 false [s_ 21] ln,g_ 23 19 false [s_ 8] .mv,g_ 24 19 false [s_ 22,s_ 23] bsu_,g_ 25 19 false [s_ 1] .mv,g_ 26 19 false [s_ 25] ln,g_ 27 19 false [s_ 8] .mv,g_ 28 19 false [s_ 26,s_ 27] bsu_,g_ 29 19 false [s_ 2] .mv,g_ 30 19 false [s_ 29] ln,g_ 31 19 false [s_ 28,s_ 30] bad_,g_ 32 19 false [s_ 20,s_ 24,s_ 31] (.slice 1 true true false),g_ 33 19 false [s_ 2] .mv,g_ 34 19 false [k_ (.fn 116 []),s_ 32,s_ 33] .call,g_ 35 19 false [s_ 34] nt,m_ 36 [s_ 19,k_ (.bool true),s_ 35] .pick] (i_ 36 (.exit 1) .skip)) (sr_ [v_ 37 8,v_ 38 2,o1 39 38 ln,o2 40 37 39 bsu_,v_ 9 40] (sr_ [v_ 41 3,c2 42 41 .nilS (.eqn false),v_ 43 42,g1 44 43 9 .mv,g_ 45 43 true [s_ 44,k_ (.int .i64 0)] beq_,m_ 46 [s_ 43,s_ 45,k_ (.bool false)] .pick,v_ 47 46,g_ 48 47 false [s_ 3] .mv,g_ 49 47 false [s_ 48,k_ .nilS] (.eqn true),g_ 50 47 false [s_ 49] .mv,g1 51 50 3 .mv,g1 52 50 9 .mv,g2 53 50 51 52 a1_,g1 54 50 53 ld,g_ 55 47 false [s_ 50,s_ 54,k_ (.bool false)] .pick,m_ 56 [s_ 47,k_ (.bool true),s_ 55] .pick] (i_ 56 (.reg [v_ 57 0,v_ 58 8,o2 59 57 58 a1_,h_ [s_ 59,k_ (.bool true)] st]) .skip)))))) (.reg [i1_ 60 12,v_ 12 60])))))))
theorem z0b:AS Tryz.prog 81 4=some ⟨61,4,[],QC⟩:=by kernel_rfl
def MF:AC:=(sr_ [o1 1 0 .box,z_ 2,z_ 3] (.seq (sr_ [o1 8 1 l6,k1 9 117 8,o1 10 9 nt] (i_ 10 (sr_ [c1 2 (.int .i64 1) .mv,z_ 3] .ret) .skip)) (.seq (sr_ [o1 11 1 f4_,o1 12 11 ld,o1 13 12 ln,z_ 14] (.block 0 (.loop (sr_ [o2 15 14 13 bls_] (.seq (ex_ 15 0) (.seq (.block 1 (sr_ [v_ 16 14,o2 17 12 14 a5_,o1 18 17 (.load true 5),o0 5 (.alloc (.agg [(.int .i64 0),(.int .i64 0),.nilS,(.int .i64 0),.nilS]) 5),v_ 4 16,n2 5 18 (.store 5)] (sr_ [o1 19 1 l6,o1 20 5 (.load true 5),k2 21 118 19 20,o1 22 21 nt] (i_ 22 (sr_ [v_ 23 4,c1 2 (.int .i64 2) .mv,v_ 3 23] .ret) .skip)))) (.reg [i1_ 24 14,v_ 14 24]))))))) (.seq (sr_ [o1 25 1 f5_,o1 26 25 ld,o1 27 26 ln,z_ 28] (.block 2 (.loop (sr_ [o2 29 28 27 bls_] (.seq (ex_ 29 2) (.seq (.block 3 (sr_ [v_ 30 28,o2 31 26 28 a3_,o1 32 31 (.load true 3),o0 7 (.alloc (.agg [(.int .i64 0),.nilS,.nilS]) 3),v_ 6 30,n2 7 32 (.store 3)] (sr_ [o1 33 1 l6,o1 34 7 f0_,o1 35 34 ld,k2 36 119 33 35,o1 37 36 nt,v_ 38 37,g_ 39 38 false [s_ 1] f0_,g_ 40 38 false [s_ 39] ld,g_ 41 38 false [s_ 7] f1_,g_ 42 38 false [s_ 41] ld,g_ 43 38 false [k_ (.fn 120 []),s_ 40,s_ 42] .call,g_ 44 38 false [s_ 43] nt,m_ 45 [s_ 38,k_ (.bool true),s_ 44] .pick,v_ 46 45,g_ 47 46 false [s_ 1] l6,g_ 48 46 false [s_ 7] f2_,g_ 49 46 false [s_ 48] ld,g_ 50 46 false [s_ 7] f1_,g_ 51 46 false [s_ 50] ld,g_ 52 46 false [k_ (.fn 121 []),s_ 47,s_ 49,s_ 51] .call,g_ 53 46 false [s_ 52] nt,m_ 54 [s_ 46,k_ (.bool true),s_ 53] .pick] (i_ 54 (sr_ [v_ 55 6,c1 2 (.int .i64 3) .mv,v_ 3 55] .ret) .skip)))) (.reg [i1_ 56 28,v_ 28 56]))))))) (.seq (sr_ [o1 57 1 l6,k1 58 122 57] (i_ 58 (sr_ [c1 2 (.int .i64 4) .mv,z_ 3] .ret) .skip)) (sr_ [z_ 2,z_ 3] .ret))))))
theorem UA:AS Tryz.prog 82 1=some ⟨59,1,[(.slot 2),(.slot 3)],MF⟩:=by kernel_rfl
set_option maxRecDepth 100000
def Kg:AC:=(sr_ [bf_ 4] (.seq (sr_ [z_ 5] (.block 0 (.loop (.seq (sr_ [v_ 7 5,v_ 8 1,o1 9 8 ln,o2 10 7 9 bls_] (ex_ 10 0)) (.seq (.block 1 (sr_ [v_ 13 1,v_ 14 5,o2 15 13 14 a1_,o1 16 15 ld,v_ 6 16] (sr_ [v_ 17 6,o1 18 17 ln,c2 19 18 (.int .i64 0) beq_,v_ 20 19,g_ 21 20 false [s_ 6] .mv,g_ 22 20 false [s_ 21] ln,g_ 23 20 false [s_ 22,k_ (.int .i64 64)] bgt_,m_ 24 [s_ 20,k_ (.bool true),s_ 23] .pick,v_ 25 24,g_ 26 25 false [s_ 6] .mv,g_ 27 25 false [s_ 6] .mv,g_ 28 25 false [k_ (.fn 128 []),s_ 27] .call,g_ 29 25 false [k_ (.fn 98 []),s_ 26,s_ 28] .call,g_ 30 25 false [s_ 29] nt,m_ 31 [s_ 25,k_ (.bool true),s_ 30] .pick,v_ 32 31,g_ 33 32 false [s_ 6] .mv,g_ 34 32 false [s_ 0] .mv,g_ 35 32 false [k_ (.fn 130 []),s_ 34] .call,g_ 36 32 false [k_ (.fn 129 []),s_ 33,s_ 35,k_ (.int .i64 2)] .call,g_ 37 32 false [s_ 36] ln,g_ 38 32 false [s_ 37,k_ (.int .i64 0)] bgt_,m_ 39 [s_ 32,k_ (.bool true),s_ 38] .pick] (i_ 39 (sr_ [bf_ 4] .ret) .skip)))) (.reg [v_ 11 5,i1_ 12 11,v_ 5 12])))))) (sr_ [v_ 40 1,o1 41 40 ln,c2 42 41 (.int .i64 4) ble_,v_ 4 42] .ret)))
theorem PU:AS Tryz.prog 91 2=some ⟨43,2,[(.slot 4)],Kg⟩:=by kernel_rfl
def Kh:AC:=(sr_ [o1 3 0 .box,bf_ 6] (.seq (sr_ [z_ 7] (.block 0 (.loop (.seq (sr_ [v_ 8 7,v_ 9 1,o1 10 9 ln,o2 11 8 10 bls_,v_ 12 11,g1 13 12 1 .mv,g1 14 12 13 ln,g_ 15 12 true [s_ 14,k_ (.int .i64 64)] ble_,m_ 16 [s_ 12,s_ 15,k_ (.bool false)] .pick] (ex_ 16 0)) (.seq (.block 1 (.seq (.dtl [v_ 19 1,v_ 20 7,o2 21 19 20 a6_,o1 22 21 l6,o1 23 3 f0_,o1 24 23 ld,o1 25 3 f1_,o1 26 25 ld,v_ 27 2] [m_ 28 [k_ (.fn 131 []),s_ 22,s_ 24,s_ 26,s_ 27] .call,o1 29 28 nt]) (i_ 29 (sr_ [bf_ 6] .ret) .skip))) (.reg [v_ 17 7,i1_ 18 17,v_ 7 18])))))) (sr_ [v_ 30 1,o1 31 30 ln,c2 32 31 (.int .i64 64) ble_,v_ 6 32] .ret)))
theorem PV:AS Tryz.prog 92 3=some ⟨33,3,[(.slot 6)],Kh⟩:=by kernel_rfl
def Lm:AC:=(sr_ [o1 1 0 .box,bf_ 2] (sr_ [o1 9 1 f2_,o1 10 9 ld,o2 11 10 10 (.mkSlice 1 1 (.bool false)),v_ 3 11] (.seq (sr_ [v_ 12 3,o1 13 12 ln,z_ 14] (.block 0 (.loop (sr_ [o2 15 14 13 bls_] (.seq (ex_ 15 0) (.seq (.block 1 (sr_ [v_ 16 14,v_ 4 16] (.reg [v_ 17 3,v_ 18 4,o2 19 17 18 a1_,h_ [s_ 19,k_ (.bool true)] st]))) (.reg [i1_ 20 14,v_ 14 20]))))))) (.seq (sr_ [z_ 5] (.block 2 (.loop (.seq (sr_ [v_ 21 5,o1 22 1 f2_,o1 23 22 ld,o2 24 21 23 ble_] (ex_ 24 2)) (.seq (.block 3 (sr_ [o1 27 1 f2_,o1 28 27 ld,o2 29 28 28 (.mkSlice 1 1 (.bool false)),v_ 6 29] (sr_ [bf_ 7] (.seq (sr_ [z_ 8] (.block 4 (.loop (.seq (sr_ [v_ 30 8,o1 31 1 f4_,o1 32 31 ld,o1 33 32 ln,o2 34 30 33 bls_] (ex_ 34 4)) (.seq (.block 5 (sr_ [o1 37 1 f4_,o1 38 37 ld,v_ 39 8,o2 40 38 39 a5_,o1 41 40 f2_,o1 42 41 ld,o1 43 42 ln,c2 44 43 (.int .i64 0) beq_,v_ 45 44,g1 46 45 3 .mv,g1 47 45 1 f4_,g1 48 45 47 ld,g1 49 45 8 .mv,g2 50 45 48 49 a5_,g1 51 45 50 f0_,g1 52 45 51 ld,g2 53 45 46 52 a1_,g1 54 45 53 ld,m_ 55 [s_ 45,s_ 54,k_ (.bool false)] .pick] (i_ 55 (sr_ [v_ 56 6,o1 57 1 f4_,o1 58 57 ld,v_ 59 8,o2 60 58 59 a5_,o1 61 60 f1_,o1 62 61 ld,o2 63 56 62 a1_,h_ [s_ 63,k_ (.bool true)] st] (.reg [bt_ 7])) .skip))) (.reg [v_ 35 8,i1_ 36 35,v_ 8 36])))))) (.seq (sr_ [v_ 64 7,o1 65 64 nt] (i_ 65 (sr_ [bf_ 2] .ret) .skip)) (.reg [v_ 66 6,v_ 3 66])))))) (.reg [v_ 25 5,i1_ 26 25,v_ 5 26])))))) (sr_ [bt_ 2] .ret)))))
theorem Sj:AS Tryz.prog 93 1=some ⟨67,1,[(.slot 2)],Lm⟩:=by kernel_rfl
def MG:AC:=(sr_ [bf_ 4] (.seq (sr_ [v_ 6 0,o1 7 6 ln,v_ 8 1,o1 9 8 ln,o2 10 7 9 bne_] (i_ 10 (sr_ [bf_ 4] .ret) .skip)) (.seq (sr_ [z_ 5] (.block 0 (.loop (.seq (sr_ [v_ 11 5,v_ 12 0,o1 13 12 ln,o2 14 11 13 bls_] (ex_ 14 0)) (.seq (.block 1 (.seq (.dreg [v_ 17 0,v_ 18 5,o2 19 17 18 a2_,o1 20 19 (.load true 2),v_ 21 1,v_ 22 5,o2 23 21 22 a2_,o1 24 23 (.load true 2),o2 25 20 24 (.eqs true [1,1])]) (i_ 25 (sr_ [bf_ 4] .ret) .skip))) (.reg [v_ 15 5,i1_ 16 15,v_ 5 16])))))) (sr_ [bt_ 4] .ret))))
theorem UB:AS Tryz.prog 98 2=some ⟨26,2,[(.slot 4)],MG⟩:=by kernel_rfl
def O0:AC:=(sr_ [bf_ 4] (.seq (sr_ [v_ 7 1,o1 8 7 ln,z_ 9] (.block 0 (.loop (sr_ [o2 10 9 8 bls_] (.seq (ex_ 10 0) (.seq (.block 1 (sr_ [o2 11 7 9 a1_,o1 12 11 ld,v_ 6 12] (sr_ [v_ 13 0,v_ 14 6,k2 15 133 13 14,o1 16 15 nt] (i_ 16 (sr_ [bf_ 4] .ret) .skip)))) (.reg [i1_ 17 9,v_ 9 17]))))))) (sr_ [bt_ 4] .ret)))
theorem Wy:AS Tryz.prog 100 2=some ⟨18,2,[(.slot 4)],O0⟩:=by kernel_rfl
def Ie:AC:=(.seq (sr_ [v_ 9 2,v_ 10 1,o2 11 9 10 a1_,o1 12 11 ld] (i_ 12 .ret .skip)) (sr_ [v_ 13 2,v_ 14 1,o2 15 13 14 a1_,h_ [s_ 15,k_ (.bool true)] st] (.seq (sr_ [v_ 16 0,o1 17 16 .nilCheck,o1 18 17 (.faddr false 7 1),o1 19 18 ld,v_ 20 1,o2 21 19 20 a1_,o1 22 21 ld,o1 23 22 ln,z_ 24] (.block 0 (.loop (sr_ [o2 25 24 23 bls_] (.seq (ex_ 25 0) (.seq (.block 1 (sr_ [o2 26 22 24 a1_,o1 27 26 ld,v_ 7 27] (sr_ [v_ 28 0,o1 29 28 .nilCheck,o1 30 29 (.faddr true 0 6),o1 31 30 f4_,o1 32 31 ld,v_ 33 7,o2 34 32 33 a5_,o1 35 34 (.load true 5),o0 8 (.alloc (.agg [(.int .i64 0),(.int .i64 0),.nilS,(.int .i64 0),.nilS]) 5),n2 8 35 (.store 5)] (sr_ [o1 36 8 f2_,o1 37 36 ld,o1 38 37 ln,c2 39 38 (.int .i64 0) beq_] (i_ 39 (.reg [v_ 40 0,o1 41 8 f1_,o1 42 41 ld,v_ 43 2,k3 44 101 40 42 43]) .skip))))) (.reg [i1_ 45 24,v_ 24 45]))))))) (.reg [v_ 46 0,v_ 47 0,o1 48 47 .nilCheck,o1 49 48 (.faddr false 9 1),o1 50 49 ld,v_ 51 1,o1 52 51 (.bslice 1 1 (.int .i64 0) [0]),o2 53 50 52 (.app 1 8 (.int .i64 0)),o1 54 46 .nilCheck,o1 55 54 (.faddr false 9 1),n2 55 53 st]))))
theorem Mo:AS Tryz.prog 101 3=some ⟨56,3,[],Ie⟩:=by kernel_rfl
def FX:AC:=(sr_ [o1 1 0 .box,c1 2 .nilF .mv] (sr_ [o1 3 1 (.mkFunc 134),v_ 2 3] .ret))
theorem HL:AS Tryz.prog 102 1=some ⟨4,1,[(.slot 2)],FX⟩:=by kernel_rfl
def MH:AC:=(sr_ [o1 2 0 .box,z_ 4,bf_ 5] (.seq (sr_ [v_ 15 1,o1 16 15 ln,z_ 17] (.block 0 (.loop (sr_ [o2 18 17 16 bls_] (.seq (ex_ 18 0) (.seq (.block 1 (sr_ [o2 19 15 17 a1_,o1 20 19 ld,v_ 7 20] (sr_ [v_ 21 7,c2 22 21 (.int .i32 0) bls_,v_ 23 22,g_ 24 23 false [s_ 7] .mv,g_ 25 23 false [s_ 24,k_ (.int .i32 1114111)] bgt_,m_ 26 [s_ 23,k_ (.bool true),s_ 25] .pick] (i_ 26 (sr_ [z_ 4,bf_ 5] .ret) .skip)))) (.reg [i1_ 27 17,v_ 17 27]))))))) (sr_ [o1 28 2 f4_,o1 29 28 ld,v_ 8 29] (.seq (sr_ [o1 30 2 f5_,o1 31 30 ld,o1 32 31 ln,z_ 33] (.block 2 (.loop (sr_ [o2 34 33 32 bls_] (.seq (ex_ 34 2) (.seq (.block 3 (sr_ [o2 35 31 33 a4_,o1 36 35 (.load true 4),o0 10 (.alloc (.agg [(.int .i64 0),(.int .i64 0),(.int .i64 0),(.int .i64 0)]) 4),n2 10 36 (.store 4)] (.seq (sr_ [o1 37 10 (.load true 4),v_ 38 1,o1 39 38 ln,k2 40 135 37 39,o1 41 40 nt] (i_ 41 (sr_ [z_ 4,bf_ 5] .ret) .skip)) (.seq (.dreg [o1 43 10 (.load true 4),v_ 44 1,o1 45 10 f0_,o1 46 45 ld,o2 47 44 46 a1_,o1 48 47 ld,o1 49 48 (.conv .i64),k2 50 136 43 49,v_ 42 50,o1 51 42 (.extract 0),o1 52 42 (.extract 1),v_ 11 51,v_ 12 52]) (.reg [v_ 53 8,v_ 54 11,o2 55 53 54 bad_,v_ 8 55]))))) (.reg [i1_ 56 33,v_ 33 56]))))))) (.seq (sr_ [v_ 57 8,c2 58 57 (.int .i64 1114111) bgt_] (i_ 58 (sr_ [z_ 4,bf_ 5] .ret) .skip)) (sr_ [o1 60 2 l6,k1 61 137 60,v_ 62 8,k2 63 136 61 62,v_ 59 63,o1 64 59 (.extract 0),o1 65 59 (.extract 1),v_ 13 64,v_ 14 65] (.seq (sr_ [v_ 66 14,o1 67 66 nt] (i_ 67 (sr_ [z_ 4,bf_ 5] .ret) .skip)) (sr_ [o1 68 2 f0_,o1 69 68 ld,v_ 70 13,o2 71 69 70 bad_,v_ 4 71,bt_ 5] .ret))))))))
theorem UC:AS Tryz.prog 103 2=some ⟨72,2,[(.slot 4),(.slot 5)],MH⟩:=by kernel_rfl
def QD:AC:=(sr_ [bf_ 4] (.seq (sr_ [v_ 7 1,c2 8 7 (.int .i64 (-1073741824)) bls_,v_ 9 8,g_ 10 9 false [s_ 1] .mv,g_ 11 9 false [s_ 10,k_ (.int .i64 1073741824)] bgt_,m_ 12 [s_ 9,k_ (.bool true),s_ 11] .pick] (i_ 12 (sr_ [bf_ 4] .ret) .skip)) (.seq (sr_ [v_ 13 0,o1 14 13 ln,z_ 15] (.block 0 (.loop (sr_ [o2 16 15 14 bls_] (.seq (ex_ 16 0) (.seq (.block 1 (sr_ [o2 17 13 15 a2_,o1 18 17 (.load true 2),o0 6 (.alloc (.agg [(.int .i64 0),(.int .i64 0)]) 2),n2 6 18 (.store 2)] (sr_ [v_ 19 1,o1 20 6 f0_,o1 21 20 ld,o2 22 19 21 bge_,v_ 23 22,g1 24 23 1 .mv,g1 25 23 6 f1_,g1 26 23 25 ld,g2 27 23 24 26 ble_,m_ 28 [s_ 23,s_ 27,k_ (.bool false)] .pick] (i_ 28 (sr_ [bt_ 4] .ret) .skip)))) (.reg [i1_ 29 15,v_ 15 29]))))))) (sr_ [bf_ 4] .ret))))
theorem z0c:AS Tryz.prog 104 2=some ⟨30,2,[(.slot 4)],QD⟩:=by kernel_rfl
def Fs:AC:=(sr_ [ns_ 4] (.seq (sr_ [v_ 5 1,c2 6 5 (.int .i64 0) bls_] (i_ 6 (.reg [c1 7 (.str [99,97,110,110,111,116,32,98,101,32,110,101,103,97,116,105,118,101]) .no,h_ [s_ 7] .no]) .skip)) (.seq (sr_ [v_ 8 1,v_ 9 0,o1 10 9 .cap,v_ 11 0,o1 12 11 ln,o2 13 10 12 bsu_,o2 14 8 13 bsu_,v_ 1 14] (sr_ [v_ 15 1,c2 16 15 (.int .i64 0) bgt_] (i_ 16 (.reg [v_ 17 0,v_ 18 0,o1 19 18 .cap,o2 20 17 19 (.slice 1 false true false),v_ 21 1,o2 22 20 21 (.appZ 1 4 (.int .i32 0)),v_ 23 0,o1 24 23 ln,o2 25 22 24 (.slice 1 false true false),v_ 0 25]) .skip))) (sr_ [v_ 26 0,v_ 4 26] .ret))))
theorem Gy:AS Tryz.prog 105 2=some ⟨27,2,[(.slot 4)],Fs⟩:=by kernel_rfl
def DY:AC:=(sr_ [ns_ 2] (.seq (sr_ [v_ 3 0,c2 4 3 .nilS (.eqn false)] (i_ 4 (sr_ [ns_ 2] .ret) .skip)) (sr_ [o0 5 (.bslice 1 0 (.int .i32 0) []),v_ 6 0,o2 7 5 6 (.app 1 4 (.int .i32 0)),v_ 2 7] .ret)))
theorem EX:AS Tryz.prog 106 1=some ⟨8,1,[(.slot 2)],DY⟩:=by kernel_rfl
def Fw:AC:=(sr_ [v_ 5 0,o1 6 5 ln,v_ 4 6] (.reg [v_ 7 0,v_ 8 4,v_ 9 4,o1 10 9 (.conv .u64),k1 11 139 10,v_ 12 1,m_ 13 [k_ (.fn 138 []),s_ 7,k_ (.int .i64 0),s_ 8,s_ 11,s_ 12] .call]))
theorem GV:AS Tryz.prog 107 2=some ⟨14,2,[],Fw⟩:=by kernel_rfl
def EL:AC:=(sr_ [ns_ 4] (.seq (sr_ [v_ 8 0,o1 9 8 ln,c2 10 9 (.int .i64 2) bls_] (i_ 10 (sr_ [v_ 11 0,v_ 4 11] .ret) .skip)) (.seq (sr_ [c1 5 (.int .i64 1) .mv] (.block 0 (.loop (.seq (sr_ [v_ 12 5,v_ 13 0,o1 14 13 ln,o2 15 12 14 bls_] (ex_ 15 0)) (.seq (.block 1 (.seq (.dtl [v_ 18 1,v_ 19 0,v_ 20 5,o2 21 19 20 a1_,o1 22 21 ld,v_ 23 0,v_ 24 5,c2 25 24 (.int .i64 1) bsu_,o2 26 23 25 a1_,o1 27 26 ld] [o3 28 18 22 27 .call]) (i_ 28 (sr_ [v_ 29 0,v_ 30 5,o2 31 29 30 (.slice 1 true false false),v_ 6 31] (.seq (sr_ [c1 7 (.int .i64 1) .mv] (.block 2 (.loop (.seq (sr_ [v_ 32 7,v_ 33 6,o1 34 33 ln,o2 35 32 34 bls_] (ex_ 35 2)) (.seq (.block 3 (.seq (.dtl [v_ 38 1,v_ 39 6,v_ 40 7,o2 41 39 40 a1_,o1 42 41 ld,v_ 43 6,v_ 44 7,c2 45 44 (.int .i64 1) bsu_,o2 46 43 45 a1_,o1 47 46 ld] [o3 48 38 42 47 .call,o1 49 48 nt]) (i_ 49 (sr_ [v_ 50 0,v_ 51 5,v_ 52 6,v_ 53 7,o2 54 52 53 a1_,o1 55 54 ld,o2 56 50 51 a1_,n2 56 55 st] (.reg [v_ 57 5,i1_ 58 57,v_ 5 58])) .skip))) (.reg [v_ 36 7,i1_ 37 36,v_ 7 37])))))) (sr_ [v_ 59 0,v_ 60 5,o2 61 59 60 (.slice 1 true false false),h_ [s_ 61] (.clr 1 .nilS)] (sr_ [v_ 62 0,v_ 63 5,o2 64 62 63 (.slice 1 false true false),v_ 4 64] .ret)))) .skip))) (.reg [v_ 16 5,i1_ 17 16,v_ 5 17])))))) (sr_ [v_ 65 0,v_ 4 65] .ret))))
theorem G4:AS Tryz.prog 108 2=some ⟨66,2,[(.slot 4)],EL⟩:=by kernel_rfl
def Ln:AC:=(sr_ [bf_ 4] (sr_ [v_ 5 0,v_ 6 1,k2 7 77 5 6,c2 8 7 (.int .i64 0) beq_,v_ 4 8] .ret))
theorem Sk:AS Tryz.prog 109 2=some ⟨9,2,[(.slot 4)],Ln⟩:=by kernel_rfl
def O4:AC:=(sr_ [bf_ 4] (.seq (sr_ [z_ 5] (.block 0 (.loop (.seq (sr_ [v_ 6 5,v_ 7 0,o1 8 7 ln,o2 9 6 8 bls_] (ex_ 9 0)) (.seq (.block 1 (sr_ [v_ 12 0,v_ 13 5,o2 14 12 13 a2_,o1 15 14 f0_,o1 16 15 ld,v_ 17 1,o2 18 16 17 ble_,v_ 19 18,g1 20 19 1 .mv,g1 21 19 0 .mv,g1 22 19 5 .mv,g2 23 19 21 22 a2_,g1 24 19 23 f1_,g1 25 19 24 ld,g2 26 19 20 25 ble_,m_ 27 [s_ 19,s_ 26,k_ (.bool false)] .pick,v_ 28 27,g1 29 28 1 .mv,g_ 30 28 true [s_ 29,k_ (.int .i64 (-1073741824))] bge_,m_ 31 [s_ 28,s_ 30,k_ (.bool false)] .pick,v_ 32 31,g1 33 32 1 .mv,g_ 34 32 true [s_ 33,k_ (.int .i64 1073741824)] ble_,m_ 35 [s_ 32,s_ 34,k_ (.bool false)] .pick] (i_ 35 (sr_ [bt_ 4] .ret) .skip))) (.reg [v_ 10 5,i1_ 11 10,v_ 5 11])))))) (sr_ [bf_ 4] .ret)))
theorem Wz:AS Tryz.prog 110 2=some ⟨36,2,[(.slot 4)],O4⟩:=by kernel_rfl
def Jj:AC:=(sr_ [z_ 4] (sr_ [v_ 6 0,v_ 7 1,k2 8 140 6 7,v_ 5 8] (.seq (sr_ [v_ 9 5,v_ 10 0,o1 11 10 ln,o2 12 9 11 bls_,v_ 13 12,g1 14 13 5 .mv,g1 15 13 1 .mv,g1 16 13 15 ln,g2 17 13 14 16 bls_,m_ 18 [s_ 13,s_ 17,k_ (.bool false)] .pick] (i_ 18 (.seq (.seq (.dreg [v_ 19 0,v_ 20 5,o2 21 19 20 a1_,o1 22 21 ld,v_ 23 1,v_ 24 5,o2 25 23 24 a1_,o1 26 25 ld,o2 27 22 26 bls_]) (i_ 27 (sr_ [c1 4 (.int .i64 (-1)) .mv] .ret) .skip)) (sr_ [c1 4 (.int .i64 1) .mv] .ret)) .skip)) (.seq (sr_ [v_ 28 0,o1 29 28 ln,v_ 30 1,o1 31 30 ln,o2 32 29 31 bls_] (i_ 32 (sr_ [c1 4 (.int .i64 (-1)) .mv] .ret) .skip)) (.seq (sr_ [v_ 33 0,o1 34 33 ln,v_ 35 1,o1 36 35 ln,o2 37 34 36 bgt_] (i_ 37 (sr_ [c1 4 (.int .i64 1) .mv] .ret) .skip)) (sr_ [z_ 4] .ret))))))
theorem O5:AS Tryz.prog 111 2=some ⟨38,2,[(.slot 4)],Jj⟩:=by kernel_rfl
def Lp:AC:=(sr_ [o1 2 0 .box,z_ 4,bf_ 5] (.seq (sr_ [z_ 6] (.block 0 (.loop (.seq (sr_ [v_ 14 6,v_ 15 1,o1 16 15 ln,o2 17 14 16 bls_] (ex_ 17 0)) (.seq (.block 1 (sr_ [v_ 20 1,v_ 21 6,o2 22 20 21 a1_,o1 23 22 ld,c2 24 23 (.int .i32 0) bls_,v_ 25 24,g_ 26 25 false [s_ 1] .mv,g_ 27 25 false [s_ 6] .mv,g_ 28 25 false [s_ 26,s_ 27] a1_,g_ 29 25 false [s_ 28] ld,g_ 30 25 false [s_ 29,k_ (.int .i32 1114111)] bgt_,m_ 31 [s_ 25,k_ (.bool true),s_ 30] .pick] (i_ 31 (sr_ [z_ 4,bf_ 5] .ret) .skip))) (.reg [v_ 18 6,i1_ 19 18,v_ 6 19])))))) (sr_ [o1 32 2 f4_,o1 33 32 ld,v_ 7 33] (.seq (sr_ [z_ 8] (.block 2 (.loop (.seq (sr_ [v_ 34 8,o1 35 2 f5_,o1 36 35 ld,o1 37 36 ln,o2 38 34 37 bls_] (ex_ 38 2)) (.seq (.block 3 (sr_ [o1 41 2 f5_,o1 42 41 ld,v_ 43 8,o2 44 42 43 a4_,o1 45 44 (.load true 4),o0 9 (.alloc (.agg [(.int .i64 0),(.int .i64 0),(.int .i64 0),(.int .i64 0)]) 4),n2 9 45 (.store 4)] (.seq (sr_ [o1 46 9 (.load true 4),v_ 47 1,o1 48 47 ln,k2 49 141 46 48,o1 50 49 nt] (i_ 50 (sr_ [z_ 4,bf_ 5] .ret) .skip)) (.seq (.dreg [o1 52 9 (.load true 4),v_ 53 1,o1 54 9 f0_,o1 55 54 ld,o2 56 53 55 a1_,o1 57 56 ld,o1 58 57 (.conv .i64),k2 59 142 52 58,v_ 51 59,o1 60 51 (.extract 0),o1 61 51 (.extract 1),v_ 10 60,v_ 11 61]) (.reg [v_ 62 7,v_ 63 10,o2 64 62 63 bad_,v_ 7 64]))))) (.reg [v_ 39 8,i1_ 40 39,v_ 8 40])))))) (.seq (sr_ [v_ 65 7,c2 66 65 (.int .i64 0) bls_,v_ 67 66,g_ 68 67 false [s_ 7] .mv,g_ 69 67 false [s_ 68,k_ (.int .i64 1114111)] bgt_,m_ 70 [s_ 67,k_ (.bool true),s_ 69] .pick] (i_ 70 (sr_ [z_ 4,bf_ 5] .ret) .skip)) (sr_ [o1 72 2 l6,k1 73 143 72,v_ 74 7,k2 75 142 73 74,v_ 71 75,o1 76 71 (.extract 0),o1 77 71 (.extract 1),v_ 12 76,v_ 13 77] (.seq (sr_ [v_ 78 13,o1 79 78 nt] (i_ 79 (sr_ [z_ 4,bf_ 5] .ret) .skip)) (sr_ [o1 80 2 f0_,o1 81 80 ld,v_ 82 12,o2 83 81 82 bad_,v_ 4 83,bt_ 5] .ret))))))))
theorem Sl:AS Tryz.prog 112 2=some ⟨84,2,[(.slot 4),(.slot 5)],Lp⟩:=by kernel_rfl
def MI:AC:=(sr_ [o0 2 (.alloc (.agg [(.int .i64 0),(.int .i64 0),(.int .i64 0),(.int .i64 0)]) 4)] (sr_ [v_ 3 0,c2 4 3 (.int .i64 21) (.build [(.int .i64 0),(.int .i64 0),(.int .i64 0),(.int .i64 0)] [(0,1),(1,1),(2,1),(3,1)] [0,2]),n2 2 4 (.store 4)] .ret))
theorem UD:AS Tryz.prog 113 1=some ⟨5,1,[(.cell 2 true 4)],MI⟩:=by kernel_rfl
def MJ:AC:=(sr_ [z_ 4] (sr_ [z_ 5] (.seq (.block 0 (.loop (.seq (.seq (.dreg [v_ 6 5,v_ 7 0,o1 8 7 ln,o2 9 6 8 bls_,v_ 10 9,g1 11 10 5 .mv,g1 12 10 1 .mv,g1 13 10 12 ln,g2 14 10 11 13 bls_,m_ 15 [s_ 10,s_ 14,k_ (.bool false)] .pick,v_ 16 15,g1 17 16 0 .mv,g1 18 16 5 .mv,g2 19 16 17 18 a1_,g1 20 16 19 ld,g1 21 16 1 .mv,g1 22 16 5 .mv,g2 23 16 21 22 a1_,g1 24 16 23 ld,g2 25 16 20 24 beq_,m_ 26 [s_ 16,s_ 25,k_ (.bool false)] .pick]) (ex_ 26 0)) (.block 1 (.reg [v_ 27 5,i1_ 28 27,v_ 5 28]))))) (sr_ [v_ 29 5,v_ 4 29] .ret))))
theorem UE:AS Tryz.prog 114 2=some ⟨30,2,[(.slot 4)],MJ⟩:=by kernel_rfl
def H9:AC:=(sr_ [z_ 4] (sr_ [v_ 7 0,k1 8 144 7,v_ 5 8] (sr_ [v_ 9 1,k1 10 144 9,v_ 6 10] (.seq (sr_ [v_ 11 5] (i_ 11 (.seq (sr_ [v_ 12 6] (i_ 12 (sr_ [z_ 4] .ret) .skip)) (sr_ [c1 4 (.int .i64 (-1)) .mv] .ret)) .skip)) (.seq (sr_ [v_ 13 6] (i_ 13 (sr_ [c1 4 (.int .i64 1) .mv] .ret) .skip)) (.seq (sr_ [v_ 14 0,v_ 15 1,o2 16 14 15 bls_] (i_ 16 (sr_ [c1 4 (.int .i64 (-1)) .mv] .ret) .skip)) (.seq (sr_ [v_ 17 0,v_ 18 1,o2 19 17 18 bgt_] (i_ 19 (sr_ [c1 4 (.int .i64 1) .mv] .ret) .skip)) (sr_ [z_ 4] .ret))))))))
theorem Lq:AS Tryz.prog 115 2=some ⟨20,2,[(.slot 4)],H9⟩:=by kernel_rfl
def Gm:AC:=(sr_ [bf_ 4] (.seq (sr_ [v_ 6 0,o1 7 6 ln,v_ 8 1,o1 9 8 ln,o2 10 7 9 bne_] (i_ 10 (sr_ [bf_ 4] .ret) .skip)) (.seq (sr_ [v_ 11 0,o1 12 11 ln,z_ 13] (.block 0 (.loop (sr_ [o2 14 13 12 bls_] (.seq (ex_ 14 0) (.seq (.block 1 (sr_ [v_ 15 13,v_ 5 15] (.seq (.dreg [v_ 16 0,v_ 17 5,o2 18 16 17 a1_,o1 19 18 ld,v_ 20 1,v_ 21 5,o2 22 20 21 a1_,o1 23 22 ld,o2 24 19 23 bne_]) (i_ 24 (sr_ [bf_ 4] .ret) .skip)))) (.reg [i1_ 25 13,v_ 13 25]))))))) (sr_ [bt_ 4] .ret))))
theorem If:AS Tryz.prog 116 2=some ⟨26,2,[(.slot 4)],Gm⟩:=by kernel_rfl
def O6:AC:=(sr_ [o1 1 0 .box,bf_ 2] (sr_ [o1 3 1 f0_,o1 4 3 ld,k1 5 72 4,o1 6 5 ln,c2 7 6 (.int .i64 0) bgt_,v_ 8 7,g1 9 8 1 f1_,g1 10 8 9 ld,g_ 11 8 true [k_ (.fn 72 []),s_ 10] .call,g1 12 8 11 ln,g_ 13 8 true [s_ 12,k_ (.int .i64 0)] bgt_,m_ 14 [s_ 8,s_ 13,k_ (.bool false)] .pick,v_ 15 14,g1 16 15 1 f2_,g1 17 15 16 ld,g_ 18 15 true [s_ 17,k_ (.int .i64 1)] bge_,m_ 19 [s_ 15,s_ 18,k_ (.bool false)] .pick,v_ 20 19,g1 21 20 1 f2_,g1 22 20 21 ld,g_ 23 20 true [s_ 22,k_ (.int .i64 1024)] ble_,m_ 24 [s_ 20,s_ 23,k_ (.bool false)] .pick,v_ 25 24,g1 26 25 1 l6,g1 27 25 1 f3_,g1 28 25 27 ld,g_ 29 25 true [k_ (.fn 119 []),s_ 26,s_ 28] .call,m_ 30 [s_ 25,s_ 29,k_ (.bool false)] .pick,v_ 31 30,g1 32 31 1 f4_,g1 33 31 32 ld,g1 34 31 33 ln,g_ 35 31 true [s_ 34,k_ (.int .i64 4096)] ble_,m_ 36 [s_ 31,s_ 35,k_ (.bool false)] .pick,v_ 37 36,g1 38 37 1 f5_,g1 39 37 38 ld,g1 40 37 39 ln,g_ 41 37 true [s_ 40,k_ (.int .i64 4096)] ble_,m_ 42 [s_ 37,s_ 41,k_ (.bool false)] .pick,v_ 2 42] .ret))
theorem W0:AS Tryz.prog 117 1=some ⟨43,1,[(.slot 2)],O6⟩:=by kernel_rfl
def O7:AC:=(sr_ [o1 2 0 .box,o1 3 1 .box,bf_ 4] (sr_ [o1 6 3 f2_,o1 7 6 ld,o1 8 7 ln,v_ 5 8] (.seq (sr_ [o1 9 2 l6,o1 10 3 f0_,o1 11 10 ld,k2 12 119 9 11,o1 13 12 nt,v_ 14 13,g_ 15 14 false [s_ 2] l6,g_ 16 14 false [s_ 3] f1_,g_ 17 14 false [s_ 16] ld,g_ 18 14 false [k_ (.fn 119 []),s_ 15,s_ 17] .call,g_ 19 14 false [s_ 18] nt,m_ 20 [s_ 14,k_ (.bool true),s_ 19] .pick,v_ 21 20,g_ 22 21 false [s_ 2] f0_,g_ 23 21 false [s_ 22] ld,g_ 24 21 false [s_ 3] f2_,g_ 25 21 false [s_ 24] ld,g_ 26 21 false [k_ (.fn 120 []),s_ 23,s_ 25] .call,g_ 27 21 false [s_ 26] nt,m_ 28 [s_ 21,k_ (.bool true),s_ 27] .pick,v_ 29 28,g_ 30 29 false [s_ 3] f3_,g_ 31 29 false [s_ 30] ld,g_ 32 29 false [s_ 5] .mv,g_ 33 29 false [s_ 32,k_ (.int .i64 1)] .min,g_ 34 29 false [s_ 31,s_ 33] bls_,m_ 35 [s_ 29,k_ (.bool true),s_ 34] .pick,v_ 36 35,g_ 37 36 false [s_ 3] f3_,g_ 38 36 false [s_ 37] ld,g_ 39 36 false [s_ 5] .mv,g_ 40 36 false [s_ 38,s_ 39] bgt_,m_ 41 [s_ 36,k_ (.bool true),s_ 40] .pick] (i_ 41 (sr_ [bf_ 4] .ret) .skip)) (sr_ [o1 42 2 l6,o1 43 3 f4_,o1 44 43 ld,o1 45 3 f2_,o1 46 45 ld,k3 47 121 42 44 46,v_ 4 47] .ret))))
theorem W2:AS Tryz.prog 118 2=some ⟨48,2,[(.slot 4)],O7⟩:=by kernel_rfl
def MK:AC:=(sr_ [o1 2 0 .box,bf_ 4] (sr_ [v_ 5 1,c2 6 5 (.int .i64 0) bge_,v_ 7 6,g1 8 7 1 .mv,g1 9 7 2 f2_,g1 10 7 9 ld,g2 11 7 8 10 bls_,m_ 12 [s_ 7,s_ 11,k_ (.bool false)] .pick,v_ 4 12] .ret))
theorem UF:AS Tryz.prog 119 2=some ⟨13,2,[(.slot 4)],MK⟩:=by kernel_rfl
def Lr:AC:=(sr_ [bf_ 4] (.seq (sr_ [v_ 8 1,o1 9 8 ln,c2 10 9 (.int .i64 4) bgt_] (i_ 10 (sr_ [bf_ 4] .ret) .skip)) (sr_ [v_ 11 0,k1 12 72 11,v_ 5 12] (.seq (sr_ [v_ 13 1,o1 14 13 ln,z_ 15] (.block 0 (.loop (sr_ [o2 16 15 14 bls_] (.seq (ex_ 16 0) (.seq (.block 1 (sr_ [o2 17 13 15 a1_,o1 18 17 ld,v_ 7 18] (sr_ [v_ 19 7,o1 20 19 ln,c2 21 20 (.int .i64 0) beq_,v_ 22 21,g_ 23 22 false [s_ 7] .mv,g_ 24 22 false [s_ 23] ln,g_ 25 22 false [s_ 24,k_ (.int .i64 64)] bgt_,m_ 26 [s_ 22,k_ (.bool true),s_ 25] .pick,v_ 27 26,g_ 28 27 false [s_ 7] .mv,g_ 29 27 false [k_ (.fn 145 []),s_ 28] .call,g_ 30 27 false [s_ 29] nt,m_ 31 [s_ 27,k_ (.bool true),s_ 30] .pick,v_ 32 31,g_ 33 32 false [s_ 7] .mv,g_ 34 32 false [s_ 5] .mv,g_ 35 32 false [k_ (.fn 146 []),s_ 33,s_ 34] .call,g_ 36 32 false [s_ 35] nt,m_ 37 [s_ 32,k_ (.bool true),s_ 36] .pick] (i_ 37 (sr_ [bf_ 4] .ret) .skip)))) (.reg [i1_ 38 15,v_ 15 38]))))))) (sr_ [bt_ 4] .ret)))))
theorem Sm:AS Tryz.prog 120 2=some ⟨39,2,[(.slot 4)],Lr⟩:=by kernel_rfl
def Ls:AC:=(sr_ [o1 3 0 .box,bf_ 6] (.seq (sr_ [v_ 9 1,o1 10 9 ln,c2 11 10 (.int .i64 64) bgt_] (i_ 11 (sr_ [bf_ 6] .ret) .skip)) (.seq (sr_ [v_ 12 1,o1 13 12 ln,z_ 14] (.block 0 (.loop (sr_ [o2 15 14 13 bls_] (.seq (ex_ 15 0) (.seq (.block 1 (sr_ [o2 16 12 14 a6_,o1 17 16 l6,o0 8 (.alloc (.agg [(.int .i64 0),(.int .i64 0),(.int .i64 0),(.int .i64 0),(.int .i64 0),.nilS]) 6),n2 8 17 (.store 6)] (sr_ [o1 18 8 l6,o1 19 3 f0_,o1 20 19 ld,o1 21 3 f1_,o1 22 21 ld,v_ 23 2,m_ 24 [k_ (.fn 147 []),s_ 18,s_ 20,s_ 22,s_ 23] .call,o1 25 24 nt] (i_ 25 (sr_ [bf_ 6] .ret) .skip)))) (.reg [i1_ 26 14,v_ 14 26]))))))) (sr_ [bt_ 6] .ret))))
theorem Sn:AS Tryz.prog 121 3=some ⟨27,3,[(.slot 6)],Ls⟩:=by kernel_rfl
def ML:AC:=(sr_ [o1 1 0 .box,bf_ 2] (sr_ [o1 14 1 f2_,o1 15 14 ld,o2 16 15 15 (.mkSlice 1 24 .nilS),v_ 3 16] (sr_ [o1 17 1 f2_,o1 18 17 ld,o2 19 18 18 (.mkSlice 1 8 (.int .i64 0)),v_ 4 19] (.seq (sr_ [o1 20 1 f4_,o1 21 20 ld,o1 22 21 ln,z_ 23] (.block 0 (.loop (sr_ [o2 24 23 22 bls_] (.seq (ex_ 24 0) (.seq (.block 1 (sr_ [o2 25 21 23 a5_,o1 26 25 (.load true 5),o0 6 (.alloc (.agg [(.int .i64 0),(.int .i64 0),.nilS,(.int .i64 0),.nilS]) 5),n2 6 26 (.store 5)] (sr_ [o1 27 6 f2_,o1 28 27 ld,o1 29 28 ln,c2 30 29 (.int .i64 0) beq_] (i_ 30 (.seq (.grx [false,true,true,false,true,true,true,false,true,true,false,false,false,false] [m_ 31 [s_ 3] .mv,m_ 32 [s_ 6] f0_,m_ 33 [s_ 32] ld,m_ 34 [s_ 3] .mv,m_ 35 [s_ 6] f0_,m_ 36 [s_ 35] ld,m_ 37 [s_ 34,s_ 36] a1_,m_ 38 [s_ 37] ld,m_ 39 [s_ 6] f1_,m_ 40 [s_ 39] ld,m_ 41 [s_ 40] (.bslice 1 1 (.int .i64 0) [0]),m_ 42 [s_ 38,s_ 41] (.app 1 8 (.int .i64 0)),m_ 43 [s_ 31,s_ 33] a1_,h_ [s_ 43,s_ 42] st]) (.reg [v_ 44 4,o1 45 6 f1_,o1 46 45 ld,o2 47 44 46 a1_,o1 48 47 ld,i1_ 49 48,o2 50 44 46 a1_,n2 50 49 st])) .skip)))) (.reg [i1_ 51 23,v_ 23 51]))))))) (sr_ [ns_ 7] (.seq (sr_ [v_ 52 4,o1 53 52 ln,z_ 54] (.block 2 (.loop (sr_ [o2 55 54 53 bls_] (.seq (ex_ 55 2) (.seq (.block 3 (sr_ [v_ 56 54,o2 57 52 54 a1_,o1 58 57 ld,v_ 8 56,v_ 9 58] (sr_ [v_ 59 9,c2 60 59 (.int .i64 0) beq_] (i_ 60 (.reg [v_ 61 7,v_ 62 8,o1 63 62 (.bslice 1 1 (.int .i64 0) [0]),o2 64 61 63 (.app 1 8 (.int .i64 0)),v_ 7 64]) .skip)))) (.reg [i1_ 65 54,v_ 54 65]))))))) (sr_ [z_ 10] (.seq (.block 4 (.loop (.seq (sr_ [v_ 66 7,o1 67 66 ln,c2 68 67 (.int .i64 0) bgt_] (ex_ 68 4)) (.seq (.block 5 (sr_ [v_ 71 7,c2 72 71 (.int .i64 0) a1_,o1 73 72 ld,v_ 11 73] (sr_ [v_ 74 7,c2 75 74 (.int .i64 1) (.slice 1 true false false),v_ 7 75] (sr_ [v_ 76 3,v_ 77 11,o2 78 76 77 a1_,o1 79 78 ld,o1 80 79 ln,z_ 81] (.block 6 (.loop (sr_ [o2 82 81 80 bls_] (.seq (ex_ 82 6) (.seq (.block 7 (sr_ [o2 83 79 81 a1_,o1 84 83 ld,v_ 13 84] (sr_ [v_ 85 4,v_ 86 13,o2 87 85 86 a1_,o1 88 87 ld,c2 89 88 (.int .i64 1) bsu_,o2 90 85 86 a1_,n2 90 89 st] (sr_ [v_ 91 4,v_ 92 13,o2 93 91 92 a1_,o1 94 93 ld,c2 95 94 (.int .i64 0) beq_] (i_ 95 (.reg [v_ 96 7,v_ 97 13,o1 98 97 (.bslice 1 1 (.int .i64 0) [0]),o2 99 96 98 (.app 1 8 (.int .i64 0)),v_ 7 99]) .skip))))) (.reg [i1_ 100 81,v_ 81 100])))))))))) (.reg [v_ 69 10,i1_ 70 69,v_ 10 70]))))) (sr_ [v_ 101 10,o1 102 1 f2_,o1 103 102 ld,o2 104 101 103 bls_,v_ 2 104] .ret)))))))))
theorem UG:AS Tryz.prog 122 1=some ⟨105,1,[(.slot 2)],ML⟩:=by kernel_rfl
def MM:AC:=(sr_ [ns_ 2] (sr_ [v_ 3 0,m_ 4 [k_ (.fn 129 []),s_ 3,k_ .nilS,k_ (.int .i64 0)] .call,v_ 2 4] .ret))
theorem UH:AS Tryz.prog 128 1=some ⟨5,1,[(.slot 2)],MM⟩:=by kernel_rfl
def MN:AC:=(sr_ [ns_ 6] (sr_ [ns_ 7] (sr_ [v_ 15 0,v_ 16 1,k2 17 149 15 16,v_ 8 17] (.seq (sr_ [z_ 9] (.block 0 (.loop (.seq (sr_ [v_ 18 9,v_ 19 8,o1 20 19 ln,o2 21 18 20 bls_] (ex_ 21 0)) (.seq (.block 1 (.seq (.dtl [v_ 24 0,v_ 25 8,v_ 26 9,o2 27 25 26 a1_,o1 28 27 ld,k2 29 110 24 28,v_ 30 1,v_ 31 8,v_ 32 9,o2 33 31 32 a1_,o1 34 33 ld] [k2 35 110 30 34,v_ 10 29,v_ 11 35]) (sr_ [v_ 36 10,v_ 37 36,g_ 38 37 false [s_ 11] .mv,m_ 39 [s_ 37,k_ (.bool true),s_ 38] .pick,v_ 12 39] (.seq (sr_ [v_ 40 2,c2 41 40 (.int .i64 1) beq_] (i_ 41 (.reg [v_ 42 10,v_ 43 42,g1 44 43 11 .mv,m_ 45 [s_ 43,s_ 44,k_ (.bool false)] .pick,v_ 12 45]) .skip)) (.seq (sr_ [v_ 46 2,c2 47 46 (.int .i64 2) beq_] (i_ 47 (.reg [v_ 48 10,v_ 49 48,g1 50 49 11 .mv,g1 51 49 50 nt,m_ 52 [s_ 49,s_ 51,k_ (.bool false)] .pick,v_ 12 52]) .skip)) (.seq (sr_ [v_ 53 12,o1 54 53 nt] (i_ 54 (.exit 1) .skip)) (sr_ [c1 13 (.int .i64 1073741824) .mv] (.seq (sr_ [v_ 55 9,i1_ 56 55,v_ 57 8,o1 58 57 ln,o2 59 56 58 bls_] (i_ 59 (.reg [v_ 60 8,v_ 61 9,i1_ 62 61,o2 63 60 62 a1_,o1 64 63 ld,c2 65 64 (.int .i64 1) bsu_,v_ 13 65]) .skip)) (sr_ [v_ 66 7,o1 67 66 ln,v_ 14 67] (.seq (.dreg [v_ 68 14,c2 69 68 (.int .i64 0) bgt_,v_ 70 69,g1 71 70 7 .mv,g1 72 70 14 .mv,g_ 73 70 true [s_ 72,k_ (.int .i64 1)] bsu_,g2 74 70 71 73 a2_,g1 75 70 74 f1_,g1 76 70 75 ld,g1 77 70 8 .mv,g1 78 70 9 .mv,g2 79 70 77 78 a1_,g1 80 70 79 ld,g_ 81 70 true [s_ 80,k_ (.int .i64 1)] bsu_,g2 82 70 76 81 beq_,m_ 83 [s_ 70,s_ 82,k_ (.bool false)] .pick]) (i_ 83 (.reg [v_ 84 7,v_ 85 14,c2 86 85 (.int .i64 1) bsu_,v_ 87 13,o2 88 84 86 a2_,o1 89 88 f1_,n2 89 87 st]) (.reg [v_ 90 7,v_ 91 8,v_ 92 9,o2 93 91 92 a1_,o1 94 93 ld,v_ 95 13,o2 96 94 95 (.build [(.int .i64 0),(.int .i64 0)] [(0,1),(1,1)] [0,1]),o1 97 96 (.bslice 2 1 (.agg [(.int .i64 0),(.int .i64 0)]) [0]),o2 98 90 97 (.app 2 16 (.agg [(.int .i64 0),(.int .i64 0)])),v_ 7 98])))))))))))) (.reg [v_ 22 9,i1_ 23 22,v_ 9 23])))))) (sr_ [v_ 99 7,v_ 6 99] .ret)))))
theorem UI:AS Tryz.prog 129 3=some ⟨100,3,[(.slot 6)],MN⟩:=by kernel_rfl
def Ki:AC:=(sr_ [ns_ 2] (.seq (sr_ [v_ 3 0,c2 4 3 (.int .i64 1) beq_] (i_ 4 (sr_ [m_ 5 [k_ (.int .i64 0),k_ (.int .i64 255)] (.build [(.int .i64 0),(.int .i64 0)] [(0,1),(1,1)] [0,1]),o1 6 5 (.bslice 2 1 (.agg [(.int .i64 0),(.int .i64 0)]) [0]),v_ 2 6] .ret) .skip)) (.seq (sr_ [v_ 7 0,c2 8 7 (.int .i64 2) beq_] (i_ 8 (sr_ [m_ 9 [k_ (.int .i64 0),k_ (.int .i64 55295)] (.build [(.int .i64 0),(.int .i64 0)] [(0,1),(1,1)] [0,1]),m_ 10 [k_ (.int .i64 57344),k_ (.int .i64 1114111)] (.build [(.int .i64 0),(.int .i64 0)] [(0,1),(1,1)] [0,1]),o2 11 9 10 (.bslice 2 2 (.agg [(.int .i64 0),(.int .i64 0)]) [0,1]),v_ 2 11] .ret) .skip)) (sr_ [ns_ 2] .ret))))
theorem PW:AS Tryz.prog 130 1=some ⟨12,1,[(.slot 2)],Ki⟩:=by kernel_rfl
def MO:AC:=(sr_ [o1 4 0 .box,bf_ 8] (.seq (sr_ [o1 19 4 l6,v_ 20 1,v_ 21 2,v_ 22 3,o1 23 22 ln,m_ 24 [k_ (.fn 150 []),s_ 19,s_ 20,s_ 21,s_ 23] .call,o1 25 24 nt] (i_ 25 (sr_ [bf_ 8] .ret) .skip)) (sr_ [o1 27 4 l6,v_ 28 1,v_ 29 3,k3 30 151 27 28 29,v_ 26 30,o1 31 26 (.extract 0),o1 32 26 (.extract 1),v_ 9 31,v_ 10 32] (.seq (sr_ [v_ 33 10,o1 34 33 nt] (i_ 34 (sr_ [bf_ 8] .ret) .skip)) (.seq (sr_ [v_ 35 2,c2 36 35 (.int .i64 2) beq_] (i_ 36 (sr_ [v_ 37 9,v_ 38 2,k1 39 130 38,m_ 40 [k_ (.fn 129 []),s_ 37,s_ 39,k_ (.int .i64 2)] .call,o1 41 40 ln,c2 42 41 (.int .i64 0) beq_,v_ 8 42] .ret) .skip)) (.seq (.dtl [o1 43 4 f1_,o1 44 43 ld,k1 45 152 44,o1 46 4 f2_,o1 47 46 ld,k1 48 152 47,o1 49 4 f3_,o1 50 49 ld] [k1 51 152 50,v_ 11 45,v_ 12 48,v_ 13 51]) (.seq (sr_ [z_ 14] (.block 0 (.loop (.seq (sr_ [v_ 52 14,v_ 53 9,o1 54 53 ln,o2 55 52 54 bls_] (ex_ 55 0)) (.seq (.block 1 (.seq (.dreg [v_ 58 9,v_ 59 14,o2 60 58 59 a2_,o1 61 60 f0_,o1 62 61 ld,v_ 63 11,o2 64 62 63 (.bin .quo),v_ 65 9,v_ 66 14,o2 67 65 66 a2_,o1 68 67 f1_,o1 69 68 ld,v_ 70 11,o2 71 69 70 (.bin .quo),v_ 15 64,v_ 16 71]) (sr_ [v_ 72 15,v_ 17 72] (.block 2 (.loop (.seq (sr_ [v_ 73 17,v_ 74 16,o2 75 73 74 ble_] (ex_ 75 2)) (.seq (.block 3 (.seq (sr_ [v_ 78 17,v_ 79 15,o2 80 78 79 bsu_,c2 81 80 (.int .i64 300) bgt_,v_ 82 81,g1 83 82 12 .mv,g_ 84 82 true [s_ 83,k_ (.int .i64 300)] bgt_,m_ 85 [s_ 82,s_ 84,k_ (.bool false)] .pick] (i_ 85 (sr_ [v_ 86 17,v_ 87 15,o2 88 86 87 bsu_,c2 89 88 (.int .i64 700) bgt_] (i_ 89 (sr_ [bf_ 8] .ret) .skip)) (sr_ [v_ 90 17,v_ 91 15,o2 92 90 91 bsu_,v_ 93 12,o2 94 92 93 bgt_] (i_ 94 (.exit 2) .skip)))) (.seq (.dreg [o1 95 4 f0_,o1 96 95 ld,v_ 97 17,v_ 98 12,o2 99 97 98 (.bin .rem),v_ 100 13,o2 101 99 100 (.bin .mul),o2 102 96 101 bad_,v_ 18 102]) (sr_ [v_ 103 18,c2 104 103 (.int .i64 0) bls_,v_ 105 104,g_ 106 105 false [s_ 18] .mv,g_ 107 105 false [s_ 106,k_ (.int .i64 255)] bgt_,m_ 108 [s_ 105,k_ (.bool true),s_ 107] .pick] (i_ 108 (sr_ [bf_ 8] .ret) .skip))))) (.reg [v_ 76 17,i1_ 77 76,v_ 17 77])))))))) (.reg [v_ 56 14,i1_ 57 56,v_ 14 57])))))) (sr_ [bt_ 8] .ret))))))))
theorem UJ:AS Tryz.prog 131 4=some ⟨109,4,[(.slot 8)],MO⟩:=by kernel_rfl
def UK:AC:=(sr_ [bf_ 4] (.seq (sr_ [v_ 5 0] (.block 0 (sr_ [c2 7 5 (.int .i64 1) beq_,v_ 6 7] (i_ 6 (sr_ [v_ 8 1,c2 9 8 (.int .i32 0) bge_,v_ 10 9,g1 11 10 1 .mv,g_ 12 10 true [s_ 11,k_ (.int .i32 255)] ble_,m_ 13 [s_ 10,s_ 12,k_ (.bool false)] .pick,v_ 4 13] .ret) (sr_ [c2 15 5 (.int .i64 2) beq_,v_ 14 15] (i_ 14 (sr_ [v_ 16 1,c2 17 16 (.int .i32 0) bge_,v_ 18 17,g1 19 18 1 .mv,g_ 20 18 true [s_ 19,k_ (.int .i32 1114111)] ble_,m_ 21 [s_ 18,s_ 20,k_ (.bool false)] .pick,v_ 22 21,g1 23 22 1 .mv,g_ 24 22 true [s_ 23,k_ (.int .i32 55296)] bls_,g1 25 22 24 .mv,g_ 26 25 false [s_ 1] .mv,g_ 27 25 false [s_ 26,k_ (.int .i32 57343)] bgt_,g_ 28 22 true [s_ 25,k_ (.bool true),s_ 27] .pick,m_ 29 [s_ 22,s_ 28,k_ (.bool false)] .pick,v_ 4 29] .ret) .skip)))))) (sr_ [bf_ 4] .ret)))
theorem z5e:AS Tryz.prog 133 2=some ⟨30,2,[(.slot 4)],UK⟩:=by kernel_rfl
def Eo:AC:=(sr_ [o1 4 1 ld,o1 5 4 ln,c2 6 5 (.int .i64 1) bsu_,v_ 3 6] (.block 0 (.loop (.seq (sr_ [v_ 7 3,c2 8 7 (.int .i64 0) bge_] (ex_ 8 0)) (.seq (.block 1 (sr_ [v_ 11 0,v_ 12 3,o1 13 1 ld,v_ 14 3,o2 15 13 14 a1_,o1 16 15 ld,o3 17 11 12 16 .call,o1 18 17 nt] (i_ 18 .ret .skip))) (.reg [v_ 9 3,c2 10 9 (.int .i64 1) bsu_,v_ 3 10]))))))
theorem Hr:AS Tryz.prog 134 2=some ⟨19,2,[],Eo⟩:=by kernel_rfl
def MP:AC:=(sr_ [o1 2 0 .box,bf_ 4] (sr_ [o1 5 2 f0_,o1 6 5 ld,c2 7 6 (.int .i64 0) bge_,v_ 8 7,g1 9 8 2 f0_,g1 10 8 9 ld,g1 11 8 1 .mv,g2 12 8 10 11 bls_,m_ 13 [s_ 8,s_ 12,k_ (.bool false)] .pick,v_ 14 13,g1 15 14 2 (.load true 4),g_ 16 14 true [k_ (.fn 153 []),s_ 15] .call,m_ 17 [s_ 14,s_ 16,k_ (.bool false)] .pick,v_ 4 17] .ret))
theorem UL:AS Tryz.prog 135 2=some ⟨18,2,[(.slot 4)],MP⟩:=by kernel_rfl
def MQ:AC:=(sr_ [o1 2 0 .box,z_ 4,bf_ 5] (.seq (sr_ [o1 6 2 (.load true 4),k1 7 153 6,o1 8 7 nt,v_ 9 8,g_ 10 9 false [s_ 1] .mv,g_ 11 9 false [s_ 10,k_ (.int .i64 0)] bls_,m_ 12 [s_ 9,k_ (.bool true),s_ 11] .pick,v_ 13 12,g_ 14 13 false [s_ 1] .mv,g_ 15 13 false [s_ 14,k_ (.int .i64 2097151)] bgt_,m_ 16 [s_ 13,k_ (.bool true),s_ 15] .pick] (i_ 16 (sr_ [z_ 4,bf_ 5] .ret) .skip)) (.seq (.dreg [v_ 17 1,o1 18 2 f1_,o1 19 18 ld,o2 20 17 19 (.bin .shr),o1 21 2 f2_,o1 22 21 ld,m_ 23 [k_ (.int .i64 1),s_ 22] (.bin .shl),c2 24 23 (.int .i64 1) bsu_,o2 25 20 24 (.bin .and),o1 26 2 f3_,o1 27 26 ld,o2 28 25 27 (.bin .shl),v_ 4 28,bt_ 5]) .ret)))
theorem UM:AS Tryz.prog 136 2=some ⟨29,2,[(.slot 4),(.slot 5)],MQ⟩:=by kernel_rfl
def MR:AC:=(sr_ [o1 1 0 .box,o0 2 (.alloc (.agg [(.int .i64 0),(.int .i64 0),(.int .i64 0),(.int .i64 0)]) 4)] (sr_ [o1 3 1 f1_,o1 4 3 ld,o1 5 1 f2_,o1 6 5 ld,o1 7 1 f3_,o1 8 7 ld,o3 9 4 6 8 (.build [(.int .i64 0),(.int .i64 0),(.int .i64 0),(.int .i64 0)] [(0,1),(1,1),(2,1),(3,1)] [1,2,3]),n2 2 9 (.store 4)] .ret))
theorem UN:AS Tryz.prog 137 1=some ⟨10,1,[(.cell 2 true 4)],MR⟩:=by kernel_rfl
def F1:AC:=(sr_ [bt_ 10] (sr_ [bt_ 11] (.block 0 (.loop (.block 1 (sr_ [v_ 21 2,v_ 22 1,o2 23 21 22 bsu_,v_ 12 23] (.seq (sr_ [v_ 24 12,c2 25 24 (.int .i64 12) ble_] (i_ 25 (sr_ [v_ 26 0,v_ 27 1,v_ 28 2,v_ 29 4,m_ 30 [k_ (.fn 154 []),s_ 26,s_ 27,s_ 28,s_ 29] .call] .ret) .skip)) (.seq (sr_ [v_ 31 3,c2 32 31 (.int .i64 0) beq_] (i_ 32 (sr_ [v_ 33 0,v_ 34 1,v_ 35 2,v_ 36 4,m_ 37 [k_ (.fn 155 []),s_ 33,s_ 34,s_ 35,s_ 36] .call] .ret) .skip)) (.seq (sr_ [v_ 38 10,o1 39 38 nt] (i_ 39 (sr_ [v_ 40 0,v_ 41 1,v_ 42 2,v_ 43 4,m_ 44 [k_ (.fn 156 []),s_ 40,s_ 41,s_ 42,s_ 43] .call] (.reg [v_ 45 3,c2 46 45 (.int .i64 1) bsu_,v_ 3 46])) .skip)) (sr_ [v_ 48 0,v_ 49 1,v_ 50 2,v_ 51 4,m_ 52 [k_ (.fn 157 []),s_ 48,s_ 49,s_ 50,s_ 51] .call,v_ 47 52,o1 53 47 (.extract 0),o1 54 47 (.extract 1),v_ 13 53,v_ 14 54] (.seq (sr_ [v_ 55 14,c2 56 55 (.int .i64 2) beq_] (i_ 56 (sr_ [v_ 57 0,v_ 58 1,v_ 59 2,v_ 60 4,m_ 61 [k_ (.fn 158 []),s_ 57,s_ 58,s_ 59,s_ 60] .call] (sr_ [v_ 62 2,c2 63 62 (.int .i64 1) bsu_,v_ 64 13,v_ 65 1,o2 66 64 65 bsu_,o2 67 63 66 bsu_,v_ 13 67] (.reg [c1 14 (.int .i64 1) .mv]))) .skip)) (.seq (sr_ [v_ 68 10,v_ 69 68,g1 70 69 11 .mv,m_ 71 [s_ 69,s_ 70,k_ (.bool false)] .pick,v_ 72 71,g1 73 72 14 .mv,g_ 74 72 true [s_ 73,k_ (.int .i64 1)] beq_,m_ 75 [s_ 72,s_ 74,k_ (.bool false)] .pick] (i_ 75 (sr_ [v_ 76 0,v_ 77 1,v_ 78 2,v_ 79 4,m_ 80 [k_ (.fn 159 []),s_ 76,s_ 77,s_ 78,s_ 79] .call] (i_ 80 .ret .skip)) .skip)) (.seq (.seq (.dtl [v_ 81 1,c2 82 81 (.int .i64 0) bgt_,v_ 83 82,g1 84 83 4 .mv,g1 85 83 0 .mv,g1 86 83 1 .mv,g_ 87 83 true [s_ 86,k_ (.int .i64 1)] bsu_,g2 88 83 85 87 a1_,g1 89 83 88 ld,g1 90 83 0 .mv,g1 91 83 13 .mv,g2 92 83 90 91 a1_,g1 93 83 92 ld] [g_ 94 83 true [s_ 84,s_ 89,s_ 93] .call,g_ 95 83 true [s_ 94,k_ (.int .i64 0)] bls_,g1 96 83 95 nt,m_ 97 [s_ 83,s_ 96,k_ (.bool false)] .pick]) (i_ 97 (sr_ [v_ 98 0,v_ 99 1,v_ 100 2,v_ 101 13,v_ 102 4,m_ 103 [k_ (.fn 160 []),s_ 98,s_ 99,s_ 100,s_ 101,s_ 102] .call,v_ 15 103] (sr_ [v_ 104 15,v_ 1 104] (.exit 1))) .skip)) (sr_ [v_ 106 0,v_ 107 1,v_ 108 2,v_ 109 13,v_ 110 4,m_ 111 [k_ (.fn 161 []),s_ 106,s_ 107,s_ 108,s_ 109,s_ 110] .call,v_ 105 111,o1 112 105 (.extract 0),o1 113 105 (.extract 1),v_ 16 112,v_ 17 113] (sr_ [v_ 114 17,v_ 11 114] (sr_ [v_ 115 16,v_ 116 1,o2 117 115 116 bsu_,v_ 118 2,v_ 119 16,o2 120 118 119 bsu_,v_ 18 117,v_ 19 120] (sr_ [v_ 121 12,c2 122 121 (.int .i64 8) (.bin .quo),v_ 20 122] (sr_ [v_ 123 18,v_ 124 19,o2 125 123 124 bls_] (i_ 125 (sr_ [v_ 126 18,v_ 127 20,o2 128 126 127 bge_,v_ 10 128] (sr_ [v_ 129 0,v_ 130 1,v_ 131 16,v_ 132 3,v_ 133 4,m_ 134 [k_ (.fn 138 []),s_ 129,s_ 130,s_ 131,s_ 132,s_ 133] .call] (.reg [v_ 135 16,i1_ 136 135,v_ 1 136]))) (sr_ [v_ 137 19,v_ 138 20,o2 139 137 138 bge_,v_ 10 139] (sr_ [v_ 140 0,v_ 141 16,i1_ 142 141,v_ 143 2,v_ 144 3,v_ 145 4,m_ 146 [k_ (.fn 138 []),s_ 140,s_ 142,s_ 143,s_ 144,s_ 145] .call] (.reg [v_ 147 16,v_ 2 147]))))))))))))))))))))))
theorem Hb:AS Tryz.prog 138 5=some ⟨148,5,[],F1⟩:=by kernel_rfl
def Jk:AC:=(sr_ [z_ 2] (.seq (.cond (.const (.bool false)) (sr_ [v_ 3 0,o1 4 3 (.conv .u32),k1 5 162 4,v_ 2 5] .ret) .skip) (sr_ [v_ 6 0,k1 7 163 6,v_ 2 7] .ret)))
theorem O8:AS Tryz.prog 139 1=some ⟨8,1,[(.slot 2)],Jk⟩:=by kernel_rfl
def Lt:AC:=(sr_ [z_ 4] (.seq (sr_ [z_ 5] (.block 0 (.loop (.seq (sr_ [v_ 6 5,v_ 7 0,o1 8 7 ln,o2 9 6 8 bls_,v_ 10 9,g1 11 10 5 .mv,g1 12 10 1 .mv,g1 13 10 12 ln,g2 14 10 11 13 bls_,m_ 15 [s_ 10,s_ 14,k_ (.bool false)] .pick] (ex_ 15 0)) (.seq (.block 1 (.seq (.dreg [v_ 18 0,v_ 19 5,o2 20 18 19 a1_,o1 21 20 ld,v_ 22 1,v_ 23 5,o2 24 22 23 a1_,o1 25 24 ld,o2 26 21 25 bne_]) (i_ 26 (sr_ [v_ 27 5,v_ 4 27] .ret) .skip))) (.reg [v_ 16 5,i1_ 17 16,v_ 5 17])))))) (sr_ [v_ 28 0,o1 29 28 ln,v_ 30 1,o1 31 30 ln,o2 32 29 31 .min,v_ 4 32] .ret)))
theorem So:AS Tryz.prog 140 2=some ⟨33,2,[(.slot 4)],Lt⟩:=by kernel_rfl
def Lu:AC:=(sr_ [o1 2 0 .box,bf_ 4] (sr_ [o1 5 2 (.load true 4),k1 6 164 5,v_ 7 6,g1 8 7 2 f0_,g1 9 7 8 ld,g_ 10 7 true [s_ 9,k_ (.int .i64 0)] bge_,m_ 11 [s_ 7,s_ 10,k_ (.bool false)] .pick,v_ 12 11,g1 13 12 2 f0_,g1 14 12 13 ld,g1 15 12 1 .mv,g2 16 12 14 15 bls_,m_ 17 [s_ 12,s_ 16,k_ (.bool false)] .pick,v_ 4 17] .ret))
theorem Sp:AS Tryz.prog 141 2=some ⟨18,2,[(.slot 4)],Lu⟩:=by kernel_rfl
def Lv:AC:=(sr_ [o1 2 0 .box,z_ 4,bf_ 5] (.seq (sr_ [o1 6 2 (.load true 4),k1 7 164 6,o1 8 7 nt,v_ 9 8,g_ 10 9 false [s_ 1] .mv,g_ 11 9 false [s_ 10,k_ (.int .i64 0)] bls_,m_ 12 [s_ 9,k_ (.bool true),s_ 11] .pick,v_ 13 12,g_ 14 13 false [s_ 1] .mv,g_ 15 13 false [s_ 14,k_ (.int .i64 2097152)] bge_,m_ 16 [s_ 13,k_ (.bool true),s_ 15] .pick] (i_ 16 (sr_ [z_ 4,bf_ 5] .ret) .skip)) (.seq (.dreg [v_ 17 1,o1 18 2 f1_,o1 19 18 ld,k1 20 152 19,o2 21 17 20 (.bin .quo),o1 22 2 f2_,o1 23 22 ld,k1 24 152 23,o2 25 21 24 (.bin .rem),o1 26 2 f3_,o1 27 26 ld,k1 28 152 27,o2 29 25 28 (.bin .mul),v_ 4 29,bt_ 5]) .ret)))
theorem Sq:AS Tryz.prog 142 2=some ⟨30,2,[(.slot 4),(.slot 5)],Lv⟩:=by kernel_rfl
def Lw:AC:=(sr_ [o1 1 0 .box,o0 2 (.alloc (.agg [(.int .i64 0),(.int .i64 0),(.int .i64 0),(.int .i64 0)]) 4)] (sr_ [o1 3 1 f1_,o1 4 3 ld,o1 5 1 f2_,o1 6 5 ld,o1 7 1 f3_,o1 8 7 ld,o3 9 4 6 8 (.build [(.int .i64 0),(.int .i64 0),(.int .i64 0),(.int .i64 0)] [(0,1),(1,1),(2,1),(3,1)] [1,2,3]),n2 2 9 (.store 4)] .ret))
theorem Sr:AS Tryz.prog 143 1=some ⟨10,1,[(.cell 2 true 4)],Lw⟩:=by kernel_rfl
def IQ:AC:=(sr_ [bf_ 2] (sr_ [v_ 3 0,v_ 4 0,o2 5 3 4 bne_,v_ 2 5] .ret))
theorem Nq:AS Tryz.prog 144 1=some ⟨6,1,[(.slot 2)],IQ⟩:=by kernel_rfl
def MU:AC:=(sr_ [bf_ 2] (sr_ [c1 3 (.int .i64 (-1073741826)) .mv] (.seq (sr_ [v_ 6 0,o1 7 6 ln,z_ 8] (.block 0 (.loop (sr_ [o2 9 8 7 bls_] (.seq (ex_ 9 0) (.seq (.block 1 (sr_ [o2 10 6 8 a2_,o1 11 10 (.load true 2),o0 5 (.alloc (.agg [(.int .i64 0),(.int .i64 0)]) 2),n2 5 11 (.store 2)] (.seq (sr_ [o1 12 5 f0_,o1 13 12 ld,o1 14 5 f1_,o1 15 14 ld,o2 16 13 15 bgt_,v_ 17 16,g_ 18 17 false [s_ 5] f0_,g_ 19 17 false [s_ 18] ld,g_ 20 17 false [s_ 19,k_ (.int .i64 (-1073741824))] bls_,m_ 21 [s_ 17,k_ (.bool true),s_ 20] .pick,v_ 22 21,g_ 23 22 false [s_ 5] f1_,g_ 24 22 false [s_ 23] ld,g_ 25 22 false [s_ 24,k_ (.int .i64 1073741824)] bgt_,m_ 26 [s_ 22,k_ (.bool true),s_ 25] .pick,v_ 27 26,g_ 28 27 false [s_ 5] f0_,g_ 29 27 false [s_ 28] ld,g_ 30 27 false [s_ 3] .mv,g_ 31 27 false [s_ 30,k_ (.int .i64 1)] bad_,g_ 32 27 false [s_ 29,s_ 31] ble_,m_ 33 [s_ 27,k_ (.bool true),s_ 32] .pick] (i_ 33 (sr_ [bf_ 2] .ret) .skip)) (.reg [o1 34 5 f1_,o1 35 34 ld,v_ 3 35])))) (.reg [i1_ 36 8,v_ 8 36]))))))) (sr_ [bt_ 2] .ret))))
theorem UO:AS Tryz.prog 145 1=some ⟨37,1,[(.slot 2)],MU⟩:=by kernel_rfl
def Lx:AC:=(sr_ [bf_ 4] (sr_ [v_ 5 0,v_ 6 1,k2 7 165 5 6,o1 8 7 ln,c2 9 8 (.int .i64 0) beq_,v_ 4 9] .ret))
theorem Ss:AS Tryz.prog 146 2=some ⟨10,2,[(.slot 4)],Lx⟩:=by kernel_rfl
def O9:AC:=(sr_ [o1 4 0 .box,bf_ 8] (.seq (sr_ [o1 11 4 l6,v_ 12 1,v_ 13 2,v_ 14 3,o1 15 14 ln,m_ 16 [k_ (.fn 166 []),s_ 11,s_ 12,s_ 13,s_ 15] .call,o1 17 16 nt] (i_ 17 (sr_ [bf_ 8] .ret) .skip)) (sr_ [o1 19 4 l6,v_ 20 3,k2 21 167 19 20,v_ 18 21,o1 22 18 (.extract 0),o1 23 18 (.extract 1),v_ 9 22,v_ 10 23] (sr_ [v_ 24 10,v_ 25 24,g1 26 25 9 .mv,g1 27 25 2 .mv,g_ 28 25 true [k_ (.fn 72 []),s_ 27] .call,g_ 29 25 true [k_ (.fn 146 []),s_ 26,s_ 28] .call,m_ 30 [s_ 25,s_ 29,k_ (.bool false)] .pick,v_ 8 30] .ret))))
theorem W3:AS Tryz.prog 147 4=some ⟨31,4,[(.slot 8)],O9⟩:=by kernel_rfl
def Jl:AC:=(sr_ [ns_ 4] (sr_ [c1 9 (.int .i64 (-1073741824)) (.bslice 1 1 (.int .i64 0) [0]),v_ 5 9] (.seq (sr_ [z_ 6] (.block 0 (.loop (.seq (sr_ [v_ 10 6,c2 11 10 (.int .i64 2) bls_] (ex_ 11 0)) (.seq (.block 1 (sr_ [v_ 14 0,v_ 7 14] (.seq (sr_ [v_ 15 6,c2 16 15 (.int .i64 1) beq_] (i_ 16 (.reg [v_ 17 1,v_ 7 17]) .skip)) (sr_ [z_ 8] (.block 2 (.loop (.seq (sr_ [v_ 18 8,v_ 19 7,o1 20 19 ln,o2 21 18 20 bls_] (ex_ 21 2)) (.seq (.block 3 (.seq (sr_ [v_ 24 7,v_ 25 8,o2 26 24 25 a2_,o1 27 26 f0_,o1 28 27 ld,c2 29 28 (.int .i64 (-1073741824)) bgt_,v_ 30 29,g1 31 30 7 .mv,g1 32 30 8 .mv,g2 33 30 31 32 a2_,g1 34 30 33 f0_,g1 35 30 34 ld,g_ 36 30 true [s_ 35,k_ (.int .i64 1073741824)] ble_,m_ 37 [s_ 30,s_ 36,k_ (.bool false)] .pick] (i_ 37 (.reg [v_ 38 5,v_ 39 7,v_ 40 8,o2 41 39 40 a2_,o1 42 41 f0_,o1 43 42 ld,k2 44 168 38 43,v_ 5 44]) .skip)) (sr_ [v_ 45 7,v_ 46 8,o2 47 45 46 a2_,o1 48 47 f1_,o1 49 48 ld,c2 50 49 (.int .i64 (-1073741824)) bge_,v_ 51 50,g1 52 51 7 .mv,g1 53 51 8 .mv,g2 54 51 52 53 a2_,g1 55 51 54 f1_,g1 56 51 55 ld,g_ 57 51 true [s_ 56,k_ (.int .i64 1073741824)] bls_,m_ 58 [s_ 51,s_ 57,k_ (.bool false)] .pick] (i_ 58 (.reg [v_ 59 5,v_ 60 7,v_ 61 8,o2 62 60 61 a2_,o1 63 62 f1_,o1 64 63 ld,i1_ 65 64,k2 66 168 59 65,v_ 5 66]) .skip)))) (.reg [v_ 22 8,i1_ 23 22,v_ 8 23]))))))))) (.reg [v_ 12 6,i1_ 13 12,v_ 6 13])))))) (sr_ [v_ 67 5,v_ 4 67] .ret))))
theorem OA:AS Tryz.prog 149 2=some ⟨68,2,[(.slot 4)],Jl⟩:=by kernel_rfl
def Ly:AC:=(sr_ [o1 4 0 .box,bf_ 8] (.seq (sr_ [v_ 10 1,c2 11 10 (.int .i64 1) bne_,v_ 12 11,g1 13 12 1 .mv,g_ 14 12 true [s_ 13,k_ (.int .i64 2)] bne_,m_ 15 [s_ 12,s_ 14,k_ (.bool false)] .pick,v_ 16 15,g_ 17 16 false [s_ 2] .mv,g_ 18 16 false [s_ 17,k_ (.int .i64 1)] bne_,g_ 19 16 false [s_ 18] .mv,g1 20 19 2 .mv,g_ 21 19 true [s_ 20,k_ (.int .i64 2)] bne_,g_ 22 16 false [s_ 19,s_ 21,k_ (.bool false)] .pick,m_ 23 [s_ 16,k_ (.bool true),s_ 22] .pick,v_ 24 23,g_ 25 24 false [s_ 4] l6,g_ 26 24 false [k_ (.fn 169 []),s_ 25] .call,g_ 27 24 false [s_ 26] nt,m_ 28 [s_ 24,k_ (.bool true),s_ 27] .pick] (i_ 28 (sr_ [bf_ 8] .ret) .skip)) (.seq (sr_ [z_ 9] (.block 0 (.loop (.seq (sr_ [v_ 29 9,o1 30 4 f5_,o1 31 30 ld,o1 32 31 ln,o2 33 29 32 bls_] (ex_ 33 0)) (.seq (.block 1 (sr_ [o1 36 4 f5_,o1 37 36 ld,v_ 38 9,o2 39 37 38 a4_,o1 40 39 (.load true 4),v_ 41 3,k2 42 141 40 41,o1 43 42 nt,v_ 44 43,g_ 45 44 false [s_ 1] .mv,g_ 46 44 false [s_ 45,k_ (.int .i64 2)] beq_,g_ 47 44 false [s_ 46] .mv,g1 48 47 9 .mv,g_ 49 47 true [s_ 48,k_ (.int .i64 0)] bgt_,g1 50 47 49 .mv,g_ 51 50 false [s_ 4] f5_,g_ 52 50 false [s_ 51] ld,g_ 53 50 false [s_ 9] .mv,g_ 54 50 false [s_ 52,s_ 53] a4_,g_ 55 50 false [s_ 54] (.load true 4),g_ 56 50 false [k_ (.fn 170 []),s_ 55] .call,g_ 57 50 false [s_ 56] nt,g_ 58 47 true [s_ 50,k_ (.bool true),s_ 57] .pick,g_ 59 44 false [s_ 47,s_ 58,k_ (.bool false)] .pick,m_ 60 [s_ 44,k_ (.bool true),s_ 59] .pick] (i_ 60 (sr_ [bf_ 8] .ret) .skip))) (.reg [v_ 34 9,i1_ 35 34,v_ 9 35])))))) (sr_ [v_ 61 2,c2 62 61 (.int .i64 1) beq_,v_ 63 62,g_ 64 63 false [s_ 4] l6,g_ 65 63 false [k_ (.fn 171 []),s_ 64] .call,m_ 66 [s_ 63,k_ (.bool true),s_ 65] .pick,v_ 8 66] .ret))))
theorem Su:AS Tryz.prog 150 4=some ⟨67,4,[(.slot 8)],Ly⟩:=by kernel_rfl
def Lz:AC:=(sr_ [o1 3 0 .box,ns_ 6,bf_ 7] (.seq (sr_ [v_ 19 1,c2 20 19 (.int .i64 2) beq_,v_ 21 20,g1 22 21 3 f5_,g1 23 21 22 ld,g1 24 21 23 ln,g_ 25 21 true [s_ 24,k_ (.int .i64 1)] beq_,m_ 26 [s_ 21,s_ 25,k_ (.bool false)] .pick] (i_ 26 (.seq (.dtl [v_ 27 2,o1 28 3 f5_,o1 29 28 ld,c2 30 29 (.int .i64 0) a4_,o1 31 30 f0_,o1 32 31 ld,o2 33 27 32 a1_,o1 34 33 ld,k1 35 128 34,o1 36 3 f4_,o1 37 36 ld] [k2 38 172 35 37,v_ 8 38]) (.seq (.dreg [v_ 39 8,v_ 40 8,c2 41 40 (.int .i64 0) a2_,o1 42 41 f0_,o1 43 42 ld,c2 44 43 (.int .i64 0) bge_,v_ 45 44,g1 46 45 8 .mv,g1 47 45 8 .mv,g1 48 45 47 ln,g_ 49 45 true [s_ 48,k_ (.int .i64 1)] bsu_,g2 50 45 46 49 a2_,g1 51 45 50 f1_,g1 52 45 51 ld,g_ 53 45 true [s_ 52,k_ (.int .i64 1114111)] ble_,m_ 54 [s_ 45,s_ 53,k_ (.bool false)] .pick,v_ 6 39,v_ 7 54]) .ret)) .skip)) (sr_ [o1 55 3 f4_,o1 56 55 ld,o1 57 56 (.bslice 1 1 (.int .i64 0) [0]),v_ 9 57] (.seq (sr_ [z_ 10] (.block 0 (.loop (.seq (sr_ [v_ 58 10,v_ 59 2,o1 60 59 ln,o2 61 58 60 bls_] (ex_ 61 0)) (.seq (.block 1 (sr_ [ns_ 11] (sr_ [bf_ 12] (.seq (sr_ [z_ 13] (.block 2 (.loop (.seq (sr_ [v_ 64 13,c2 65 64 (.int .i64 256) bls_,v_ 66 65,g1 67 66 1 .mv,g_ 68 66 true [s_ 67,k_ (.int .i64 1)] beq_,m_ 69 [s_ 66,s_ 68,k_ (.bool false)] .pick] (ex_ 69 2)) (.seq (.block 3 (.seq (sr_ [v_ 72 2,v_ 73 10,o2 74 72 73 a1_,o1 75 74 ld,v_ 76 13,k2 77 110 75 76,o1 78 77 nt] (i_ 78 (.exit 3) .skip)) (sr_ [z_ 14] (.seq (sr_ [z_ 15] (.block 4 (.loop (.seq (sr_ [v_ 79 15,o1 80 3 f5_,o1 81 80 ld,o1 82 81 ln,o2 83 79 82 bls_] (ex_ 83 4)) (.seq (.block 5 (sr_ [o1 86 3 f5_,o1 87 86 ld,v_ 88 15,o2 89 87 88 a4_,o1 90 89 f0_,o1 91 90 ld,v_ 92 10,o2 93 91 92 beq_] (i_ 93 (sr_ [o1 95 3 f5_,o1 96 95 ld,v_ 97 15,o2 98 96 97 a4_,o1 99 98 (.load true 4),v_ 100 13,k2 101 142 99 100,v_ 94 101,o1 102 94 (.extract 0),o1 103 94 (.extract 1),v_ 16 102,v_ 17 103] (sr_ [v_ 104 14,v_ 105 16,o2 106 104 105 bad_,v_ 14 106] (.reg [bt_ 12]))) .skip))) (.reg [v_ 84 15,i1_ 85 84,v_ 15 85])))))) (.reg [v_ 107 11,v_ 108 14,k2 109 173 107 108,v_ 11 109]))))) (.reg [v_ 70 13,i1_ 71 70,v_ 13 71])))))) (.seq (sr_ [v_ 110 12,o1 111 110 nt] (i_ 111 (.exit 1) .skip)) (sr_ [bt_ 18] (sr_ [v_ 113 9,v_ 114 11,k2 115 174 113 114,v_ 112 115,o1 116 112 (.extract 0),o1 117 112 (.extract 1),v_ 9 116,v_ 18 117] (sr_ [v_ 118 18,o1 119 118 nt] (i_ 119 (sr_ [ns_ 6,bf_ 7] .ret) .skip))))))))) (.reg [v_ 62 10,i1_ 63 62,v_ 10 63])))))) (.seq (.dreg [v_ 120 9,k1 121 175 120,v_ 122 9,c2 123 122 (.int .i64 0) a1_,o1 124 123 ld,c2 125 124 (.int .i64 0) bge_,v_ 126 125,g1 127 126 9 .mv,g1 128 126 9 .mv,g1 129 126 128 ln,g_ 130 126 true [s_ 129,k_ (.int .i64 1)] bsu_,g2 131 126 127 130 a1_,g1 132 126 131 ld,g_ 133 126 true [s_ 132,k_ (.int .i64 1114111)] ble_,m_ 134 [s_ 126,s_ 133,k_ (.bool false)] .pick,v_ 6 121,v_ 7 134]) .ret)))))
theorem Sv:AS Tryz.prog 151 3=some ⟨135,3,[(.slot 6),(.slot 7)],Lz⟩:=by kernel_rfl
def OB:AC:=(sr_ [z_ 2] (sr_ [c1 3 (.int .i64 1) .mv] (.seq (sr_ [z_ 4] (.block 0 (.loop (.seq (sr_ [v_ 5 4,v_ 6 0,o2 7 5 6 bls_] (ex_ 7 0)) (.seq (.block 1 (.reg [v_ 10 3,m_ 11 [k_ (.int .i64 2),s_ 10] (.bin .mul),v_ 3 11])) (.reg [v_ 8 4,i1_ 9 8,v_ 4 9])))))) (sr_ [v_ 12 3,v_ 2 12] .ret))))
theorem W4:AS Tryz.prog 152 1=some ⟨13,1,[(.slot 2)],OB⟩:=by kernel_rfl
def OC:AC:=(sr_ [o1 1 0 .box,bf_ 2] (sr_ [o1 3 1 f1_,o1 4 3 ld,c2 5 4 (.int .i64 0) bge_,v_ 6 5,g1 7 6 1 f1_,g1 8 6 7 ld,g_ 9 6 true [s_ 8,k_ (.int .i64 21)] bls_,m_ 10 [s_ 6,s_ 9,k_ (.bool false)] .pick,v_ 11 10,g1 12 11 1 f2_,g1 13 11 12 ld,g_ 14 11 true [s_ 13,k_ (.int .i64 1)] bge_,m_ 15 [s_ 11,s_ 14,k_ (.bool false)] .pick,v_ 16 15,g1 17 16 1 f2_,g1 18 16 17 ld,g_ 19 16 true [s_ 18,k_ (.int .i64 21)] ble_,m_ 20 [s_ 16,s_ 19,k_ (.bool false)] .pick,v_ 21 20,g1 22 21 1 f3_,g1 23 21 22 ld,g_ 24 21 true [s_ 23,k_ (.int .i64 0)] bge_,m_ 25 [s_ 21,s_ 24,k_ (.bool false)] .pick,v_ 26 25,g1 27 26 1 f3_,g1 28 26 27 ld,g_ 29 26 true [s_ 28,k_ (.int .i64 21)] bls_,m_ 30 [s_ 26,s_ 29,k_ (.bool false)] .pick,v_ 31 30,g1 32 31 1 f3_,g1 33 31 32 ld,g_ 34 31 true [s_ 33,k_ (.int .i64 0)] beq_,g1 35 31 34 .mv,g_ 36 35 false [s_ 1] f2_,g_ 37 35 false [s_ 36] ld,g_ 38 35 false [s_ 37,k_ (.int .i64 6)] ble_,g_ 39 31 true [s_ 35,k_ (.bool true),s_ 38] .pick,m_ 40 [s_ 31,s_ 39,k_ (.bool false)] .pick,v_ 2 40] .ret))
theorem W5:AS Tryz.prog 153 1=some ⟨41,1,[(.slot 2)],OC⟩:=by kernel_rfl
def Eu:AC:=(sr_ [v_ 10 1,i1_ 11 10,v_ 8 11] (.block 0 (.loop (.seq (sr_ [v_ 12 8,v_ 13 2,o2 14 12 13 bls_] (ex_ 14 0)) (.seq (.block 1 (sr_ [v_ 17 8,v_ 9 17] (.block 2 (.loop (.seq (.seq (.dtl [v_ 18 9,v_ 19 1,o2 20 18 19 bgt_,v_ 21 20,g1 22 21 3 .mv,g1 23 21 0 .mv,g1 24 21 9 .mv,g2 25 21 23 24 a1_,g1 26 21 25 ld,g1 27 21 0 .mv,g1 28 21 9 .mv,g_ 29 21 true [s_ 28,k_ (.int .i64 1)] bsu_,g2 30 21 27 29 a1_,g1 31 21 30 ld] [g_ 32 21 true [s_ 22,s_ 26,s_ 31] .call,g_ 33 21 true [s_ 32,k_ (.int .i64 0)] bls_,m_ 34 [s_ 21,s_ 33,k_ (.bool false)] .pick]) (ex_ 34 2)) (.seq (.block 3 (.greg [v_ 37 0,v_ 38 9,v_ 39 0,v_ 40 9,c2 41 40 (.int .i64 1) bsu_,v_ 42 0,v_ 43 9,c2 44 43 (.int .i64 1) bsu_,o2 45 42 44 a1_,o1 46 45 ld,v_ 47 0,v_ 48 9,o2 49 47 48 a1_,o1 50 49 ld,o2 51 37 38 a1_,n2 51 46 st,o2 52 39 41 a1_,n2 52 50 st])) (.reg [v_ 35 9,c2 36 35 (.int .i64 1) bsu_,v_ 9 36]))))))) (.reg [v_ 15 8,i1_ 16 15,v_ 8 16]))))))
theorem Gr:AS Tryz.prog 154 4=some ⟨53,4,[],Eu⟩:=by kernel_rfl
def Ig:AC:=(sr_ [z_ 2] (.seq (sr_ [v_ 3 0,c2 4 3 (.int .u64 4294967296) bge_] (i_ 4 (sr_ [v_ 5 0,c2 6 5 (.int .u64 32) (.bin .shr),v_ 0 6] (.reg [c1 2 (.int .i64 32) .mv])) .skip)) (.seq (sr_ [v_ 7 0,c2 8 7 (.int .u64 65536) bge_] (i_ 8 (sr_ [v_ 9 0,c2 10 9 (.int .u64 16) (.bin .shr),v_ 0 10] (.reg [v_ 11 2,c2 12 11 (.int .i64 16) bad_,v_ 2 12])) .skip)) (.seq (sr_ [v_ 13 0,c2 14 13 (.int .u64 256) bge_] (i_ 14 (sr_ [v_ 15 0,c2 16 15 (.int .u64 8) (.bin .shr),v_ 0 16] (.reg [v_ 17 2,c2 18 17 (.int .i64 8) bad_,v_ 2 18])) .skip)) (sr_ [v_ 19 2,v_ 20 0,o1 21 20 (.conv .u8),m_ 22 [k_ (.str [0,1,2,2,3,3,3,3,4,4,4,4,4,4,4,4,5,5,5,5,5,5,5,5,5,5,5,5,5,5,5,5,6,6,6,6,6,6,6,6,6,6,6,6,6,6,6,6,6,6,6,6,6,6,6,6,6,6,6,6,6,6,6,6,7,7,7,7,7,7,7,7,7,7,7,7,7,7,7,7,7,7,7,7,7,7,7,7,7,7,7,7,7,7,7,7,7,7,7,7,7,7,7,7,7,7,7,7,7,7,7,7,7,7,7,7,7,7,7,7,7,7,7,7,7,7,7,7,8,8,8,8,8,8,8,8,8,8,8,8,8,8,8,8,8,8,8,8,8,8,8,8,8,8,8,8,8,8,8,8,8,8,8,8,8,8,8,8,8,8,8,8,8,8,8,8,8,8,8,8,8,8,8,8,8,8,8,8,8,8,8,8,8,8,8,8,8,8,8,8,8,8,8,8,8,8,8,8,8,8,8,8,8,8,8,8,8,8,8,8,8,8,8,8,8,8,8,8,8,8,8,8,8,8,8,8,8,8,8,8,8,8,8,8,8,8,8,8,8,8,8,8,8,8,8,8]),s_ 21] .indexStr,o1 23 22 (.conv .i64),o2 24 19 23 bad_,v_ 2 24] .ret)))))
theorem Mp:AS Tryz.prog 163 1=some ⟨25,1,[(.slot 2)],Ig⟩:=by kernel_rfl
def MV:AC:=(sr_ [o1 1 0 .box,bf_ 2] (.seq (sr_ [o1 3 1 f1_,o1 4 3 ld,c2 5 4 (.int .i64 0) bls_,v_ 6 5,g_ 7 6 false [s_ 1] f1_,g_ 8 6 false [s_ 7] ld,g_ 9 6 false [s_ 8,k_ (.int .i64 20)] bgt_,m_ 10 [s_ 6,k_ (.bool true),s_ 9] .pick,v_ 11 10,g_ 12 11 false [s_ 1] f2_,g_ 13 11 false [s_ 12] ld,g_ 14 11 false [s_ 13,k_ (.int .i64 1)] bls_,m_ 15 [s_ 11,k_ (.bool true),s_ 14] .pick,v_ 16 15,g_ 17 16 false [s_ 1] f2_,g_ 18 16 false [s_ 17] ld,g_ 19 16 false [s_ 18,k_ (.int .i64 21)] bgt_,m_ 20 [s_ 16,k_ (.bool true),s_ 19] .pick,v_ 21 20,g_ 22 21 false [s_ 1] f3_,g_ 23 21 false [s_ 22] ld,g_ 24 21 false [s_ 23,k_ (.int .i64 0)] bls_,m_ 25 [s_ 21,k_ (.bool true),s_ 24] .pick,v_ 26 25,g_ 27 26 false [s_ 1] f3_,g_ 28 26 false [s_ 27] ld,g_ 29 26 false [s_ 28,k_ (.int .i64 20)] bgt_,m_ 30 [s_ 26,k_ (.bool true),s_ 29] .pick] (i_ 30 (sr_ [bf_ 2] .ret) .skip)) (sr_ [o1 31 1 f3_,o1 32 31 ld,c2 33 32 (.int .i64 0) beq_,v_ 34 33,g_ 35 34 false [s_ 1] f2_,g_ 36 34 false [s_ 35] ld,g_ 37 34 false [s_ 36,k_ (.int .i64 6)] ble_,m_ 38 [s_ 34,k_ (.bool true),s_ 37] .pick,v_ 2 38] .ret)))
theorem UP:AS Tryz.prog 164 1=some ⟨39,1,[(.slot 2)],MV⟩:=by kernel_rfl
def MW:AC:=(sr_ [ns_ 4] (sr_ [ns_ 5] (sr_ [c1 6 (.int .i64 (-1073741824)) .mv] (.seq (sr_ [v_ 9 1,k1 10 181 9,o1 11 10 ln,z_ 12] (.block 0 (.loop (sr_ [o2 13 12 11 bls_] (.seq (ex_ 13 0) (.seq (.block 1 (sr_ [o2 14 10 12 a2_,o1 15 14 (.load true 2),o0 8 (.alloc (.agg [(.int .i64 0),(.int .i64 0)]) 2),n2 8 15 (.store 2)] (sr_ [v_ 16 5,v_ 17 6,o1 18 8 f0_,o1 19 18 ld,c2 20 19 (.int .i64 1) bsu_,o2 21 17 20 (.build [(.int .i64 0),(.int .i64 0)] [(0,1),(1,1)] [0,1]),o1 22 21 (.bslice 2 1 (.agg [(.int .i64 0),(.int .i64 0)]) [0]),o2 23 16 22 (.app 2 16 (.agg [(.int .i64 0),(.int .i64 0)])),v_ 5 23] (.reg [o1 24 8 f1_,o1 25 24 ld,i1_ 26 25,v_ 6 26])))) (.reg [i1_ 27 12,v_ 12 27]))))))) (sr_ [v_ 28 5,v_ 29 6,c2 30 29 (.int .i64 1073741824) (.build [(.int .i64 0),(.int .i64 0)] [(0,1),(1,1)] [0,1]),o1 31 30 (.bslice 2 1 (.agg [(.int .i64 0),(.int .i64 0)]) [0]),o2 32 28 31 (.app 2 16 (.agg [(.int .i64 0),(.int .i64 0)])),v_ 5 32] (sr_ [v_ 33 0,v_ 34 5,k2 35 182 33 34,v_ 4 35] .ret))))))
theorem UQ:AS Tryz.prog 165 2=some ⟨36,2,[(.slot 4)],MW⟩:=by kernel_rfl
def MX:AC:=(sr_ [o1 4 0 .box,bf_ 8] (.seq (sr_ [v_ 11 1,k1 12 72 11,o1 13 12 ln,c2 14 13 (.int .i64 0) beq_,v_ 15 14,g_ 16 15 false [s_ 2] .mv,g_ 17 15 false [k_ (.fn 72 []),s_ 16] .call,g_ 18 15 false [s_ 17] ln,g_ 19 15 false [s_ 18,k_ (.int .i64 0)] beq_,m_ 20 [s_ 15,k_ (.bool true),s_ 19] .pick,v_ 21 20,g_ 22 21 false [s_ 4] l6,g_ 23 21 false [k_ (.fn 183 []),s_ 22] .call,g_ 24 21 false [s_ 23] nt,m_ 25 [s_ 21,k_ (.bool true),s_ 24] .pick] (i_ 25 (sr_ [bf_ 8] .ret) .skip)) (.seq (sr_ [o1 26 4 f5_,o1 27 26 ld,o1 28 27 ln,z_ 29] (.block 0 (.loop (sr_ [o2 30 29 28 bls_] (.seq (ex_ 30 0) (.seq (.block 1 (sr_ [o2 31 27 29 a4_,o1 32 31 (.load true 4),o0 10 (.alloc (.agg [(.int .i64 0),(.int .i64 0),(.int .i64 0),(.int .i64 0)]) 4),n2 10 32 (.store 4)] (.seq (.dreg [o1 33 10 (.load true 4),v_ 34 3,k2 35 135 33 34,o1 36 35 nt,v_ 37 36,g_ 38 37 false [s_ 1] .mv,g_ 39 37 false [s_ 38,k_ (.int .i64 2)] beq_,g_ 40 37 false [s_ 39] .mv,g1 41 40 10 (.load true 4),g1 42 40 10 f0_,g1 43 40 42 ld,g_ 44 40 true [k_ (.fn 113 []),s_ 43] .call,g2 45 40 41 44 (.eqs true [1,1,1,1]),g_ 46 37 false [s_ 40,s_ 45,k_ (.bool false)] .pick,m_ 47 [s_ 37,k_ (.bool true),s_ 46] .pick]) (i_ 47 (sr_ [bf_ 8] .ret) .skip)))) (.reg [i1_ 48 29,v_ 29 48]))))))) (sr_ [v_ 49 1,c2 50 49 (.int .i64 2) bne_,v_ 51 50,g_ 52 51 false [s_ 4] f5_,g_ 53 51 false [s_ 52] ld,g_ 54 51 false [s_ 53] ln,g_ 55 51 false [s_ 54,k_ (.int .i64 1)] ble_,m_ 56 [s_ 51,k_ (.bool true),s_ 55] .pick,v_ 57 56,g1 58 57 2 .mv,g_ 59 57 true [s_ 58,k_ (.int .i64 2)] bne_,g1 60 57 59 .mv,g_ 61 60 false [s_ 4] l6,g_ 62 60 false [k_ (.fn 184 []),s_ 61] .call,g_ 63 57 true [s_ 60,k_ (.bool true),s_ 62] .pick,m_ 64 [s_ 57,s_ 63,k_ (.bool false)] .pick,v_ 8 64] .ret))))
theorem UR:AS Tryz.prog 166 4=some ⟨65,4,[(.slot 8)],MX⟩:=by kernel_rfl
def MY:AC:=(sr_ [o1 2 0 .box,ns_ 4,bf_ 5] (sr_ [o1 9 2 l6,v_ 10 1,k2 11 185 9 10,v_ 8 11,o1 12 8 (.extract 0),o1 13 8 (.extract 1),v_ 6 12,v_ 7 13] (.seq (sr_ [v_ 14 7,o1 15 14 nt] (i_ 15 (sr_ [ns_ 4,bf_ 5] .ret) .skip)) (.seq (sr_ [v_ 16 6,o1 17 16 ln,c2 18 17 (.int .i64 0) beq_] (i_ 18 (sr_ [ns_ 4,bt_ 5] .ret) .skip)) (.seq (.dtl [o1 19 2 l6,k1 20 137 19,v_ 21 6,k2 22 187 20 21,o1 23 2 f0_,o1 24 23 ld] [k2 25 186 22 24,v_ 4 25,bt_ 5]) .ret)))))
theorem US:AS Tryz.prog 167 2=some ⟨26,2,[(.slot 4),(.slot 5)],MY⟩:=by kernel_rfl
def OE:AC:=(sr_ [ns_ 4] (sr_ [v_ 9 0,o1 10 9 ln,z_ 5,v_ 6 10] (.seq (.block 0 (.loop (.seq (sr_ [v_ 11 5,v_ 12 6,o2 13 11 12 bls_] (ex_ 13 0)) (.block 1 (sr_ [v_ 14 5,v_ 15 6,o2 16 14 15 bad_,c2 17 16 (.int .i64 2) (.bin .quo),v_ 7 17] (sr_ [v_ 18 0,v_ 19 7,o2 20 18 19 a1_,o1 21 20 ld,v_ 22 1,o2 23 21 22 bls_] (i_ 23 (.reg [v_ 24 7,i1_ 25 24,v_ 5 25]) (.reg [v_ 26 7,v_ 6 26])))))))) (.seq (sr_ [v_ 27 5,v_ 28 0,o1 29 28 ln,o2 30 27 29 bls_,v_ 31 30,g1 32 31 0 .mv,g1 33 31 5 .mv,g2 34 31 32 33 a1_,g1 35 31 34 ld,g1 36 31 1 .mv,g2 37 31 35 36 beq_,m_ 38 [s_ 31,s_ 37,k_ (.bool false)] .pick] (i_ 38 (sr_ [v_ 39 0,v_ 4 39] .ret) .skip)) (sr_ [v_ 40 0,c1 41 (.int .i64 0) (.bslice 1 1 (.int .i64 0) [0]),o2 42 40 41 (.app 1 8 (.int .i64 0)),v_ 0 42] (.seq (sr_ [v_ 43 0,o1 44 43 ln,c2 45 44 (.int .i64 1) bsu_,v_ 8 45] (.block 2 (.loop (.seq (sr_ [v_ 46 8,v_ 47 5,o2 48 46 47 bgt_] (ex_ 48 2)) (.seq (.block 3 (.reg [v_ 51 0,v_ 52 8,v_ 53 0,v_ 54 8,c2 55 54 (.int .i64 1) bsu_,o2 56 53 55 a1_,o1 57 56 ld,o2 58 51 52 a1_,n2 58 57 st])) (.reg [v_ 49 8,c2 50 49 (.int .i64 1) bsu_,v_ 8 50])))))) (sr_ [v_ 59 0,v_ 60 5,v_ 61 1,o2 62 59 60 a1_,n2 62 61 st] (sr_ [v_ 63 0,v_ 4 63] .ret))))))))
theorem W6:AS Tryz.prog 168 2=some ⟨64,2,[(.slot 4)],OE⟩:=by kernel_rfl
def Jm:AC:=(sr_ [o1 1 0 .box,bf_ 2] (.seq (sr_ [o1 4 1 f0_,o1 5 4 ld,k1 6 188 5,o1 7 6 nt,v_ 8 7,g_ 9 8 false [s_ 1] f4_,g_ 10 8 false [s_ 9] ld,g_ 11 8 false [k_ (.fn 188 []),s_ 10] .call,g_ 12 8 false [s_ 11] nt,m_ 13 [s_ 8,k_ (.bool true),s_ 12] .pick,v_ 14 13,g_ 15 14 false [s_ 1] l6,g_ 16 14 false [k_ (.fn 143 []),s_ 15] .call,g_ 17 14 false [k_ (.fn 164 []),s_ 16] .call,g_ 18 14 false [s_ 17] nt,m_ 19 [s_ 14,k_ (.bool true),s_ 18] .pick,v_ 20 19,g_ 21 20 false [s_ 1] f5_,g_ 22 20 false [s_ 21] ld,g_ 23 20 false [s_ 22] ln,g_ 24 20 false [s_ 23,k_ (.int .i64 4)] bgt_,m_ 25 [s_ 20,k_ (.bool true),s_ 24] .pick] (i_ 25 (sr_ [bf_ 2] .ret) .skip)) (.seq (sr_ [c1 3 (.int .i64 1) .mv] (.block 0 (.loop (.seq (sr_ [v_ 26 3,o1 27 1 f5_,o1 28 27 ld,o1 29 28 ln,o2 30 26 29 bls_] (ex_ 30 0)) (.seq (.block 1 (.seq (.dreg [o1 33 1 f5_,o1 34 33 ld,v_ 35 3,o2 36 34 35 a4_,o1 37 36 f3_,o1 38 37 ld,o1 39 1 f5_,o1 40 39 ld,v_ 41 3,c2 42 41 (.int .i64 1) bsu_,o2 43 40 42 a4_,o1 44 43 f3_,o1 45 44 ld,o2 46 38 45 ble_]) (i_ 46 (sr_ [bf_ 2] .ret) .skip))) (.reg [v_ 31 3,i1_ 32 31,v_ 3 32])))))) (sr_ [bt_ 2] .ret))))
theorem OF:AS Tryz.prog 169 1=some ⟨47,1,[(.slot 2)],Jm⟩:=by kernel_rfl
def OG:AC:=(sr_ [o1 1 0 .box,bf_ 2] (sr_ [o1 3 1 f1_,o1 4 3 ld,c2 5 4 (.int .i64 0) beq_,v_ 6 5,g1 7 6 1 f2_,g1 8 6 7 ld,g_ 9 6 true [s_ 8,k_ (.int .i64 21)] beq_,m_ 10 [s_ 6,s_ 9,k_ (.bool false)] .pick,v_ 11 10,g1 12 11 1 f3_,g1 13 11 12 ld,g_ 14 11 true [s_ 13,k_ (.int .i64 0)] beq_,m_ 15 [s_ 11,s_ 14,k_ (.bool false)] .pick,v_ 2 15] .ret))
theorem W7:AS Tryz.prog 170 1=some ⟨16,1,[(.slot 2)],OG⟩:=by kernel_rfl
def L1:AC:=(sr_ [o1 1 0 .box,bf_ 2] (sr_ [o1 3 1 f0_,o1 4 3 ld,c2 5 4 (.int .i64 0) beq_,v_ 6 5,g1 7 6 1 l6,g_ 8 6 true [k_ (.fn 143 []),s_ 7] .call,g_ 9 6 true [k_ (.fn 170 []),s_ 8] .call,m_ 10 [s_ 6,s_ 9,k_ (.bool false)] .pick,v_ 2 10] .ret))
theorem Sw:AS Tryz.prog 171 1=some ⟨11,1,[(.slot 2)],L1⟩:=by kernel_rfl
def MZ:AC:=(sr_ [ns_ 4] (.seq (sr_ [v_ 8 1,c2 9 8 (.int .i64 2147483648) bgt_,v_ 10 9,g_ 11 10 false [s_ 1] .mv,g_ 12 10 false [s_ 11,k_ (.int .i64 (-2147483648))] bls_,m_ 13 [s_ 10,k_ (.bool true),s_ 12] .pick] (i_ 13 (sr_ [ns_ 4] .ret) .skip)) (sr_ [v_ 14 0,k1 15 128 14,v_ 5 15] (sr_ [ns_ 6] (.seq (sr_ [z_ 7] (.block 0 (.loop (.seq (sr_ [v_ 16 7,v_ 17 5,o1 18 17 ln,o2 19 16 18 bls_] (ex_ 19 0)) (.seq (.block 1 (.dtl [v_ 22 6,v_ 23 5,v_ 24 7,o2 25 23 24 a2_,o1 26 25 f0_,o1 27 26 ld,v_ 28 1,o2 29 27 28 bad_,v_ 30 5,v_ 31 7,o2 32 30 31 a2_,o1 33 32 f1_,o1 34 33 ld,v_ 35 1,o2 36 34 35 bad_,o2 37 29 36 (.build [(.int .i64 0),(.int .i64 0)] [(0,1),(1,1)] [0,1]),o1 38 37 (.bslice 2 1 (.agg [(.int .i64 0),(.int .i64 0)]) [0])] [o2 39 22 38 (.app 2 16 (.agg [(.int .i64 0),(.int .i64 0)])),v_ 6 39])) (.reg [v_ 20 7,i1_ 21 20,v_ 7 21])))))) (sr_ [v_ 40 6,k1 41 128 40,v_ 4 41] .ret))))))
theorem UT:AS Tryz.prog 172 2=some ⟨42,2,[(.slot 4)],MZ⟩:=by kernel_rfl
def OH:AC:=(sr_ [ns_ 4] (sr_ [v_ 9 0,o1 10 9 ln,z_ 5,v_ 6 10] (.seq (.block 0 (.loop (.seq (sr_ [v_ 11 5,v_ 12 6,o2 13 11 12 bls_] (ex_ 13 0)) (.block 1 (sr_ [v_ 14 5,v_ 15 6,o2 16 14 15 bad_,c2 17 16 (.int .i64 2) (.bin .quo),v_ 7 17] (sr_ [v_ 18 0,v_ 19 7,o2 20 18 19 a1_,o1 21 20 ld,v_ 22 1,o2 23 21 22 bls_] (i_ 23 (.reg [v_ 24 7,i1_ 25 24,v_ 5 25]) (.reg [v_ 26 7,v_ 6 26])))))))) (.seq (sr_ [v_ 27 5,v_ 28 0,o1 29 28 ln,o2 30 27 29 bls_,v_ 31 30,g1 32 31 0 .mv,g1 33 31 5 .mv,g2 34 31 32 33 a1_,g1 35 31 34 ld,g1 36 31 1 .mv,g2 37 31 35 36 beq_,m_ 38 [s_ 31,s_ 37,k_ (.bool false)] .pick] (i_ 38 (sr_ [v_ 39 0,v_ 4 39] .ret) .skip)) (sr_ [v_ 40 0,c1 41 (.int .i64 0) (.bslice 1 1 (.int .i64 0) [0]),o2 42 40 41 (.app 1 8 (.int .i64 0)),v_ 0 42] (.seq (sr_ [v_ 43 0,o1 44 43 ln,c2 45 44 (.int .i64 1) bsu_,v_ 8 45] (.block 2 (.loop (.seq (sr_ [v_ 46 8,v_ 47 5,o2 48 46 47 bgt_] (ex_ 48 2)) (.seq (.block 3 (.reg [v_ 51 0,v_ 52 8,v_ 53 0,v_ 54 8,c2 55 54 (.int .i64 1) bsu_,o2 56 53 55 a1_,o1 57 56 ld,o2 58 51 52 a1_,n2 58 57 st])) (.reg [v_ 49 8,c2 50 49 (.int .i64 1) bsu_,v_ 8 50])))))) (sr_ [v_ 59 0,v_ 60 5,v_ 61 1,o2 62 59 60 a1_,n2 62 61 st] (sr_ [v_ 63 0,v_ 4 63] .ret))))))))
theorem W8:AS Tryz.prog 173 2=some ⟨64,2,[(.slot 4)],OH⟩:=by kernel_rfl
def Na:AC:=(sr_ [ns_ 4,bf_ 5] (.seq (sr_ [v_ 14 0,o1 15 14 ln,v_ 16 1,o1 17 16 ln,o2 18 15 17 (.bin .mul),c2 19 18 (.int .i64 4000) ble_] (i_ 19 (sr_ [ns_ 6] (.seq (sr_ [z_ 7] (.block 0 (.loop (.seq (sr_ [v_ 20 7,v_ 21 0,o1 22 21 ln,o2 23 20 22 bls_] (ex_ 23 0)) (.seq (.block 1 (sr_ [z_ 8] (.block 2 (.loop (.seq (sr_ [v_ 26 8,v_ 27 1,o1 28 27 ln,o2 29 26 28 bls_] (ex_ 29 2)) (.seq (.block 3 (.seq (.seq (.dreg [v_ 32 0,v_ 33 7,o2 34 32 33 a1_,o1 35 34 ld,v_ 36 1,v_ 37 8,o2 38 36 37 a1_,o1 39 38 ld,o2 40 35 39 bad_,c2 41 40 (.int .i64 1114111) bgt_]) (i_ 41 (sr_ [ns_ 4,bf_ 5] .ret) .skip)) (.dtl [v_ 42 6,v_ 43 0,v_ 44 7,o2 45 43 44 a1_,o1 46 45 ld,v_ 47 1,v_ 48 8,o2 49 47 48 a1_,o1 50 49 ld,o2 51 46 50 bad_] [k2 52 173 42 51,v_ 6 52]))) (.reg [v_ 30 8,i1_ 31 30,v_ 8 31]))))))) (.reg [v_ 24 7,i1_ 25 24,v_ 7 25])))))) (sr_ [v_ 53 6,v_ 4 53,bt_ 5] .ret))) .skip)) (sr_ [m_ 54 [k_ (.int .i64 2228223),k_ (.int .i64 2228223)] (.mkSlice 1 1 (.bool false)),v_ 9 54] (.seq (sr_ [z_ 10] (.block 4 (.loop (.seq (sr_ [v_ 55 10,v_ 56 0,o1 57 56 ln,o2 58 55 57 bls_] (ex_ 58 4)) (.seq (.block 5 (sr_ [z_ 11] (.block 6 (.loop (.seq (sr_ [v_ 61 11,v_ 62 1,o1 63 62 ln,o2 64 61 63 bls_] (ex_ 64 6)) (.seq (.block 7 (.seq (.seq (.dreg [v_ 67 0,v_ 68 10,o2 69 67 68 a1_,o1 70 69 ld,v_ 71 1,v_ 72 11,o2 73 71 72 a1_,o1 74 73 ld,o2 75 70 74 bad_,c2 76 75 (.int .i64 1114111) bgt_]) (i_ 76 (sr_ [ns_ 4,bf_ 5] .ret) .skip)) (.dtl [v_ 77 9,v_ 78 0,v_ 79 10,o2 80 78 79 a1_,o1 81 80 ld,v_ 82 1,v_ 83 11,o2 84 82 83 a1_,o1 85 84 ld,o2 86 81 85 bad_,c2 87 86 (.int .i64 1114111) bad_,o2 88 77 87 a1_] [h_ [s_ 88,k_ (.bool true)] st]))) (.reg [v_ 65 11,i1_ 66 65,v_ 11 66]))))))) (.reg [v_ 59 10,i1_ 60 59,v_ 10 60])))))) (sr_ [ns_ 12] (.seq (sr_ [z_ 13] (.block 8 (.loop (.seq (sr_ [v_ 89 13,v_ 90 9,o1 91 90 ln,o2 92 89 91 bls_] (ex_ 92 8)) (.seq (.block 9 (sr_ [v_ 95 9,v_ 96 13,o2 97 95 96 a1_,o1 98 97 ld] (i_ 98 (.reg [v_ 99 12,v_ 100 13,c2 101 100 (.int .i64 1114111) bsu_,o1 102 101 (.bslice 1 1 (.int .i64 0) [0]),o2 103 99 102 (.app 1 8 (.int .i64 0)),v_ 12 103]) .skip))) (.reg [v_ 93 13,i1_ 94 93,v_ 13 94])))))) (sr_ [v_ 104 12,v_ 4 104,bt_ 5] .ret)))))))
theorem UU:AS Tryz.prog 174 2=some ⟨105,2,[(.slot 4),(.slot 5)],Na⟩:=by kernel_rfl
def L3:AC:=(sr_ [ns_ 2] (sr_ [ns_ 3] (.seq (sr_ [z_ 4] (.block 0 (.loop (.seq (sr_ [v_ 6 4,v_ 7 0,o1 8 7 ln,o2 9 6 8 bls_] (ex_ 9 0)) (.seq (.block 1 (sr_ [v_ 12 3,o1 13 12 ln,v_ 5 13] (.seq (.dreg [v_ 14 5,c2 15 14 (.int .i64 0) bgt_,v_ 16 15,g1 17 16 3 .mv,g1 18 16 5 .mv,g_ 19 16 true [s_ 18,k_ (.int .i64 1)] bsu_,g2 20 16 17 19 a2_,g1 21 16 20 f1_,g1 22 16 21 ld,g1 23 16 0 .mv,g1 24 16 4 .mv,g2 25 16 23 24 a1_,g1 26 16 25 ld,g_ 27 16 true [s_ 26,k_ (.int .i64 1)] bsu_,g2 28 16 22 27 beq_,m_ 29 [s_ 16,s_ 28,k_ (.bool false)] .pick]) (i_ 29 (.reg [v_ 30 3,v_ 31 5,c2 32 31 (.int .i64 1) bsu_,v_ 33 0,v_ 34 4,o2 35 33 34 a1_,o1 36 35 ld,o2 37 30 32 a2_,o1 38 37 f1_,n2 38 36 st]) (.dtl [v_ 39 3,v_ 40 0,v_ 41 4,o2 42 40 41 a1_,o1 43 42 ld,v_ 44 0,v_ 45 4,o2 46 44 45 a1_,o1 47 46 ld,o2 48 43 47 (.build [(.int .i64 0),(.int .i64 0)] [(0,1),(1,1)] [0,1]),o1 49 48 (.bslice 2 1 (.agg [(.int .i64 0),(.int .i64 0)]) [0])] [o2 50 39 49 (.app 2 16 (.agg [(.int .i64 0),(.int .i64 0)])),v_ 3 50]))))) (.reg [v_ 10 4,i1_ 11 10,v_ 4 11])))))) (sr_ [v_ 51 3,v_ 2 51] .ret))))
theorem Sx:AS Tryz.prog 175 1=some ⟨52,1,[(.slot 2)],L3⟩:=by kernel_rfl
def OI:AC:=(sr_ [ns_ 2] (sr_ [v_ 10 0,o1 11 10 ln,m_ 12 [k_ (.int .i64 0),s_ 11] (.mkSlice 2 16 (.agg [(.int .i64 0),(.int .i64 0)])),v_ 3 12] (.seq (sr_ [v_ 13 0,o1 14 13 ln,z_ 15] (.block 0 (.loop (sr_ [o2 16 15 14 bls_] (.seq (ex_ 16 0) (.seq (.block 1 (sr_ [o2 17 13 15 a2_,o1 18 17 (.load true 2),o0 5 (.alloc (.agg [(.int .i64 0),(.int .i64 0)]) 2),n2 5 18 (.store 2)] (sr_ [o1 19 5 f0_,o1 20 19 ld,c2 21 20 (.int .i64 (-1073741824)) .max,o1 22 5 f1_,o1 23 22 ld,c2 24 23 (.int .i64 1073741824) .min,o1 25 5 f0_,n2 25 21 st,o1 26 5 f1_,n2 26 24 st] (sr_ [o1 27 5 f0_,o1 28 27 ld,o1 29 5 f1_,o1 30 29 ld,o2 31 28 30 ble_] (i_ 31 (.reg [v_ 32 3,o1 33 5 (.load true 2),o1 34 33 (.bslice 2 1 (.agg [(.int .i64 0),(.int .i64 0)]) [0]),o2 35 32 34 (.app 2 16 (.agg [(.int .i64 0),(.int .i64 0)])),v_ 3 35]) .skip))))) (.reg [i1_ 36 15,v_ 15 36]))))))) (sr_ [v_ 37 3,m_ 38 [k_ (.fn 190 []),s_ 37,k_ (.fn 191 [])] .call] (sr_ [v_ 39 3,c2 40 39 (.int .i64 0) (.slice 2 false true false),v_ 6 40] (.seq (sr_ [v_ 41 3,o1 42 41 ln,z_ 43] (.block 2 (.loop (sr_ [o2 44 43 42 bls_] (.seq (ex_ 44 2) (.seq (.block 3 (sr_ [o2 45 41 43 a2_,o1 46 45 (.load true 2),o0 8 (.alloc (.agg [(.int .i64 0),(.int .i64 0)]) 2),n2 8 46 (.store 2)] (.seq (sr_ [v_ 47 6,o1 48 47 ln,v_ 9 48] (.seq (.dreg [v_ 49 9,c2 50 49 (.int .i64 0) bgt_,v_ 51 50,g1 52 51 8 f0_,g1 53 51 52 ld,g1 54 51 6 .mv,g1 55 51 9 .mv,g_ 56 51 true [s_ 55,k_ (.int .i64 1)] bsu_,g2 57 51 54 56 a2_,g1 58 51 57 f1_,g1 59 51 58 ld,g_ 60 51 true [s_ 59,k_ (.int .i64 1)] bad_,g2 61 51 53 60 ble_,m_ 62 [s_ 51,s_ 61,k_ (.bool false)] .pick]) (i_ 62 (.seq (.dtl [v_ 63 6,v_ 64 9,c2 65 64 (.int .i64 1) bsu_,v_ 66 6,v_ 67 9,c2 68 67 (.int .i64 1) bsu_,o2 69 66 68 a2_,o1 70 69 f1_,o1 71 70 ld,o1 72 8 f1_,o1 73 72 ld,o2 74 71 73 .max,o2 75 63 65 a2_,o1 76 75 f1_] [n2 76 74 st]) (.exit 3)) .skip))) (.reg [v_ 77 6,o1 78 8 (.load true 2),o1 79 78 (.bslice 2 1 (.agg [(.int .i64 0),(.int .i64 0)]) [0]),o2 80 77 79 (.app 2 16 (.agg [(.int .i64 0),(.int .i64 0)])),v_ 6 80])))) (.reg [i1_ 81 43,v_ 43 81]))))))) (sr_ [v_ 82 6,v_ 2 82] .ret)))))))
theorem W9:AS Tryz.prog 181 1=some ⟨83,1,[(.slot 2)],OI⟩:=by kernel_rfl
def OJ:AC:=(sr_ [ns_ 4] (sr_ [v_ 7 0,k1 8 181 7,v_ 9 1,k1 10 181 9,v_ 0 8,v_ 1 10] (sr_ [ns_ 5] (.seq (.block 0 (.loop (.seq (sr_ [v_ 11 0,o1 12 11 ln,c2 13 12 (.int .i64 0) bgt_,v_ 14 13,g1 15 14 1 .mv,g1 16 14 15 ln,g_ 17 14 true [s_ 16,k_ (.int .i64 0)] bgt_,m_ 18 [s_ 14,s_ 17,k_ (.bool false)] .pick] (ex_ 18 0)) (.block 1 (.seq (.greg [v_ 19 0,c2 20 19 (.int .i64 0) a2_,o1 21 20 f0_,o1 22 21 ld,v_ 23 1,c2 24 23 (.int .i64 0) a2_,o1 25 24 f0_,o1 26 25 ld,o2 27 22 26 .max,v_ 28 0,c2 29 28 (.int .i64 0) a2_,o1 30 29 f1_,o1 31 30 ld,v_ 32 1,c2 33 32 (.int .i64 0) a2_,o1 34 33 f1_,o1 35 34 ld,o2 36 31 35 .min,o2 37 27 36 (.build [(.int .i64 0),(.int .i64 0)] [(0,1),(1,1)] [0,1]),o0 6 (.alloc (.agg [(.int .i64 0),(.int .i64 0)]) 2),n2 6 37 (.store 2)]) (.seq (sr_ [o1 38 6 f0_,o1 39 38 ld,o1 40 6 f1_,o1 41 40 ld,o2 42 39 41 ble_] (i_ 42 (.reg [v_ 43 5,o1 44 6 (.load true 2),o1 45 44 (.bslice 2 1 (.agg [(.int .i64 0),(.int .i64 0)]) [0]),o2 46 43 45 (.app 2 16 (.agg [(.int .i64 0),(.int .i64 0)])),v_ 5 46]) .skip)) (.seq (.dreg [v_ 47 0,c2 48 47 (.int .i64 0) a2_,o1 49 48 f1_,o1 50 49 ld,v_ 51 1,c2 52 51 (.int .i64 0) a2_,o1 53 52 f1_,o1 54 53 ld,o2 55 50 54 bls_]) (i_ 55 (.reg [v_ 56 0,c2 57 56 (.int .i64 1) (.slice 2 true false false),v_ 0 57]) (.reg [v_ 58 1,c2 59 58 (.int .i64 1) (.slice 2 true false false),v_ 1 59]))))))))) (sr_ [v_ 60 5,v_ 4 60] .ret)))))
theorem WA:AS Tryz.prog 182 2=some ⟨61,2,[(.slot 4)],OJ⟩:=by kernel_rfl
def Kj:AC:=(sr_ [o1 1 0 .box,bf_ 2] (sr_ [o1 3 1 f0_,o1 4 3 ld,k1 5 193 4,v_ 6 5,g1 7 6 1 f4_,g1 8 6 7 ld,g_ 9 6 true [k_ (.fn 193 []),s_ 8] .call,m_ 10 [s_ 6,s_ 9,k_ (.bool false)] .pick,v_ 11 10,g1 12 11 1 l6,g_ 13 11 true [k_ (.fn 137 []),s_ 12] .call,g_ 14 11 true [k_ (.fn 135 []),s_ 13,k_ (.int .i64 1)] .call,m_ 15 [s_ 11,s_ 14,k_ (.bool false)] .pick,v_ 16 15,g1 17 16 1 f5_,g1 18 16 17 ld,g_ 19 16 true [k_ (.fn 194 []),s_ 18] .call,m_ 20 [s_ 16,s_ 19,k_ (.bool false)] .pick,v_ 2 20] .ret))
theorem PX:AS Tryz.prog 183 1=some ⟨21,1,[(.slot 2)],Kj⟩:=by kernel_rfl
def Nb:AC:=(sr_ [o1 1 0 .box,bf_ 2] (sr_ [o1 3 1 f0_,o1 4 3 ld,c2 5 4 (.int .i64 0) beq_,v_ 6 5,g1 7 6 1 l6,g_ 8 6 true [k_ (.fn 137 []),s_ 7] .call,g_ 9 6 true [k_ (.fn 113 []),k_ (.int .i64 0)] .call,g2 10 6 8 9 (.eqs false [1,1,1,1]),m_ 11 [s_ 6,s_ 10,k_ (.bool false)] .pick,v_ 2 11] .ret))
theorem UV:AS Tryz.prog 184 1=some ⟨12,1,[(.slot 2)],Nb⟩:=by kernel_rfl
def Nc:AC:=(sr_ [o1 2 0 .box,ns_ 4,bf_ 5] (.seq (sr_ [v_ 12 1,o1 13 12 ln,c2 14 13 (.int .i64 4) bgt_,v_ 15 14,g_ 16 15 false [s_ 2] l6,g_ 17 15 false [k_ (.fn 183 []),s_ 16] .call,g_ 18 15 false [s_ 17] nt,m_ 19 [s_ 15,k_ (.bool true),s_ 18] .pick] (i_ 19 (sr_ [ns_ 4,bf_ 5] .ret) .skip)) (sr_ [bt_ 6] (sr_ [v_ 20 1,o1 21 20 ln,o2 22 21 21 (.mkSlice 1 24 .nilS),v_ 7 22] (.seq (sr_ [v_ 23 1,o1 24 23 ln,z_ 25] (.block 0 (.loop (sr_ [o2 26 25 24 bls_] (.seq (ex_ 26 0) (.seq (.block 1 (sr_ [v_ 27 25,o2 28 23 25 a1_,o1 29 28 ld,v_ 8 27,v_ 9 29] (sr_ [v_ 30 7,v_ 31 8,v_ 32 9,k0 33 195,k2 34 182 32 33,o2 35 30 31 a1_,n2 35 34 st] (.reg [v_ 36 6,v_ 37 36,g1 38 37 7 .mv,g1 39 37 8 .mv,g2 40 37 38 39 a1_,g1 41 37 40 ld,g1 42 37 41 ln,g_ 43 37 true [s_ 42,k_ (.int .i64 0)] bgt_,m_ 44 [s_ 37,s_ 43,k_ (.bool false)] .pick,v_ 6 44])))) (.reg [i1_ 45 25,v_ 25 45]))))))) (.seq (sr_ [o1 46 2 f5_,o1 47 46 ld,o1 48 47 ln,z_ 49] (.block 2 (.loop (sr_ [o2 50 49 48 bls_] (.seq (ex_ 50 2) (.seq (.block 3 (sr_ [o2 51 47 49 a4_,o1 52 51 (.load true 4),o0 11 (.alloc (.agg [(.int .i64 0),(.int .i64 0),(.int .i64 0),(.int .i64 0)]) 4),n2 11 52 (.store 4)] (sr_ [o1 53 11 (.load true 4),v_ 54 1,o1 55 54 ln,k2 56 135 53 55,o1 57 56 nt] (i_ 57 (sr_ [ns_ 4,bf_ 5] .ret) .skip)))) (.reg [i1_ 58 49,v_ 49 58]))))))) (.seq (sr_ [v_ 59 6,o1 60 59 nt] (i_ 60 (sr_ [ns_ 4,bt_ 5] .ret) .skip)) (sr_ [o1 61 2 l6,v_ 62 7,k2 63 196 61 62,o1 64 63 (.extract 0),o1 65 63 (.extract 1),v_ 4 64,v_ 5 65] .ret))))))))
theorem UW:AS Tryz.prog 185 2=some ⟨66,2,[(.slot 4),(.slot 5)],Nc⟩:=by kernel_rfl
def OK:AC:=(sr_ [ns_ 4] (.seq (sr_ [v_ 7 1,c2 8 7 (.int .i64 (-2147483648)) bls_,v_ 9 8,g_ 10 9 false [s_ 1] .mv,g_ 11 9 false [s_ 10,k_ (.int .i64 2147483648)] bgt_,m_ 12 [s_ 9,k_ (.bool true),s_ 11] .pick] (i_ 12 (sr_ [ns_ 4] .ret) .skip)) (sr_ [v_ 13 0,k1 14 181 13,v_ 5 14] (.seq (sr_ [v_ 15 5,o1 16 15 ln,z_ 17] (.block 0 (.loop (sr_ [o2 18 17 16 bls_] (.seq (ex_ 18 0) (.seq (.block 1 (sr_ [v_ 19 17,v_ 6 19] (sr_ [v_ 20 5,v_ 21 6,o2 22 20 21 a2_,o1 23 22 f0_,o1 24 23 ld,v_ 25 1,o2 26 24 25 bad_,o2 27 20 21 a2_,o1 28 27 f0_,n2 28 26 st] (.reg [v_ 29 5,v_ 30 6,o2 31 29 30 a2_,o1 32 31 f1_,o1 33 32 ld,v_ 34 1,o2 35 33 34 bad_,o2 36 29 30 a2_,o1 37 36 f1_,n2 37 35 st])))) (.reg [i1_ 38 17,v_ 17 38]))))))) (sr_ [v_ 39 5,k1 40 181 39,v_ 4 40] .ret)))))
theorem WB:AS Tryz.prog 186 2=some ⟨41,2,[(.slot 4)],OK⟩:=by kernel_rfl
def Jn:AC:=(sr_ [o1 2 0 .box,ns_ 4] (.seq (sr_ [o1 13 2 (.load true 4),k1 14 153 13,o1 15 14 nt] (i_ 15 (sr_ [ns_ 4] .ret) .skip)) (sr_ [o1 16 2 f2_,o1 17 16 ld,m_ 18 [k_ (.int .i64 1),s_ 17] (.bin .shl),c2 19 18 (.int .i64 1) bsu_,v_ 5 19] (sr_ [ns_ 6] (.seq (sr_ [v_ 20 1,m_ 21 [k_ (.int .i64 0),k_ (.int .i64 2097151)] (.build [(.int .i64 0),(.int .i64 0)] [(0,1),(1,1)] [0,1]),o1 22 21 (.bslice 2 1 (.agg [(.int .i64 0),(.int .i64 0)]) [0]),k2 23 182 20 22,o1 24 23 ln,z_ 25] (.block 0 (.loop (sr_ [o2 26 25 24 bls_] (.seq (ex_ 26 0) (.seq (.block 1 (sr_ [o2 27 23 25 a2_,o1 28 27 (.load true 2),o0 8 (.alloc (.agg [(.int .i64 0),(.int .i64 0)]) 2),n2 8 28 (.store 2)] (.seq (.dreg [o1 29 8 f0_,o1 30 29 ld,o1 31 2 f1_,o1 32 31 ld,o2 33 30 32 (.bin .shr),o1 34 8 f1_,o1 35 34 ld,o1 36 2 f1_,o1 37 36 ld,o2 38 35 37 (.bin .shr),v_ 9 33,v_ 10 38]) (.seq (sr_ [v_ 39 10,v_ 40 9,o2 41 39 40 bsu_,v_ 42 5,o2 43 41 42 bge_] (i_ 43 (sr_ [v_ 44 5,m_ 45 [k_ (.int .i64 0),s_ 44] (.build [(.int .i64 0),(.int .i64 0)] [(0,1),(1,1)] [0,1]),o1 46 45 (.bslice 2 1 (.agg [(.int .i64 0),(.int .i64 0)]) [0]),v_ 6 46] (.exit 0)) .skip)) (sr_ [v_ 47 9,v_ 48 5,o2 49 47 48 (.bin .and),v_ 50 10,v_ 51 5,o2 52 50 51 (.bin .and),o2 53 49 52 ble_] (i_ 53 (.reg [v_ 54 6,v_ 55 9,v_ 56 5,o2 57 55 56 (.bin .and),v_ 58 10,v_ 59 5,o2 60 58 59 (.bin .and),o2 61 57 60 (.build [(.int .i64 0),(.int .i64 0)] [(0,1),(1,1)] [0,1]),o1 62 61 (.bslice 2 1 (.agg [(.int .i64 0),(.int .i64 0)]) [0]),o2 63 54 62 (.app 2 16 (.agg [(.int .i64 0),(.int .i64 0)])),v_ 6 63]) (.reg [v_ 64 6,v_ 65 10,v_ 66 5,o2 67 65 66 (.bin .and),m_ 68 [k_ (.int .i64 0),s_ 67] (.build [(.int .i64 0),(.int .i64 0)] [(0,1),(1,1)] [0,1]),v_ 69 9,v_ 70 5,o2 71 69 70 (.bin .and),v_ 72 5,o2 73 71 72 (.build [(.int .i64 0),(.int .i64 0)] [(0,1),(1,1)] [0,1]),o2 74 68 73 (.bslice 2 2 (.agg [(.int .i64 0),(.int .i64 0)]) [0,1]),o2 75 64 74 (.app 2 16 (.agg [(.int .i64 0),(.int .i64 0)])),v_ 6 75]))))))) (.reg [i1_ 76 25,v_ 25 76]))))))) (sr_ [v_ 77 6,k1 78 181 77,v_ 6 78] (.seq (sr_ [o1 79 2 f3_,o1 80 79 ld,c2 81 80 (.int .i64 0) beq_] (i_ 81 (sr_ [v_ 82 6,v_ 4 82] .ret) .skip)) (sr_ [o0 11 (.alloc .nilS 1)] (.seq (sr_ [v_ 83 6,k1 84 197 83] (.block 2 (.rng (.slot 84) [85] (.reg [v_ 12 85]) (.block 3 (.dtl [o1 86 11 ld,v_ 87 12,o1 88 2 f3_,o1 89 88 ld,o2 90 87 89 (.bin .shl),v_ 91 12,o1 92 2 f3_,o1 93 92 ld,o2 94 91 93 (.bin .shl),o2 95 90 94 (.build [(.int .i64 0),(.int .i64 0)] [(0,1),(1,1)] [0,1]),o1 96 95 (.bslice 2 1 (.agg [(.int .i64 0),(.int .i64 0)]) [0])] [o2 97 86 96 (.app 2 16 (.agg [(.int .i64 0),(.int .i64 0)])),n2 11 97 st]))))) (sr_ [o1 98 11 ld,k1 99 181 98,v_ 4 99] .ret))))))))))
theorem Nf:AS Tryz.prog 187 2=some ⟨100,2,[(.slot 4)],Jn⟩:=by kernel_rfl
def L4:AC:=(sr_ [bf_ 2] (sr_ [v_ 3 0,m_ 4 [k_ (.int .i64 (-1114111)),s_ 3] ble_,v_ 5 4,g1 6 5 0 .mv,g_ 7 5 true [s_ 6,k_ (.int .i64 1114111)] ble_,m_ 8 [s_ 5,s_ 7,k_ (.bool false)] .pick,v_ 2 8] .ret))
theorem Sy:AS Tryz.prog 188 1=some ⟨9,1,[(.slot 2)],L4⟩:=by kernel_rfl
def Ep:AC:=(sr_ [v_ 5 0,o1 6 5 ln,v_ 4 6] (.reg [v_ 7 0,v_ 8 4,v_ 9 4,o1 10 9 (.conv .u64),k1 11 139 10,v_ 12 1,m_ 13 [k_ (.fn 198 []),s_ 7,k_ (.int .i64 0),s_ 8,s_ 11,s_ 12] .call]))
theorem Gj:AS Tryz.prog 190 2=some ⟨14,2,[],Ep⟩:=by kernel_rfl
def Ng:AC:=(sr_ [bf_ 2] (sr_ [v_ 3 0,c2 4 3 (.int .i64 (-1114111)) bge_,v_ 5 4,g1 6 5 0 .mv,g_ 7 5 true [s_ 6,k_ (.int .i64 1114111)] ble_,m_ 8 [s_ 5,s_ 7,k_ (.bool false)] .pick,v_ 2 8] .ret))
theorem UX:AS Tryz.prog 193 1=some ⟨9,1,[(.slot 2)],Ng⟩:=by kernel_rfl
def L5:AC:=(sr_ [bf_ 2] (.seq (sr_ [v_ 5 0,o1 6 5 ln,z_ 7] (.block 0 (.loop (sr_ [o2 8 7 6 bls_] (.seq (ex_ 8 0) (.seq (.block 1 (sr_ [v_ 9 7,o2 10 5 7 a4_,o1 11 10 (.load true 4),o0 4 (.alloc (.agg [(.int .i64 0),(.int .i64 0),(.int .i64 0),(.int .i64 0)]) 4),v_ 3 9,n2 4 11 (.store 4)] (.seq (.dreg [v_ 12 3,c2 13 12 (.int .i64 0) bgt_,v_ 14 13,g1 15 14 4 f3_,g1 16 14 15 ld,g1 17 14 0 .mv,g1 18 14 3 .mv,g_ 19 14 true [s_ 18,k_ (.int .i64 1)] bsu_,g2 20 14 17 19 a4_,g1 21 14 20 f3_,g1 22 14 21 ld,g2 23 14 16 22 ble_,m_ 24 [s_ 14,s_ 23,k_ (.bool false)] .pick]) (i_ 24 (sr_ [bf_ 2] .ret) .skip)))) (.reg [i1_ 25 7,v_ 7 25]))))))) (sr_ [v_ 26 0,o1 27 26 ln,c2 28 27 (.int .i64 4) ble_,v_ 2 28] .ret)))
theorem Sz:AS Tryz.prog 194 1=some ⟨29,1,[(.slot 2)],L5⟩:=by kernel_rfl
def Kk:AC:=(sr_ [ns_ 0] (sr_ [m_ 1 [k_ (.int .i64 0),k_ (.int .i64 1114111)] (.build [(.int .i64 0),(.int .i64 0)] [(0,1),(1,1)] [0,1]),o1 2 1 (.bslice 2 1 (.agg [(.int .i64 0),(.int .i64 0)]) [0]),v_ 0 2] .ret))
theorem PY:AS Tryz.prog 195 0=some ⟨3,0,[(.slot 0)],Kk⟩:=by kernel_rfl
def L6:AC:=(sr_ [o1 2 0 .box,ns_ 4,bf_ 5] (sr_ [o0 17 .mkMap,v_ 6 17] (sr_ [ns_ 7] (.seq (sr_ [o1 18 2 f5_,o1 19 18 ld,o1 20 19 ln,z_ 21] (.block 0 (.loop (sr_ [o2 22 21 20 bls_] (.seq (ex_ 22 0) (.seq (.block 1 (sr_ [o2 23 19 21 a4_,o1 24 23 (.load true 4),o0 9 (.alloc (.agg [(.int .i64 0),(.int .i64 0),(.int .i64 0),(.int .i64 0)]) 4),n2 9 24 (.store 4)] (.seq (sr_ [v_ 25 6,o1 26 9 f0_,o1 27 26 ld,o2 28 25 27 (.mapGet .nilS),o1 29 28 ln,c2 30 29 (.int .i64 0) beq_] (i_ 30 (.reg [v_ 31 7,o1 32 9 f0_,o1 33 32 ld,o1 34 33 (.bslice 1 1 (.int .i64 0) [0]),o2 35 31 34 (.app 1 8 (.int .i64 0)),v_ 7 35]) .skip)) (.grx [false,true,true,false,true,true,false,true,false,false,false] [m_ 36 [s_ 6] .mv,m_ 37 [s_ 9] f0_,m_ 38 [s_ 37] ld,m_ 39 [s_ 6] .mv,m_ 40 [s_ 9] f0_,m_ 41 [s_ 40] ld,m_ 42 [s_ 39,s_ 41] (.mapGet .nilS),m_ 43 [s_ 9] (.load true 4),m_ 44 [s_ 43] (.bslice 4 1 (.agg [(.int .i64 0),(.int .i64 0),(.int .i64 0),(.int .i64 0)]) [0]),m_ 45 [s_ 42,s_ 44] (.app 4 32 (.agg [(.int .i64 0),(.int .i64 0),(.int .i64 0),(.int .i64 0)])),h_ [s_ 36,s_ 38,s_ 45] .mapSet])))) (.reg [i1_ 46 21,v_ 21 46]))))))) (sr_ [o1 47 2 f4_,o1 48 47 ld,o1 49 2 f4_,o1 50 49 ld,o2 51 48 50 (.build [(.int .i64 0),(.int .i64 0)] [(0,1),(1,1)] [0,1]),o1 52 51 (.bslice 2 1 (.agg [(.int .i64 0),(.int .i64 0)]) [0]),v_ 10 52] (.seq (sr_ [v_ 53 7,o1 54 53 ln,z_ 55] (.block 2 (.loop (sr_ [o2 56 55 54 bls_] (.seq (ex_ 56 2) (.seq (.block 3 (sr_ [o2 57 53 55 a1_,o1 58 57 ld,v_ 12 58] (.dtl [v_ 59 10,v_ 60 6,v_ 61 12,o2 62 60 61 (.mapGet .nilS),v_ 63 1,v_ 64 12,o2 65 63 64 a1_,o1 66 65 ld,k2 67 201 62 66] [k2 68 200 59 67,v_ 10 68]))) (.reg [i1_ 69 55,v_ 55 69]))))))) (sr_ [v_ 71 10,k1 72 202 71,v_ 70 72,o1 73 70 (.extract 0),o1 74 70 (.extract 1),v_ 13 73,v_ 14 74] (sr_ [v_ 76 10,k1 77 203 76,v_ 75 77,o1 78 75 (.extract 0),o1 79 75 (.extract 1),v_ 15 78,v_ 16 79] (sr_ [v_ 80 10,v_ 81 10,o1 82 81 ln,c2 83 82 (.int .i64 0) bgt_,v_ 84 83,g1 85 84 13 .mv,g_ 86 84 true [s_ 85,k_ (.int .i64 0)] bge_,m_ 87 [s_ 84,s_ 86,k_ (.bool false)] .pick,v_ 88 87,g1 89 88 15 .mv,g_ 90 88 true [s_ 89,k_ (.int .i64 1114111)] ble_,m_ 91 [s_ 88,s_ 90,k_ (.bool false)] .pick,v_ 4 80,v_ 5 91] .ret)))))))))
theorem S6:AS Tryz.prog 196 2=some ⟨92,2,[(.slot 4),(.slot 5)],L6⟩:=by kernel_rfl
def OL:AC:=(sr_ [c1 2 .nilF .mv] (sr_ [v_ 4 0,k1 5 181 4,o0 3 (.alloc .nilS 1),n2 3 5 st] (sr_ [o1 6 3 (.mkFunc 204),v_ 2 6] .ret)))
theorem WC:AS Tryz.prog 197 1=some ⟨7,1,[(.slot 2)],OL⟩:=by kernel_rfl
def EM:AC:=(sr_ [bt_ 10] (sr_ [bt_ 11] (.block 0 (.loop (.block 1 (sr_ [v_ 21 2,v_ 22 1,o2 23 21 22 bsu_,v_ 12 23] (.seq (sr_ [v_ 24 12,c2 25 24 (.int .i64 12) ble_] (i_ 25 (sr_ [v_ 26 0,v_ 27 1,v_ 28 2,v_ 29 4,m_ 30 [k_ (.fn 205 []),s_ 26,s_ 27,s_ 28,s_ 29] .call] .ret) .skip)) (.seq (sr_ [v_ 31 3,c2 32 31 (.int .i64 0) beq_] (i_ 32 (sr_ [v_ 33 0,v_ 34 1,v_ 35 2,v_ 36 4,m_ 37 [k_ (.fn 206 []),s_ 33,s_ 34,s_ 35,s_ 36] .call] .ret) .skip)) (.seq (sr_ [v_ 38 10,o1 39 38 nt] (i_ 39 (sr_ [v_ 40 0,v_ 41 1,v_ 42 2,v_ 43 4,m_ 44 [k_ (.fn 207 []),s_ 40,s_ 41,s_ 42,s_ 43] .call] (.reg [v_ 45 3,c2 46 45 (.int .i64 1) bsu_,v_ 3 46])) .skip)) (sr_ [v_ 48 0,v_ 49 1,v_ 50 2,v_ 51 4,m_ 52 [k_ (.fn 208 []),s_ 48,s_ 49,s_ 50,s_ 51] .call,v_ 47 52,o1 53 47 (.extract 0),o1 54 47 (.extract 1),v_ 13 53,v_ 14 54] (.seq (sr_ [v_ 55 14,c2 56 55 (.int .i64 2) beq_] (i_ 56 (sr_ [v_ 57 0,v_ 58 1,v_ 59 2,v_ 60 4,m_ 61 [k_ (.fn 209 []),s_ 57,s_ 58,s_ 59,s_ 60] .call] (sr_ [v_ 62 2,c2 63 62 (.int .i64 1) bsu_,v_ 64 13,v_ 65 1,o2 66 64 65 bsu_,o2 67 63 66 bsu_,v_ 13 67] (.reg [c1 14 (.int .i64 1) .mv]))) .skip)) (.seq (sr_ [v_ 68 10,v_ 69 68,g1 70 69 11 .mv,m_ 71 [s_ 69,s_ 70,k_ (.bool false)] .pick,v_ 72 71,g1 73 72 14 .mv,g_ 74 72 true [s_ 73,k_ (.int .i64 1)] beq_,m_ 75 [s_ 72,s_ 74,k_ (.bool false)] .pick] (i_ 75 (sr_ [v_ 76 0,v_ 77 1,v_ 78 2,v_ 79 4,m_ 80 [k_ (.fn 210 []),s_ 76,s_ 77,s_ 78,s_ 79] .call] (i_ 80 .ret .skip)) .skip)) (.seq (.seq (.dtl [v_ 81 1,c2 82 81 (.int .i64 0) bgt_,v_ 83 82,g1 84 83 4 .mv,g1 85 83 0 .mv,g1 86 83 1 .mv,g_ 87 83 true [s_ 86,k_ (.int .i64 1)] bsu_,g2 88 83 85 87 a2_,g1 89 83 88 (.load true 2),g1 90 83 0 .mv,g1 91 83 13 .mv,g2 92 83 90 91 a2_,g1 93 83 92 (.load true 2)] [g_ 94 83 true [s_ 84,s_ 89,s_ 93] .call,g_ 95 83 true [s_ 94,k_ (.int .i64 0)] bls_,g1 96 83 95 nt,m_ 97 [s_ 83,s_ 96,k_ (.bool false)] .pick]) (i_ 97 (sr_ [v_ 98 0,v_ 99 1,v_ 100 2,v_ 101 13,v_ 102 4,m_ 103 [k_ (.fn 211 []),s_ 98,s_ 99,s_ 100,s_ 101,s_ 102] .call,v_ 15 103] (sr_ [v_ 104 15,v_ 1 104] (.exit 1))) .skip)) (sr_ [v_ 106 0,v_ 107 1,v_ 108 2,v_ 109 13,v_ 110 4,m_ 111 [k_ (.fn 212 []),s_ 106,s_ 107,s_ 108,s_ 109,s_ 110] .call,v_ 105 111,o1 112 105 (.extract 0),o1 113 105 (.extract 1),v_ 16 112,v_ 17 113] (sr_ [v_ 114 17,v_ 11 114] (sr_ [v_ 115 16,v_ 116 1,o2 117 115 116 bsu_,v_ 118 2,v_ 119 16,o2 120 118 119 bsu_,v_ 18 117,v_ 19 120] (sr_ [v_ 121 12,c2 122 121 (.int .i64 8) (.bin .quo),v_ 20 122] (sr_ [v_ 123 18,v_ 124 19,o2 125 123 124 bls_] (i_ 125 (sr_ [v_ 126 18,v_ 127 20,o2 128 126 127 bge_,v_ 10 128] (sr_ [v_ 129 0,v_ 130 1,v_ 131 16,v_ 132 3,v_ 133 4,m_ 134 [k_ (.fn 198 []),s_ 129,s_ 130,s_ 131,s_ 132,s_ 133] .call] (.reg [v_ 135 16,i1_ 136 135,v_ 1 136]))) (sr_ [v_ 137 19,v_ 138 20,o2 139 137 138 bge_,v_ 10 139] (sr_ [v_ 140 0,v_ 141 16,i1_ 142 141,v_ 143 2,v_ 144 3,v_ 145 4,m_ 146 [k_ (.fn 198 []),s_ 140,s_ 142,s_ 143,s_ 144,s_ 145] .call] (.reg [v_ 147 16,v_ 2 147]))))))))))))))))))))))
theorem G5:AS Tryz.prog 198 5=some ⟨148,5,[],EM⟩:=by kernel_rfl
def OM:AC:=(sr_ [ns_ 4] (sr_ [ns_ 5] (.seq (sr_ [v_ 10 0,o1 11 10 ln,z_ 12] (.block 0 (.loop (sr_ [o2 13 12 11 bls_] (.seq (ex_ 13 0) (.seq (.block 1 (sr_ [o2 14 10 12 a2_,o1 15 14 (.load true 2),o0 7 (.alloc (.agg [(.int .i64 0),(.int .i64 0)]) 2),n2 7 15 (.store 2)] (.seq (sr_ [v_ 16 1,o1 17 16 ln,z_ 18] (.block 2 (.loop (sr_ [o2 19 18 17 bls_] (.seq (ex_ 19 2) (.seq (.block 3 (sr_ [o2 20 16 18 a2_,o1 21 20 (.load true 2),o0 9 (.alloc (.agg [(.int .i64 0),(.int .i64 0)]) 2),n2 9 21 (.store 2)] (.reg [v_ 22 5,o1 23 7 f0_,o1 24 23 ld,o1 25 9 f0_,o1 26 25 ld,o2 27 24 26 bad_,o1 28 7 f1_,o1 29 28 ld,o1 30 9 f1_,o1 31 30 ld,o2 32 29 31 bad_,o2 33 27 32 (.build [(.int .i64 0),(.int .i64 0)] [(0,1),(1,1)] [0,1]),o1 34 33 (.bslice 2 1 (.agg [(.int .i64 0),(.int .i64 0)]) [0]),o2 35 22 34 (.app 2 16 (.agg [(.int .i64 0),(.int .i64 0)])),v_ 5 35]))) (.reg [i1_ 36 18,v_ 18 36]))))))) (sr_ [v_ 37 5,o1 38 37 ln,c2 39 38 (.int .i64 65536) bgt_] (i_ 39 (.reg [v_ 40 5,k1 41 181 40,v_ 5 41]) .skip))))) (.reg [i1_ 42 12,v_ 12 42]))))))) (sr_ [v_ 43 5,k1 44 181 43,v_ 4 44] .ret))))
theorem WE:AS Tryz.prog 200 2=some ⟨45,2,[(.slot 4)],OM⟩:=by kernel_rfl
def Jo:AC:=(sr_ [o1 2 0 .box,ns_ 4] (.seq (sr_ [o1 13 2 ld,o1 14 13 ln,c2 15 14 (.int .i64 1) beq_] (i_ 15 (sr_ [o1 16 2 ld,c2 17 16 (.int .i64 0) a4_,o1 18 17 (.load true 4),v_ 19 1,k2 20 187 18 19,v_ 4 20] .ret) .skip)) (sr_ [o0 5 (.alloc .nilS 1)] (.seq (sr_ [v_ 21 1,k1 22 197 21] (.block 0 (.rng (.slot 22) [23] (.reg [v_ 6 23]) (.block 1 (sr_ [z_ 7] (.seq (sr_ [o1 24 2 ld,o1 25 24 ln,z_ 26] (.block 2 (.loop (sr_ [o2 27 26 25 bls_] (.seq (ex_ 27 2) (.seq (.block 3 (sr_ [o2 28 24 26 a4_,o1 29 28 (.load true 4),o0 9 (.alloc (.agg [(.int .i64 0),(.int .i64 0),(.int .i64 0),(.int .i64 0)]) 4),n2 9 29 (.store 4)] (sr_ [o1 31 9 (.load true 4),v_ 32 6,k2 33 136 31 32,v_ 30 33,o1 34 30 (.extract 0),o1 35 30 (.extract 1),v_ 10 34,v_ 11 35] (.reg [v_ 36 7,v_ 37 10,o2 38 36 37 bad_,v_ 7 38])))) (.reg [i1_ 39 26,v_ 26 39]))))))) (sr_ [o1 40 5 ld,o1 41 40 ln,v_ 12 41] (sr_ [v_ 42 12,c2 43 42 (.int .i64 0) bgt_,v_ 44 43,g1 45 44 5 ld,g1 46 44 12 .mv,g_ 47 44 true [s_ 46,k_ (.int .i64 1)] bsu_,g2 48 44 45 47 a2_,g1 49 44 48 f1_,g1 50 44 49 ld,g1 51 44 7 .mv,g_ 52 44 true [s_ 51,k_ (.int .i64 1)] bsu_,g2 53 44 50 52 beq_,m_ 54 [s_ 44,s_ 53,k_ (.bool false)] .pick] (i_ 54 (.reg [o1 55 5 ld,v_ 56 12,c2 57 56 (.int .i64 1) bsu_,v_ 58 7,o2 59 55 57 a2_,o1 60 59 f1_,n2 60 58 st]) (.reg [o1 61 5 ld,v_ 62 7,v_ 63 7,o2 64 62 63 (.build [(.int .i64 0),(.int .i64 0)] [(0,1),(1,1)] [0,1]),o1 65 64 (.bslice 2 1 (.agg [(.int .i64 0),(.int .i64 0)]) [0]),o2 66 61 65 (.app 2 16 (.agg [(.int .i64 0),(.int .i64 0)])),n2 5 66 st])))))))))) (sr_ [o1 67 5 ld,k1 68 181 67,v_ 4 68] .ret)))))
theorem ON:AS Tryz.prog 201 2=some ⟨69,2,[(.slot 4)],Jo⟩:=by kernel_rfl
def Nh:AC:=(sr_ [z_ 2,bf_ 3] (sr_ [v_ 5 0,k1 6 181 5,v_ 4 6] (.seq (sr_ [v_ 7 4,o1 8 7 ln,c2 9 8 (.int .i64 0) beq_] (i_ 9 (sr_ [z_ 2,bf_ 3] .ret) .skip)) (sr_ [v_ 10 4,c2 11 10 (.int .i64 0) a2_,o1 12 11 f0_,o1 13 12 ld,v_ 2 13,bt_ 3] .ret))))
theorem UY:AS Tryz.prog 202 1=some ⟨14,1,[(.slot 2),(.slot 3)],Nh⟩:=by kernel_rfl
def OO:AC:=(sr_ [z_ 2,bf_ 3] (sr_ [v_ 5 0,k1 6 181 5,v_ 4 6] (.seq (sr_ [v_ 7 4,o1 8 7 ln,c2 9 8 (.int .i64 0) beq_] (i_ 9 (sr_ [z_ 2,bf_ 3] .ret) .skip)) (sr_ [v_ 10 4,v_ 11 4,o1 12 11 ln,c2 13 12 (.int .i64 1) bsu_,o2 14 10 13 a2_,o1 15 14 f1_,o1 16 15 ld,v_ 2 16,bt_ 3] .ret))))
theorem WG:AS Tryz.prog 203 1=some ⟨17,1,[(.slot 2),(.slot 3)],OO⟩:=by kernel_rfl
def IA:AC:=(sr_ [o1 6 1 ld,o1 7 6 ln,z_ 8] (.block 0 (.loop (sr_ [o2 9 8 7 bls_] (.seq (ex_ 9 0) (.seq (.block 1 (sr_ [o2 10 6 8 a2_,o1 11 10 (.load true 2),o0 4 (.alloc (.agg [(.int .i64 0),(.int .i64 0)]) 2),n2 4 11 (.store 2)] (sr_ [o1 12 4 f0_,o1 13 12 ld,v_ 5 13] (.block 2 (.loop (.seq (sr_ [v_ 14 5,o1 15 4 f1_,o1 16 15 ld,o2 17 14 16 ble_] (ex_ 17 2)) (.seq (.block 3 (sr_ [v_ 20 0,v_ 21 5,o2 22 20 21 .call,o1 23 22 nt] (i_ 23 .ret .skip))) (.reg [v_ 18 5,i1_ 19 18,v_ 5 19])))))))) (.reg [i1_ 24 8,v_ 8 24])))))))
theorem S7:AS Tryz.prog 204 2=some ⟨25,2,[],IA⟩:=by kernel_rfl
def DZ:AC:=(sr_ [v_ 10 1,i1_ 11 10,v_ 8 11] (.block 0 (.loop (.seq (sr_ [v_ 12 8,v_ 13 2,o2 14 12 13 bls_] (ex_ 14 0)) (.seq (.block 1 (sr_ [v_ 17 8,v_ 9 17] (.block 2 (.loop (.seq (.seq (.dtl [v_ 18 9,v_ 19 1,o2 20 18 19 bgt_,v_ 21 20,g1 22 21 3 .mv,g1 23 21 0 .mv,g1 24 21 9 .mv,g2 25 21 23 24 a2_,g1 26 21 25 (.load true 2),g1 27 21 0 .mv,g1 28 21 9 .mv,g_ 29 21 true [s_ 28,k_ (.int .i64 1)] bsu_,g2 30 21 27 29 a2_,g1 31 21 30 (.load true 2)] [g_ 32 21 true [s_ 22,s_ 26,s_ 31] .call,g_ 33 21 true [s_ 32,k_ (.int .i64 0)] bls_,m_ 34 [s_ 21,s_ 33,k_ (.bool false)] .pick]) (ex_ 34 2)) (.seq (.block 3 (.greg [v_ 37 0,v_ 38 9,v_ 39 0,v_ 40 9,c2 41 40 (.int .i64 1) bsu_,v_ 42 0,v_ 43 9,c2 44 43 (.int .i64 1) bsu_,o2 45 42 44 a2_,o1 46 45 (.load true 2),v_ 47 0,v_ 48 9,o2 49 47 48 a2_,o1 50 49 (.load true 2),o2 51 37 38 a2_,n2 51 46 (.store 2),o2 52 39 41 a2_,n2 52 50 (.store 2)])) (.reg [v_ 35 9,c2 36 35 (.int .i64 1) bsu_,v_ 9 36]))))))) (.reg [v_ 15 8,i1_ 16 15,v_ 8 16]))))))
theorem FJ:AS Tryz.prog 205 4=some ⟨53,4,[],DZ⟩:=by kernel_rfl
set_option maxRecDepth 100000
open Abs O1 O2 O3
theorem Gz{P:Program}{f m np b:Nat}{xs:List AV}{l:List Grp}{K:AV->Ax->Prop}{res:List ARes}{B:AC}(hf:AS P f xs.length=some ⟨m,np,res,B⟩)(hb:b=l.length)(h:W P m b B (entry xs) (Abs.hl l) (Ret P res K)):BB P f xs (Abs.hl l) K:=by
 subst hb;exact KX hf (W_T h)
theorem zjf(l:List Span):BB Tryz.prog 205 [.ref 0 1 0 0,.int .i64 0,.int .i64 0,.fn 191 []] (Abs.hl [⟨2,1,true,l.map C8⟩]) λy H'=>y=.tup []/\H'=Abs.hl [⟨2,1,true,l.map C8⟩]:=by
 refine Gz (b:=1) FJ rfl ?_;unfold DZ;(with_reducible repeat'(first|simp (disch:=omega) only[push_cast,↓zz,seval]|apply Aa|refine sp_ ?_ ?_<;>intro hc<;>push_cast at hc|omega|intro _))
 refine AQ (AX (λ(_:Unit)=>True) (λ_=>0) (λ_=>[(0,.ref 0 1 0 0),(1,.int .i64 0),(2,.int .i64 0),(3,.fn 191 []),(8,.int .i64 1)])
  (λ_=>[⟨2,1,true,l.map C8⟩]) (λ_ _=>[]) () trivial ?_ ?_)
 ·(with_reducible repeat'(first|simp (disch:=omega) only[push_cast,↓zz,seval]|apply Aa|refine sp_ ?_ ?_<;>intro hc<;>push_cast at hc|omega|intro _))
 rintro _ _;refine W_T ?_;(with_reducible repeat'(first|simp (disch:=omega) only[push_cast,↓zz,seval]|apply Aa|refine sp_ ?_ ?_<;>intro hc<;>push_cast at hc|omega|intro _))
 all_goals trace_state
set_option maxRecDepth 100000 in
theorem len0:PC Tryz.prog 163 [.int .u64 0] (.int .i64 0):=by
 refine BA Mp ?_;unfold Ig;(with_reducible repeat'(first|simp (disch:=omega) only[push_cast,↓zz,seval]|apply Aa|refine sp_ ?_ ?_<;>intro hc<;>push_cast at hc|omega|intro _))
 all_goals decide
theorem zbw:PC Tryz.prog 139 [.int .u64 0] (.int .i64 0):=by
 refine BA O8 ?_;unfold Jk;(with_reducible repeat'(first|simp (disch:=omega) only[push_cast,↓zz,seval]|apply Aa|refine sp_ ?_ ?_<;>intro hc<;>push_cast at hc|refine ee len0 ?_|(refine cc len0 ?_;(simp(disch:=omega)only[push_cast,↓zz,seval]);(fail_if_success change False))|omega|intro _))
theorem pdq0(l:List Span):BB Tryz.prog 198 [.ref 0 1 0 0,.int .i64 0,.int .i64 0,.int .i64 0,.fn 191 []] (Abs.hl [⟨2,1,true,l.map C8⟩]) λy H'=>y=.tup []/\H'=Abs.hl [⟨2,1,true,l.map C8⟩]:=by
 refine Gz (b:=1) G5 rfl ?_;unfold EM;(with_reducible repeat'(first|simp (disch:=omega) only[push_cast,↓zz,seval]|apply Aa|refine sp_ ?_ ?_<;>intro hc<;>push_cast at hc|omega|intro _))
 refine AQ (AX (λ(_:Unit)=>True) (λ_=>0) (λ_=>[(0,.ref 0 1 0 0),(1,.int .i64 0),(2,.int .i64 0),(3,.int .i64 0),(4,.fn 191 []),(10,.bool true),(11,.bool true)])
  (λ_=>[⟨2,1,true,l.map C8⟩]) (λ_ _=>[]) () trivial ?_ ?_)
 ·(with_reducible repeat'(first|simp (disch:=omega) only[push_cast,↓zz,seval]|apply Aa|refine sp_ ?_ ?_<;>intro hc<;>push_cast at hc|omega|intro _))
 rintro _ _;refine W_T ?_;(with_reducible repeat'(first|simp (disch:=omega) only[push_cast,↓zz,seval]|apply Aa|refine sp_ ?_ ?_<;>intro hc<;>push_cast at hc|omega|intro _));refine BB.mono (zjf l) ?_;rintro y H' ⟨rfl,rfl⟩;(with_reducible repeat'(first|simp (disch:=omega) only[push_cast,↓zz,seval]|apply Aa|refine sp_ ?_ ?_<;>intro hc<;>push_cast at hc|omega|intro _))
 all_goals trace_state
theorem sort0(l:List Span):BB Tryz.prog 190 [.ref 0 1 0 0,.fn 191 []] (Abs.hl [⟨2,1,true,l.map C8⟩]) λy H'=>y=.tup []/\H'=Abs.hl [⟨2,1,true,l.map C8⟩]:=by
 refine Gz (b:=1) Gj rfl ?_;unfold Ep;(with_reducible repeat'(first|simp (disch:=omega) only[push_cast,↓zz,seval]|apply Aa|refine sp_ ?_ ?_<;>intro hc<;>push_cast at hc|refine ee zbw ?_|(refine cc zbw ?_;(simp(disch:=omega)only[push_cast,↓zz,seval]);(fail_if_success change False))|omega|intro _));refine BB.mono (pdq0 l) ?_;rintro y H' ⟨rfl,rfl⟩;(with_reducible repeat'(first|simp (disch:=omega) only[push_cast,↓zz,seval]|apply Aa|refine sp_ ?_ ?_<;>intro hc<;>push_cast at hc|omega|intro _))
 all_goals trace_state
def memL(l:List Span)(x:Int):Prop:=∃s∈l,s.lo<=x/\x<=s.hi
theorem Ch(x:Int):¬memL [] x:=λ⟨s,hs,_⟩=>by cases hs
theorem Bw{s:Span}{l:List Span}{x:Int}:memL (s::l) x↔(s.lo<=x/\x<=s.hi)\/memL l x:=by
 constructor
 ·rintro⟨t,ht,hx⟩
  rcases Ai.1 ht with rfl|ht
  ·exact .inl hx
  ·exact .inr ⟨t,ht,hx⟩
 ·rintro (hx|⟨t,ht,hx⟩)
  ·exact⟨s,by simp,hx⟩
  ·exact⟨t,by simp[ht],hx⟩
theorem F2{l m:List Span}{x:Int}:memL (l++m) x↔memL l x\/memL m x:=by
 constructor
 ·rintro⟨t,ht,hx⟩
  rcases Am.1 ht with ht|ht
  ·exact .inl ⟨t,ht,hx⟩
  ·exact .inr ⟨t,ht,hx⟩
 ·rintro (⟨t,ht,hx⟩|⟨t,ht,hx⟩)
  ·exact⟨t,by simp[ht],hx⟩
  ·exact⟨t,by simp[ht],hx⟩
def Plain(l:List Span):Prop:=(∀s∈l,s.lo<=s.hi)/\l.Pairwise λs t=>s.hi+1<t.lo
theorem Plain.tail{s:Span}{l:List Span}(h:Plain (s::l)):Plain l:=⟨λt ht=>h.1 t (by simp[ht]),(A9.1 h.2).2⟩
theorem Plain.head{s:Span}{l:List Span}(h:Plain (s::l)):s.lo<=s.hi:=h.1 s (by simp)
theorem Plain.after{s:Span}{l:List Span}(h:Plain (s::l)){x:Int}(hx:memL l x):s.hi+1<x:=by
 obtain⟨t,ht,h1,h2⟩:=hx;have:=(A9.1 h.2).1 t ht;omega
theorem Hs:∀{a b:List Span},Plain a->Plain b->(∀x,memL a x↔memL b x)->a=b
 |[],[],_,_,_=>rfl
 |[],t::b,_,hb,h=>absurd ((h t.lo).2 (Bw.2 (.inl ⟨Bg _,hb.head⟩))) (Ch _)
 |s::a,[],ha,_,h=>absurd ((h s.lo).1 (Bw.2 (.inl ⟨Bg _,ha.head⟩))) (Ch _)
 |s::a,t::b,ha,hb,h=>by
  have hs:=ha.head;have ht:=hb.head
  have key:∀{s t:Span}{a b:List Span},Plain (s::a)->Plain (t::b)->(∀x,memL (s::a) x↔memL (t::b) x)->t.lo<=s.lo:=λ{s t a b} ha hb h=>by
   rcases Bw.1 ((h s.lo).1 (Bw.2 (.inl ⟨Bg _,ha.head⟩))) with hh|hh
   ·exact hh.1
   ·have:=hb.after hh;have:=hb.head;omega
  have hlo:s.lo=t.lo:=Int.le_antisymm (key hb ha λx=>(h x).symm) (key ha hb h)
  have key2:∀{s t:Span}{a b:List Span},Plain (s::a)->Plain (t::b)->(∀x,memL (s::a) x↔memL (t::b) x)->s.lo=t.lo->t.hi<=s.hi:=λ{s t a b} ha hb h e=>by
   have:=ha.head;rcases Ed s.hi t.hi with hlt|hle
   ·rcases Bw.1 ((h (s.hi+1)).2 (Bw.2 (.inl ⟨by omega,by omega⟩))) with hh|hh
    ·omega
    ·have:=ha.after hh;omega
   ·exact hle
  have hhi:s.hi=t.hi:=Int.le_antisymm (key2 hb ha (λx=>(h x).symm) hlo.symm) (key2 ha hb h hlo);have hst:s=t:=by cases s;cases t;simp_all
  subst hst;refine DJ _ (Hs ha.tail hb.tail λx=>⟨λhx=>?_,λhx=>?_⟩)
  ·rcases Bw.1 ((h x).1 (Bw.2 (.inr hx))) with hh|hh
   ·have:=ha.after hx;omega
   ·exact hh
  ·rcases Bw.1 ((h x).2 (Bw.2 (.inr hx))) with hh|hh
   ·have:=hb.after hx;omega
   ·exact hh
def EB(out:List Span)(x:Span):List Span :=
 match out.getLast? with
 |some y=>if x.lo<=y.hi+1 then out.dropLast++[⟨y.lo,max y.hi x.hi⟩] else out++[x]
 |none=>[x]
theorem GG(x:Span):EB [] x=[x]:=rfl
theorem K8(out:List Span)(y x:Span):EB (out++[y]) x=if x.lo<=y.hi+1 then out++[⟨y.lo,max y.hi x.hi⟩] else out++[y]++[x]:=by
 simp[EB]
theorem Fy(l:List Span):l=[]\/∃m y,l=m++[y]:=by
 rcases List.eq_nil_or_concat l with h|⟨m,y,h⟩
 ·exact .inl h
 ·exact .inr ⟨m,y,by simpa using h⟩
theorem Hg{m:List Span}{y:Span}:Plain (m++[y])↔Plain m/\y.lo<=y.hi/\∀s∈m,s.hi+1<y.lo:=by
 simp only[Plain,DU,Am,Ao,Em,E6,or_imp,forall_and,Cy];constructor
 ·rintro⟨⟨h1,h2⟩,h3,h4⟩;exact⟨⟨h1,h3⟩,h2,h4⟩
 ·rintro⟨⟨h1,h3⟩,h2,h4⟩;exact⟨⟨h1,h2⟩,h3,h4⟩
def Before(l:List Span)(x:Int):Prop:=∀s∈l,s.lo<=x
theorem WH{out:List Span}{x:Span}(h:Plain out)(hx:x.lo<=x.hi)(hb:Before out x.lo):Plain (EB out x)/\Before (EB out x) x.lo/\∀v,memL (EB out x) v↔memL out v\/(x.lo<=v/\v<=x.hi):=by
 rcases Fy out with rfl|⟨m,y,rfl⟩
 ·refine⟨⟨by simp[GG,hx],by simp[GG]⟩,by simp[GG,Before],λv=>?_⟩
  rw[GG,Bw];constructor
  ·rintro (h|h)
   ·exact .inr h
   ·exact absurd h (Ch _)
  ·rintro (h|h)
   ·exact absurd h (Ch _)
   ·exact .inl h
 ·rw[K8]
  obtain⟨h1,h2,h3⟩:=Hg.1 h;have hy:y.lo<=x.lo:=hb y (by simp);split
  ·rename_i hle
   refine⟨Hg.2 ⟨h1,by simp only;omega,λs hs=>h3 s hs⟩,?_,λv=>?_⟩
   ·intro s hs
    rcases Am.1 hs with hs|hs
    ·exact hb s (by simp[hs])
    ·simp only[Ao] at hs;subst hs;exact hy
   ·rw[F2,F2,Bw,Bw]
    simp only[Ch,AH];constructor
    ·rintro (h|h)
     ·exact .inl (.inl h)
     ·by_cases hv:v<=y.hi
      ·exact .inl (.inr ⟨h.1,hv⟩)
      ·exact .inr ⟨by omega,by omega⟩
    ·rintro ((h|h)|h)
     ·exact .inl h
     ·exact .inr ⟨h.1,by omega⟩
     ·exact .inr ⟨by omega,by omega⟩
  ·rename_i hle
   refine⟨Hg.2 ⟨h,hx,λs hs=>?_⟩,?_,λv=>?_⟩
   ·rcases Am.1 hs with hs|hs
    ·have:=h3 s hs;omega
    ·simp only[Ao] at hs;subst hs;omega
   ·intro s hs
    rcases Am.1 hs with hs|hs
    ·exact hb s hs
    ·simp only[Ao] at hs;subst hs;exact Bg _
   ·rw[F2,Bw]
    simp only[Ch,AH]
theorem Ih:∀(l out:List Span),Plain out->(∀s∈l,s.lo<=s.hi)->l.Pairwise (λa b=>a.lo<=b.lo)->(∀s∈l,Before out s.lo)->Plain (l.foldl EB out)/\∀v,memL (l.foldl EB out) v↔memL out v\/memL l v
 |[],out,h,_,_,_=>⟨h,λv=>by simp only[List.foldl_nil,Ch,AH]⟩
 |x::l,out,h,h1,h2,h3=>by
  obtain⟨p1,p2,p3⟩:=WH h (h1 x (by simp)) (h3 x (by simp));rw[A9] at h2;obtain⟨q1,q2⟩:=Ih l (EB out x) p1 (λs hs=>h1 s (by simp[hs])) h2.2 (λs hs t ht=>Int.le_trans (p2 t ht) (h2.1 s hs));refine⟨q1,λv=>?_⟩;rw[List.foldl_cons,q2 v,p3 v,Bw,or_assoc]
theorem z0d(out:List Span)(x:Span):(EB out x).length<=out.length+1:=by
 rcases Fy out with rfl|⟨m,y,rfl⟩
 ·simp[GG]
 ·rw[K8];split<;>simp
theorem S8:∀(l out:List Span),(l.foldl EB out).length<=out.length+l.length
 |[],out=>by simp
 |x::l,out=>by
  have h1:=S8 l (EB out x);have h2:=z0d out x;simp only[List.foldl_cons,List.length_cons];omega
def K9(s:Span):Span:=⟨max s.lo (-1073741824),min s.hi 1073741824⟩
def inN(l:List Span):List Span:=(l.map K9).filter λs=>decide (s.lo<=s.hi)
theorem z5f{l:List Span}{x:Int}:memL (inN l) x↔memL l x/\-1073741824<=x/\x<=1073741824:=by
 constructor
 ·rintro⟨s,hs,h1,h2⟩
  simp only[inN,AW,Ar] at hs;obtain⟨⟨t,ht,rfl⟩,_⟩:=hs;simp only[K9] at h1 h2;exact⟨⟨t,ht,by omega,by omega⟩,by omega,by omega⟩
 ·rintro⟨⟨t,ht,h1,h2⟩,h3,h4⟩
  refine⟨K9 t,?_,by simp only[K9];omega,by simp only[K9];omega⟩;simp only[inN,AW,Ar,Ad];exact⟨⟨t,ht,rfl⟩,by simp only[K9];omega⟩
theorem Y5{l:List Span}:∀s∈inN l,s.lo<=s.hi:=λs hs=>by
 simp only[inN,AW,Ad] at hs;exact hs.2
theorem OP{l m:List Span}(h:l.Perm m)(x:Int):memL l x↔memL m x :=
 ⟨λ⟨s,hs,hx⟩=>⟨s,h.mem_iff.1 hs,hx⟩,λ⟨s,hs,hx⟩=>⟨s,h.mem_iff.2 hs,hx⟩⟩
def Bq(l:List Span):List Span:=((inN l).mergeSort λa b=>decide (a.lo<=b.lo)).foldl EB []
theorem zbx{l m:List Span}(hp:m.Perm (inN l))(hs:m.Pairwise λa b=>a.lo<=b.lo):m.foldl EB []=Bq l:=by
 have hq:((inN l).mergeSort λa b=>decide (a.lo<=b.lo)).Perm (inN l):=List.mergeSort_perm _ _
 have hs':((inN l).mergeSort λa b=>decide (a.lo<=b.lo)).Pairwise λa b=>a.lo<=b.lo:=by
  have:=List.pairwise_mergeSort (le:=λa b:Span=>decide (a.lo<=b.lo)) (λa b c h1 h2=>by simp at *;omega) (λa b=>by simp;omega) (inN l);simpa using this
 obtain⟨a1,a2⟩:=Ih m [] ⟨by simp,by simp⟩ (λs h=>Y5 s (hp.mem_iff.1 h)) hs (λs _ t ht=>by cases ht);obtain⟨b1,b2⟩:=Ih _ [] ⟨by simp,by simp⟩ (λs h=>Y5 s (hq.mem_iff.1 h)) hs' (λs _ t ht=>by cases ht);refine Hs a1 b1 λx=>?_;rw[Bq,a2 x,b2 x,OP hp x,OP hq x]
theorem Bo(l:List Span):Plain (Bq l)/\∀x,memL (Bq l) x↔memL l x/\-1073741824<=x/\x<=1073741824:=by
 have hq:((inN l).mergeSort λa b=>decide (a.lo<=b.lo)).Perm (inN l):=List.mergeSort_perm _ _
 have hs':((inN l).mergeSort λa b=>decide (a.lo<=b.lo)).Pairwise λa b=>a.lo<=b.lo:=by
  have:=List.pairwise_mergeSort (le:=λa b:Span=>decide (a.lo<=b.lo)) (λa b c h1 h2=>by simp at *;omega) (λa b=>by simp;omega) (inN l);simpa using this
 obtain⟨b1,b2⟩:=Ih _ [] ⟨by simp,by simp⟩ (λs h=>Y5 s (hq.mem_iff.1 h)) hs' (λs _ t ht=>by cases ht);refine⟨b1,λx=>?_⟩;rw[Bq,b2 x,OP hq x,z5f];simp only[Ch,Cp]
theorem WI(l:List Span):(inN l).length<=l.length:=by
 have:=Bz (λs:Span=>decide (s.lo<=s.hi)) (l.map K9);simpa [inN] using this
theorem EY(l:List Span):(Bq l).length<=l.length:=by
 have h1:=S8 ((inN l).mergeSort λa b=>decide (a.lo<=b.lo)) [];have h2:=WI l;rw[List.length_mergeSort] at h1;simp only[List.length_nil] at h1;rw[Bq];omega
end Go.Proofs.YtbcjoeadpjfcfaaGreat
namespace Go.Proofs.YtbcjoeadpjfcfaaGreat.Abs
section
variable {P:Program}{n b:Nat}{S:MS}{H:Ax}
theorem put_defers(a:Act)(d:Option Nat)(v:Value):(a.put d v).defers=a.defers:=by cases d<;>rfl
theorem zo0(hS:SRel S H){env:Env}{a:Act}(hF:FRel S n env a){o:Oper}{q:AOp}{ops:Array Oper}(h:C3 P n ops o=some q){K:AV->Ax->Prop}(hst:AG P q.k H (q.vals env) K)
 {N:Act->World->Prop} {Q:Exit->Act->World->Prop} (hN:∀S' H' x a',Evo S S'->SRel S' H'->FRel S' n (env.put q.dst x) a'->a'.defers=a.defers->K x H'->N a' S'.w) (r:Option Nat) (m:Nat):o.wpIn (fen r) m P a S.w N Q:=by
 obtain⟨h1,h2,h3,h4,_⟩:=Ce h;have hargs:=JC hF h2;have h1':=I3 h1 λe=>by rw[e] at hst;simp[AG] at hst
 have hsem:o.semAt (fen r).round a.eval=execOp a.eval o:=Oper.semAt_eq _ _ _ λc hc=>by rw[hc] at h1';cases h1'
 rcases Qh hS o h1 (ρ:=a.eval) hargs hst with⟨v,S',x,H',hr,e,hS',hv,hK⟩|⟨f,cargs,hr,hc⟩
 ·have hN':=λv' (hv':VRel S' x v')=>hN S' H' x (a.put o.dst v') e hS' (by rw[h3];exact (hF.mono e).put h4 hv') (put_defers _ _ _) hK
  refine⟨λ_ _=>trivial,?_⟩;rw[hsem];rcases hr with hr|⟨hr,rfl⟩<;>rw[hr]
  ·exact hN' v hv
  ·exact hN' undef hv
 ·refine⟨λ_ _=>trivial,?_⟩
  rw[hsem,hr,Oper.uponIn_enter];refine⟨λh=>(by cases h),NL (hc.mono λe w' hh=>?_)⟩;obtain⟨v,S',x,H',rfl,rfl,ev,hS',hv,hK⟩:=hh;exact hN S' H' x (a.put o.dst v) ev hS' (by rw[h3];exact (hF.mono ev).put h4 hv) (put_defers _ _ _) hK
theorem Ii{ops:Array Oper}{Q:Exit->Act->World->Prop}{rd:Option Nat}{m:Nat}(tl:List Nat):∀(l:List Oper)(l':List AOp)(k:Nat),(∀j,j<l.length->l[j]? = ops[k+j]?)->l.mapM (C3 P n ops)=some l'->∀{S:MS}{H:Ax}{env:Env}{a:Act}{K:Env->Ax->Prop},
 SRel S H->FRel S n env a->runK P l' env H K->(∀S' H' env' a',Evo S S'->SRel S' H'->FRel S' n env' a'->a'.defers=a.defers->K env' H'->wpOpsIn (fen rd) m P ops Q tl a' S'.w)->wpOpsIn (fen rd) m P ops Q (List.range' k l.length++tl) a S.w
 |[],l',k,_,hm,S,H,env,a,K,hS,hF,hr,hQ=>by
  simp at hm;subst hm;exact hQ S H env a (.refl S) hS hF rfl hr
 |o::l,l',k,hl,hm,S,H,env,a,K,hS,hF,hr,hQ=>by
  rw[BM] at hm;simp only[Option.bind_eq_bind,B2,Option.pure_def,Aq] at hm;obtain⟨q,hq,r,hrr,rfl⟩:=hm;have h0:ops[k]? = some o:=by simpa using (hl 0 (by simp)).symm
  have hl':∀j,j<l.length->l[j]? = ops[k+1+j]? := λj hj=>by have:=hl (j+1) (by simp;omega);simpa [Br,Cj 1 j] using this
  have hg:=NK hq hF hr;rw[show List.range' k (o::l).length++tl=k::(List.range' (k+1) l.length++tl) from rfl];simp only[wpOpsIn,h0];cases hw:Region.wanted o (yielded ops a.tmps)
  ·rw[hw] at hg
   simp only[Au,AZ] at hg ⊢;obtain⟨_,_,h3,h4,_⟩:=Ce hq;exact⟨λ_ _=>trivial,Ii tl l r (k+1) hl' hrr hS (by rw[h3];exact hF.put h4 IW) hg (λS' H' env' a' e hS' hF' hd=>hQ S' H' env' a' e hS' hF' (hd.trans (put_defers _ _ _)))⟩
  ·rw[hw] at hg
   simp only[AY] at hg ⊢;refine zo0 hS hF hq hg (λS' H' x a' e hS' hF' hd hK=>?_) rd m;exact Ii tl l r (k+1) hl' hrr hS' hF' hK (λS2 H2 env2 a2 e2 hS2 hF2 hd2 hK2=>hQ S2 H2 env2 a2 (e.trans e2) hS2 hF2 (hd2.trans hd) hK2)
end
structure Itr where
 P:Program
 l:Nat
 m:Nat
 rows:List (List AV)
 S0:MS
 J:Nat->(Nat->Prop)->World->Prop
 Jx:Nat->(Nat->Prop)->World->Prop
 cJ:Clo J
 cx:Clo Jx
 fact:∀k O W,J k O W\/Jx k O W->(∀b,S0.im b->¬O b/\W.heap[b]? = S0.w.heap[b]?)/\(W.os=S0.w.os/\Kq W S0.w/\W.output=S0.w.output)/\S0.w.heap.size<=W.heap.size/\∀b,O b->S0.w.heap.size<=b/\b<W.heap.size
 round:∀k row O W,rows[k]? = some row->J k O W->YieldAt Fence.wide m P l (encI row) W λe W'=>W.heap.size<=W'.heap.size/\(∀b,O b->W'.heap[b]? = W.heap[b]?)/\(e=.returned (.bool true)/\J (k+1) O W'\/e=.returned (.bool false)/\Jx (k+1) O W')
namespace Itr
def at_(I:Itr):Option Nat->(Nat->Prop)->World->Prop
 |some k,O,W=>I.J k O W
 |none,O,W=>∃k,I.Jx k O W
structure Now(I:Itr)(s:Option Nat)(X:Nat->Prop)(S:MS)(H:Ax):Prop where
 rel:SRel S H
 base:S.base<=S.w.heap.size
 keep:∀b,X b->S.keep b
 im:∀b,I.S0.im b->S.im b
 apart:∀b,S.im b->I.S0.im b\/¬X b
 st:I.at_ s (λb=>b<S.w.heap.size/\¬X b/\¬I.S0.im b) S.w
theorem Now.on{I:Itr}{s:Option Nat}{X:Nat->Prop}{S S':MS}{H H':Ax}(h:I.Now s X S H)(e:Evo S S')(hr:SRel S' H'):I.Now s X S' H':=by
 have hX:∀b,X b->b<S.w.heap.size:=λb hb=>h.rel.im b (.inr (h.keep b hb));have hi0:∀b,I.S0.im b->b<S.w.heap.size:=λb hb=>h.rel.im b (.inl (h.im b hb));refine⟨hr,by rw[e.base];exact Bb h.base e.size,λb hb=>e.keep b (h.keep b hb),λb hb=>e.im b (h.im b hb),λb hb=>?_,?_⟩
 ·rcases e.fresh b hb with hh|hh
  ·exact h.apart b hh
  ·exact .inr λhx=>hh (h.keep b hx)
 ·have ho:(λb=>b<S'.w.heap.size/\¬X b/\¬I.S0.im b)=λb=>(b<S.w.heap.size/\¬X b/\¬I.S0.im b)\/(S.w.heap.size<=b/\b<S'.w.heap.size):=by
   funext b;refine propext ⟨λ⟨h1,h2,h3⟩=>?_,λhh=>?_⟩
   ·rcases Ah b S.w.heap.size with hl|hl
    ·exact .inl ⟨hl,h2,h3⟩
    ·exact .inr ⟨hl,h1⟩
   ·rcases hh with⟨h1,h2,h3⟩|⟨h1,h2⟩
    ·exact⟨AT h1 e.size,h2,h3⟩
    ·exact⟨h2,λhx=>by have:=hX b hx;omega,λhx=>by have:=hi0 b hx;omega⟩
  rw[ho]
  have hk:∀b,b<S.w.heap.size->¬(b<S.w.heap.size/\¬X b/\¬I.S0.im b)->S'.w.heap[b]? = S.w.heap[b]? := λb hb hn=>by
   by_cases hx:X b
   ·exact e.kept b (.inr (h.keep b hx))
   ·by_cases hi:I.S0.im b
    ·exact e.kept b (.inl (h.im b hi))
    ·exact absurd ⟨hb,hx,hi⟩ hn
  cases s with
  |some k=>exact I.cJ k _ _ _ h.st e.os e.tape e.output e.size hk
  |none=>obtain⟨k,hj⟩:=h.st;exact⟨k,I.cx k _ _ _ hj e.os e.tape e.output e.size hk⟩
theorem Now.round{I:Itr}{k:Nat}{X:Nat->Prop}{S:MS}{H:Ax}(h:I.Now (some k) X S H){W':World}{s':Option Nat}(hsz:S.w.heap.size<=W'.heap.size)(ho:∀b,b<S.w.heap.size/\¬X b/\¬I.S0.im b->W'.heap[b]? = S.w.heap[b]?)
 (hi:∀b,I.S0.im b->W'.heap[b]? = S.w.heap[b]?) (hst:I.at_ s' (λb=>b<S.w.heap.size/\¬X b/\¬I.S0.im b) W') :
 ∃S',S'.w=W'/\I.Now s' (λb=>X b\/(S.w.heap.size<=b/\b<W'.heap.size)) S' H/\Evi S S':=by
 obtain⟨S',hd⟩:∃S':MS,S'={ S with w:=W',keep:=λb=>S.keep b\/(S.w.heap.size<=b/\b<W'.heap.size) }:=⟨_,rfl⟩;have hX:∀b,X b->b<S.w.heap.size:=λb hb=>h.rel.im b (.inr (h.keep b hb));have him:∀b,S.im b->b<S.w.heap.size:=λb hb=>h.rel.im b (.inl hb);have hi0:∀b,I.S0.im b->b<S.w.heap.size:=λb hb=>him b (h.im b hb)
 have hw:∀b,S.im b->W'.heap[b]? = S.w.heap[b]? := λb hb=>by
  by_cases h0:I.S0.im b
  ·exact hi b h0
  ·exact ho b ⟨him b hb,(h.apart b hb).resolve_left h0,h0⟩
 refine⟨S',by rw[hd],⟨?_,?_,?_,?_,?_,?_⟩,?_⟩
 ·subst hd
  exact h.rel.turn2 hw rfl rfl rfl rfl rfl rfl (λb hb=>hb.imp id And.left) (λb hb=>hb.elim (λhh=>AT (h.rel.im b (.inr hh)) hsz) And.right)
   (λb hb hl=>ho b ⟨hl,λhx=>hb (.inr (h.keep b hx)),λhx=>hb (.inl (h.im b hx))⟩) hsz
 ·subst hd;exact Bb h.base hsz
 ·subst hd;exact λb hb=>hb.imp (h.keep b) id
 ·subst hd;exact h.im
 ·subst hd
  intro b hb;rcases h.apart b hb with hh|hh
  ·exact .inl hh
  ·exact .inr λhx=>hx.elim hh λhx=>by have:=him b hb;omega
 ·subst hd
  have e:(λb=>b<W'.heap.size/\¬(X b\/(S.w.heap.size<=b/\b<W'.heap.size))/\¬I.S0.im b)=λb=>b<S.w.heap.size/\¬X b/\¬I.S0.im b:=by
   funext b;refine propext ⟨λ⟨h1,h2,h3⟩=>⟨?_,λhx=>h2 (.inl hx),h3⟩,λ⟨h1,h2,h3⟩=>⟨by omega,λhx=>hx.elim h2 (λhh=>by omega),h3⟩⟩;rcases Ah b S.w.heap.size with hl|hl
   ·exact hl
   ·exact absurd (.inr ⟨hl,h1⟩) h2
  show I.at_ s' _ W';rw[e];exact hst
 ·subst hd
  exact Evi.of hw rfl rfl rfl rfl rfl rfl
end Itr
def L8(I:Itr)(n:Nat)(Q:Option Nat->Ex->Env->Ax->Prop)(e:Exit)(a:Act)(w:World):Prop :=
 ∃S' env H' x s X,S'.w=w/\I.Now s X S' H'/\FRel S' n env a/\a.defers=[]/\e=Ex.up x/\Q s x env H'
def TI(I:Itr)(n:Nat)(c:AC)(s:Option Nat)(env:Env)(H:Ax)(Q:Option Nat->Ex->Env->Ax->Prop):Prop :=
 ∀code,E7 I.P n code=some c->∀S a X,I.Now s X S H->FRel S n env a->a.defers=[]->code.wpIn (fen none) (I.m+1) I.P (L8 I n Q) a S.w
section
variable {I:Itr}{n:Nat}{s:Option Nat}{env:Env}{H:Ax}{Q:Option Nat->Ex->Env->Ax->Prop}
theorem zby{F:Fence}{mm:Nat}{c:Code}{a:Act}{w:World}(h:c.wpIn F mm I.P (L8 I n Q) a w):(Code.scope c).wpIn F mm I.P (L8 I n Q) a w:=by
 refine Ho (wpIn_mono h λe a w hh=>?_);obtain⟨S2,env,H',y,s,X,h1,h2,h3,h4,h5,h6⟩:=hh;subst h5;cases y<;>exact⟨S2,env,H',_,s,X,h1,h2,h3,h4,rfl,h6⟩
theorem SA{c:AC}(h:∀code,E7 I.P n code=some c->(∀d,code≠.scope d)->∀S a X,I.Now s X S H->FRel S n env a->a.defers=[]->code.wpIn (fen none) (I.m+1) I.P (L8 I n Q) a S.w):TI I n c s env H Q:=by
 intro code
 induction code with
 |scope d ih=>exact λhc S a X hN hF hd=>zby (ih (by simpa [E7] using hc) S a X hN hF hd)
 |skip=>exact λhc=>h _ hc (by simp)
 |region=>exact λhc=>h _ hc (by simp)
 |seq=>exact λhc=>h _ hc (by simp)
 |cond=>exact λhc=>h _ hc (by simp)
 |block=>exact λhc=>h _ hc (by simp)
 |loop=>exact λhc=>h _ hc (by simp)
 |rangeFunc=>exact λhc=>h _ hc (by simp)
 |exit=>exact λhc=>h _ hc (by simp)
 |label=>exact λhc=>h _ hc (by simp)
 |goto=>exact λhc=>h _ hc (by simp)
 |ret=>exact λhc=>h _ hc (by simp)
 |refuse=>exact λhc=>h _ hc (by simp)
theorem zjg(h:Q s .normal env H):TI I n .skip s env H Q:=SA λcode hc hs S a X hN hF hd=>by
 have hA:L8 I n Q .normal a S.w:=⟨S,env,H,.normal,s,X,rfl,hN,hF,hd,rfl,h⟩;cases code<;>simp only[E7,reduceCtorEq,Aq] at hc
 case skip=>exact wpIn_skip hA
 case label=>exact wpIn_label hA
 case region=>exact absurd hc Dm
 case seq=>split at hc<;>cases hc
 case cond=>split at hc<;>cases hc
 case block=>obtain⟨_,_,h⟩:=Ag.1 hc;cases h
 case loop=>obtain⟨_,_,h⟩:=Ag.1 hc;cases h
 case rangeFunc=>split at hc<;>cases hc
 case scope d=>exact absurd rfl (hs d)
theorem zjh{id:Nat}(h:Q s (.exit id) env H):TI I n (.exit id) s env H Q:=SA λcode hc hs S a X hN hF hd=>by
 cases code<;>simp only[E7,reduceCtorEq,Aq] at hc
 case exit k=>cases hc;exact wpIn_exit ⟨S,env,H,.exit id,s,X,rfl,hN,hF,hd,rfl,h⟩
 case region=>exact absurd hc Dm
 case seq=>split at hc<;>cases hc
 case cond=>split at hc<;>cases hc
 case block=>obtain⟨_,_,h⟩:=Ag.1 hc;cases h
 case loop=>obtain⟨_,_,h⟩:=Ag.1 hc;cases h
 case rangeFunc=>split at hc<;>cases hc
 case scope d=>exact absurd rfl (hs d)
theorem zo1(h:Q s .ret env H):TI I n .ret s env H Q:=SA λcode hc hs S a X hN hF hd=>by
 cases code<;>simp only[E7,reduceCtorEq,Aq] at hc
 case ret=>exact wpIn_ret ⟨S,env,H,.ret,s,X,rfl,hN,hF,hd,rfl,h⟩
 case region=>exact absurd hc Dm
 case seq=>split at hc<;>cases hc
 case cond=>split at hc<;>cases hc
 case block=>obtain⟨_,_,h⟩:=Ag.1 hc;cases h
 case loop=>obtain⟨_,_,h⟩:=Ag.1 hc;cases h
 case rangeFunc=>split at hc<;>cases hc
 case scope d=>exact absurd rfl (hs d)
def Ex.thenI(K:Option Nat->Env->Ax->Prop)(Q:Option Nat->Ex->Env->Ax->Prop):Option Nat->Ex->Env->Ax->Prop
 |s,.normal,env,H=>K s env H
 |s,x,env,H=>Q s x env H
theorem HA{x y:AC}(h:TI I n x s env H (Ex.thenI (λs' env' H'=>TI I n y s' env' H' Q) Q)):TI I n (.seq x y) s env H Q:=SA λcode hc hs S a X hN hF hd=>by
 cases code<;>simp only[E7,reduceCtorEq,Aq] at hc
 case seq c d =>
  split at hc
  ·rename_i x' y' hx hy
   cases hc;refine wpIn_seq (wpIn_mono (h c hx S a X hN hF hd) λe a' w' hh=>?_);obtain⟨S2,env2,H2,z,s2,X2,rfl,hN2,hF2,hd2,rfl,hq⟩:=hh;cases z with
   |normal=>exact hq d hy S2 a' X2 hN2 hF2 hd2
   |exit id=>exact⟨S2,env2,H2,.exit id,s2,X2,rfl,hN2,hF2,hd2,rfl,hq⟩
   |ret=>exact⟨S2,env2,H2,.ret,s2,X2,rfl,hN2,hF2,hd2,rfl,hq⟩
  ·cases hc
 case region=>exact absurd hc Dm
 case cond=>split at hc<;>cases hc
 case block=>obtain⟨_,_,h⟩:=Ag.1 hc;cases h
 case loop=>obtain⟨_,_,h⟩:=Ag.1 hc;cases h
 case rangeFunc=>split at hc<;>cases hc
 case scope d=>exact absurd rfl (hs d)
theorem zji{c:AArg}{x y:AC}{q:Bool}(hc:c.eval env=.bool q)(ht:q=true->TI I n x s env H Q)(hf:q=false->TI I n y s env H Q):TI I n (.cond c x y) s env H Q:=SA λcode hcc hs S a X hN hF hd=>by
 cases code<;>simp only[E7,reduceCtorEq,Aq] at hcc
 case cond z p q' =>
  split at hcc
  ·rename_i z' p2 q2 hz hp hq
   cases hcc;have hv:=RG hF hz;rw[hc] at hv;exact wpIn_cond_split (t:=q) hv (λhbb=>ht hbb p hp S a X hN hF hd) (λhbb=>hf hbb q' hq S a X hN hF hd)
  ·cases hcc
 case region=>exact absurd hcc Dm
 case seq=>split at hcc<;>cases hcc
 case block=>obtain⟨_,_,h⟩:=Ag.1 hcc;cases h
 case loop=>obtain⟨_,_,h⟩:=Ag.1 hcc;cases h
 case rangeFunc=>split at hcc<;>cases hcc
 case scope d=>exact absurd rfl (hs d)
def Ex.inBlockI(id:Nat)(Q:Option Nat->Ex->Env->Ax->Prop):Option Nat->Ex->Env->Ax->Prop
 |s,.exit k,env,H=>if k=id then Q s .normal env H else Q s (.exit k) env H
 |s,x,env,H=>Q s x env H
theorem IB{id:Nat}{c:AC}(h:TI I n c s env H (Ex.inBlockI id Q)):TI I n (.block id c) s env H Q:=SA λcode hc hs S a X hN hF hd=>by
 cases code<;>simp only[E7,reduceCtorEq,Aq] at hc
 case block k d =>
  obtain⟨x,hx,hh⟩:=Ag.1 hc;cases hh;refine wpIn_block (wpIn_mono (h d hx S a X hN hF hd) λe a' w' hh=>?_);obtain⟨S2,env2,H2,z,s2,X2,h1,hN2,hF2,hd2,rfl,hq⟩:=hh;cases z with
  |normal=>exact⟨S2,env2,H2,.normal,s2,X2,h1,hN2,hF2,hd2,rfl,hq⟩
  |exit j =>
   simp only[Ex.up,Exit.inBlock];simp only[Ex.inBlockI] at hq;split
   ·rename_i hj;rw[Ae hj] at hq;exact⟨S2,env2,H2,.normal,s2,X2,h1,hN2,hF2,hd2,rfl,hq⟩
   ·rename_i hj;rw[Ac hj] at hq;exact⟨S2,env2,H2,.exit j,s2,X2,h1,hN2,hF2,hd2,rfl,hq⟩
  |ret=>exact⟨S2,env2,H2,.ret,s2,X2,h1,hN2,hF2,hd2,rfl,hq⟩
 case region=>exact absurd hc Dm
 case seq=>split at hc<;>cases hc
 case cond=>split at hc<;>cases hc
 case loop=>obtain⟨_,_,h⟩:=Ag.1 hc;cases h
 case rangeFunc=>split at hc<;>cases hc
 case scope d=>exact absurd rfl (hs d)
theorem WJ{σ:Type}(Inv:σ->Option Nat->Env->Ax->Prop)(μ:σ->Nat){c:AC}(s0:σ)(h0:Inv s0 s env H)
 (round:∀t s env H,Inv t s env H->TI I n c s env H (Ex.thenI (λs' env' H'=>∃t',Inv t' s' env' H'/\μ t'<μ t) Q)):TI I n (.loop c) s env H Q:=SA λcode hc hs S a X hN hF hd=>by
 cases code<;>simp only[E7,reduceCtorEq,Aq] at hc
 case loop d =>
  obtain⟨x,hx,hh⟩:=Ag.1 hc;cases hh;refine wpIn_loop_ghost (λk a w=>∃S' t s env H X,S'.w=w/\I.Now s X S' H/\FRel S' n env a/\a.defers=[]/\Inv t s env H/\μ t=k) (μ s0) ⟨S,s0,s,env,H,X,rfl,hN,hF,hd,h0,rfl⟩ ?_;rintro k a w ⟨S1,t,s1,env1,H1,X1,rfl,hN1,hF1,hd1,hI,rfl⟩;refine wpIn_mono (round t s1 env1 H1 hI d hx S1 a X1 hN1 hF1 hd1) λe a' w' hh=>?_;obtain⟨S2,env2,H2,z,s2,X2,rfl,hN2,hF2,hd2,rfl,hq⟩:=hh;cases z with
  |normal =>
   obtain⟨t',h1,h2⟩:=hq;exact⟨μ t',h2,S2,t',s2,env2,H2,X2,rfl,hN2,hF2,hd2,h1,rfl⟩
  |exit id=>exact⟨S2,env2,H2,.exit id,s2,X2,rfl,hN2,hF2,hd2,rfl,hq⟩
  |ret=>exact⟨S2,env2,H2,.ret,s2,X2,rfl,hN2,hF2,hd2,rfl,hq⟩
 case region=>exact absurd hc Dm
 case seq=>split at hc<;>cases hc
 case cond=>split at hc<;>cases hc
 case block=>obtain⟨_,_,h⟩:=Ag.1 hc;cases h
 case rangeFunc=>split at hc<;>cases hc
 case scope d=>exact absurd rfl (hs d)
theorem zo2{ops:List AOp}(h:runK I.P ops env H λenv' H'=>Q s .normal env' H'):TI I n (.reg ops) s env H Q:=SA λcode hc hs S a X hN hF hd=>by
 cases code<;>simp only[E7,reduceCtorEq,Aq] at hc
 case region id l draw =>
  split at hc
  ·rename_i r hr
   obtain⟨hd',rfl⟩:=Ky hc;subst hd';refine wpIn_region ?_;have:=Ii (ops:=l) (rd:=none) (m:=I.m+1) (Q:=L8 I n Q) [] l.toList ops 0 (by simp) hr hN.rel hF h (λS' H' env' a' e hS' hF' hdd hK=>⟨S',env',H',.normal,s,X,rfl,hN.on e hS',hF',hdd.trans hd,rfl,hK⟩);rw[ER];simpa using this
  ·cases hc
 case seq=>split at hc<;>cases hc
 case cond=>split at hc<;>cases hc
 case block=>obtain⟨_,_,h⟩:=Ag.1 hc;cases h
 case loop=>obtain⟨_,_,h⟩:=Ag.1 hc;cases h
 case rangeFunc=>split at hc<;>cases hc
 case scope d=>exact absurd rfl (hs d)
theorem QE{α β:Type}{f:α->Option β}:∀(p:List β){l:List α}{y:β}{q:List β},l.mapM f=some (p++y::q)->∃l1 o l2,l=l1++o::l2/\l1.mapM f=some p/\f o=some y/\l2.mapM f=some q
 |[],l,y,q,h=>by
  cases l with
  |nil=>simp at h
  |cons o l =>
   rw[BM] at h;simp only[Option.bind_eq_bind,B2,Option.pure_def,Aq,List.nil_append,Fe] at h;obtain⟨y',hy,r,hr,rfl,rfl⟩:=h;exact⟨[],o,l,rfl,rfl,hy,hr⟩
 |z::p,l,y,q,h=>by
  cases l with
  |nil=>simp at h
  |cons o l =>
   rw[BM] at h;simp only[Option.bind_eq_bind,B2,Option.pure_def,Aq,List.cons_append,Fe] at h;obtain⟨z',hz,r,hr,rfl,rfl⟩:=h;obtain⟨l1,o',l2,rfl,h1,h2,h3⟩:=QE p hr;exact⟨o::l1,o',l2,rfl,by rw[BM,hz,h1];rfl,h2,h3⟩
theorem z0e{P:Program}{op:Op}(h:C7 P op=some .call):∃g args argTypes,op=.call { callee:=.value g,args,argTypes }:=by
 replace h:=I3 h (by simp);cases op
 case call c =>
  obtain⟨callee,args,argTypes⟩:=c;cases callee<;>simp only[EV,Fh,reduceCtorEq] at h
  case value g=>exact⟨g,args,argTypes,rfl⟩
  case builtin b =>
   repeat' split at h
   all_goals first
    |(cases h;done)
    |(simp at h;done)
 all_goals simp only[EV,reduceCtorEq] at h
 all_goals repeat' split at h
 all_goals first
  |contradiction
  |(cases h;done)
  |(obtain⟨⟨_,_⟩,_,h⟩:=Ag.1 h;cases h;done)
  |(obtain⟨_,_,h⟩:=Ag.1 h;cases h;done)
  |(simp at h;done)
def zo3(x:AV):Prop:=∀S v,VRel S x v->v=valOf x
theorem QF{S:MS}:∀{xs:List AV}{vs:List Value},(∀x∈xs,zo3 x)->AA S xs vs->vs=xs.map valOf
 |[],vs,_,h=>h
 |x::xs,vs,hf,⟨v,r,hv,h1,h2⟩=>by
  rw[hv,hf x (by simp) S v h1,QF (λy hy=>hf y (by simp[hy])) h2];rfl
theorem Y6{pre post:List AOp}{y:AOp}{k:Nat}(hk:y.k=.call)(hg:y.guard=none)
 (h:runK I.P pre env H λenv1 H1=>∃row,y.vals env1=.yld I.l::row/\(∀x∈row,zo3 x)/\I.rows[k]? = some row /\
  runK I.P post (env1.put y.dst (.bool true)) H1 (λenv2 H2=>Q (some (k+1)) .normal env2 H2)/\runK I.P post (env1.put y.dst (.bool false)) H1 (λenv2 H2=>Q none .normal env2 H2)) :
 TI I n (.reg (pre++y::post)) (some k) env H Q:=SA λcode hc hs S a X hN hF hd=>by
 cases code<;>simp only[E7,reduceCtorEq,Aq] at hc
 case region id l draw =>
  split at hc
  ·rename_i r hr
   obtain⟨hd',hrr⟩:=Ky hc;subst hrr;subst hd';refine wpIn_region ?_;obtain⟨l1,o,l2,hl,h1,h2,h3⟩:=QE pre hr;have hsz:l.size=l1.length+(l2.length+1):=by rw[<-Array.length_toList,hl];simp
   rw[ER,hsz,List.range'_append_1 |>.symm];have hat:∀j:Nat,l[j]? = (l1++o::l2)[j]? := λj=>by rw[<-hl,EG]
   refine Ii (ops:=l) (rd:=none) (m:=I.m+1) (Q:=L8 I n Q) _ l1 pre 0 (λj hj=>by rw[Ba,hat,A8 hj]) h1 hN.rel hF h (λS1 H1 env1 a1 e1 hS1 hF1 hd1 hK=>?_);obtain⟨row,hv,hfx,hrow,ht,hff⟩:=hK;have hN1:=hN.on e1 hS1;have ho:l[l1.length]? = some o:=by rw[hat];simp
   rw[show List.range' (0+l1.length) (l2.length+1)=l1.length::List.range' (l1.length+1) l2.length from by rw[Ba];rfl];simp only[wpOpsIn,ho];obtain⟨c1,c2,c3,c4,c5⟩:=Ce h2
   have hw:Region.wanted o (yielded l a1.tmps)=true:=by
    rcases c5 with⟨g1,_⟩|⟨j,want,d,g1,g2,_⟩
    ·simp[Region.wanted,g1]
    ·rw[hg] at g2;cases g2
   rw[hw];simp only[AY];have hargs:=JC hF1 c2;rw[show y.args.map (·.eval env1)=y.vals env1 from rfl,hv] at hargs
   rw[hk] at c1;obtain⟨g,args,argTypes,hop⟩:=z0e c1;obtain⟨fn,tm,asg,bd,hy,hR⟩:=I.round k row _ _ hrow hN1.st
   have hrun:(o.semAt (fen none).round a1.eval).run I.P S1.w=.ok (.round I.l fn tm asg bd) S1.w:=by
    rw[show (fen none).round=none from rfl,Oper.semAt_none];rw[hop] at hargs;have hargs':AA S1 (.yld I.l::row) (a1.eval g::args.toList.map a1.eval):=by simpa [Op.operands,Call.operands] using hargs
    obtain⟨v,vs,hvv,hv1,hv2⟩:=hargs';cases hvv;have hvs:=QF hfx hv2;have hv1':a1.eval g=.func (.yield I.l) #[] #[]:=hv1;have e:args.map a1.eval=encI row:=by apply EE;simp[hvs]
    have hex:execOp a1.eval o=(do let d <-Deferred.ofValue (a1.eval g) (args.map a1.eval);invoke d.target d.args:Sem Next):=by
     cases o;simp only at hop;subst hop;rfl
    rw[hex,e,hv1'];simp only[Deferred.ofValue,Sem.run_bind,Sem.run_pure,Result.andThen_ok,invoke];simpa using hy
   refine⟨λ_ _=>trivial,?_⟩;rw[hrun,Oper.uponIn_round];refine⟨λh=>(by cases h),?_⟩;refine RoundIn.mono (F:=fen none) (n:=I.m) hR λe W' hh=>?_;obtain⟨hsz',ho',hcase⟩:=hh;have hf0:=(I.fact k _ _ (.inl hN1.st)).1;have hdef:a1.defers=[]:=hd1.trans hd
   have hgo:∀(bv:Bool)(s':Option Nat),I.at_ s' (λb=>b<S1.w.heap.size/\¬X b/\¬I.S0.im b) W'->(∀b,I.S0.im b->W'.heap[b]? = I.S0.w.heap[b]?) ->
    runK I.P post (env1.put y.dst (.bool bv)) H1 (λenv2 H2=>Q s' .normal env2 H2)->wpOpsIn (fen none) (I.m+1) I.P l (L8 I n Q) (List.range' (l1.length+1) l2.length) (a1.put o.dst (.bool bv)) W':=λbv s' hst him hrk=>by
    obtain⟨S2,hw2,hN2,ev2⟩:=hN1.round hsz' ho' (λb hb=>(him b hb).trans ((hf0 b hb).2).symm) hst;have hF2:FRel S2 n env1 a1:=⟨hF1.size,by rw[hdef];exact Marks.nil hN2.base,λi hi=>VRel.moni ev2 _ (hF1.val i hi)⟩;have hF3:=hF2.put (dst:=y.dst) (by rw[c3];exact c4) (x:=.bool bv) (v:=.bool bv) rfl;rw[c3] at hF3;rw[c3] at hrk;rw[<-hw2]
    have:=Ii (ops:=l) (rd:=none) (m:=I.m+1) (Q:=L8 I n Q) [] l2 post (l1.length+1) (λj hj=>by rw[hat,AB (by omega),show l1.length+1+j-l1.length=j+1 from by omega];rfl) h3 hN2.rel hF3 hrk
     (λS' H' env' a' e hS' hF' hdd hK=>⟨S',env',H',.normal,s',_,rfl,hN2.on e hS',hF',hdd.trans ((put_defers _ _ _).trans hdef),rfl,hK⟩)
    simpa using this
   rcases hcase with⟨rfl,hj⟩|⟨rfl,hj⟩
   ·exact hgo true (some (k+1)) hj (λb hb=>((I.fact _ _ _ (.inl hj)).1 b hb).2) ht
   ·exact hgo false none ⟨_,hj⟩ (λb hb=>((I.fact _ _ _ (.inr hj)).1 b hb).2) hff
  ·cases hc
 case seq=>split at hc<;>cases hc
 case cond=>split at hc<;>cases hc
 case block=>obtain⟨_,_,h⟩:=Ag.1 hc;cases h
 case loop=>obtain⟨_,_,h⟩:=Ag.1 hc;cases h
 case rangeFunc=>split at hc<;>cases hc
 case scope d=>exact absurd rfl (hs d)
theorem z5g{P:Program}{gf:Nat}{caps:List AV}{rows:List (List AV)}{fn:AFn}(hf:AS P gf (caps.length+1)=some fn)
 (h:∀I:Itr,I.P=P->I.rows=rows->TI I fn.n fn.body (some 0) (entry (.yld I.l::caps)) Ax.nil (λs x env H=>Ret P fn.res (λ_ _=>True) x env H/\(s=some rows.length\/s=none))):Um P gf caps rows:=by
 refine⟨enters_of hf,λm l S0 lb J Jx hS0 hx0 cJ cx hj fact round=>?_⟩;obtain⟨F,c,hF,hb,hn,hc,hr,hnp,_⟩:=Kz hf;obtain⟨S,hSd⟩:∃S:MS,S={ S0 with base:=S0.w.heap.size,keep:=λb=>b<S0.w.heap.size/\¬S0.im b }:=⟨_,rfl⟩;have ev0:Evi S0 S:=by subst hSd;exact Evi.of (λ_ _=>rfl) rfl rfl rfl rfl rfl rfl
 have hw0:S.w=S0.w:=by rw[hSd]
 have hS:SRel S Ax.nil:=by
  subst hSd;exact⟨hS0.n,λg hg=>absurd hg (AP _),λg _ hg=>absurd hg (AP _),λb hb=>hb.elim (λh=>hS0.im b (.inl h)) And.left⟩
 have hx:AA S caps lb:=AA.moni ev0 _ hx0;have hlen:=hx.length
 let I:Itr:=⟨P,l,m,rows,S0,J,Jx,cJ,cx,fact,round⟩
 have hN:I.Now (some 0) (λb=>b<S0.w.heap.size/\¬S0.im b) S Ax.nil:=by
  refine⟨hS,by rw[hSd];exact Af _,λb hb=>by rw[hSd];exact hb,λb hb=>by rw[hSd];exact hb,λb hb=>.inl (by rw[hSd] at hb;exact hb),?_⟩
  have e:(λb=>b<S.w.heap.size/\¬(b<S0.w.heap.size/\¬S0.im b)/\¬I.S0.im b)=λ_=>False:=by
   funext b;refine propext ⟨λ⟨h1,h2,h3⟩=>h2 ⟨by rw[hw0] at h1;exact h1,h3⟩,False.elim⟩
  rw[e,hw0];exact hj
 refine callsIn_of_wp_marks (F:=Fence.wide) (n:=m+1) hF hb trivial ?_
 have hfr:FRel S fn.n (entry (.yld l::caps)) { tmps:=(#[Value.func (.yield l) #[] #[]]++lb.toArray)++Array.replicate (F.ntmps-(#[Value.func (.yield l) #[] #[]]++lb.toArray).size) undef,defers:=[] }:=by
  have hx':AA S (.yld l::caps) (.func (.yield l) #[] #[]::lb):=⟨_,_,rfl,rfl,hx⟩;refine⟨by simp;omega,Marks.nil hN.base,λi hi=>?_⟩;by_cases hlt:i<(AV.yld l::caps).length
  ·obtain⟨v,hv,hr⟩:=hx'.get (Ak hlt)
   have e1:entry (.yld l::caps) i=(AV.yld l::caps)[i]:=by simp[entry,List.getD,Ak hlt]
   have e2:((#[Value.func (.yield l) #[] #[]]++lb.toArray)++Array.replicate (F.ntmps-(#[Value.func (.yield l) #[] #[]]++lb.toArray).size) undef).getD i undef=v:=by
    have hsz:i<(#[Value.func (.yield l) #[] #[]]++lb.toArray).size:=by simp at hlt ⊢;omega
    rw[Dw,BG hsz];have:(#[Value.func (.yield l) #[] #[]]++lb.toArray)[i]? = (Value.func (.yield l) #[] #[]::lb)[i]? := by simp
    rw[this,hv];rfl
   rw[e1,e2];exact hr
  ·have e1:entry (.yld l::caps) i=.any:=by simp[entry,List.getD,B5 (FQ hlt)]
   rw[e1];trivial
 rw[<-hw0];refine wpIn_mono (h I rfl rfl c hc S _ _ hN hfr rfl) λe a w' hh=>?_;obtain⟨S2,env2,H2,z,s2,X2,rfl,hN2,hF2,hd2,rfl,⟨hq,hres⟩,hst⟩:=hh
 have fin:LeavesInM Fence.wide (m+1) P F a.tmps (λe W'=>(∃v,e=.returned v)/\((∃O,J rows.length O W')\/∃k O,Jx k O W')) a.defers .returning S2.w:=by
  rw[hd2];refine IZ [] S2.w De (λD hd=>by cases hd) ?_;obtain⟨vs,ys,h1,h2,h3⟩:=JE hN2.rel hF2 hr hres;refine⟨if h:vs.toArray.size=1 then vs.toArray[0] else .tuple vs.toArray,?_,⟨_,rfl⟩,?_⟩
  ·have e:results F a.tmps=(do let vs <-F.results.mapM (Qq a.tmps);pure (if h:vs.size=1 then vs[0] else .tuple vs)):=by
    unfold results;congr
   rw[e,Ec];show Sem.run P _ S2.w=_;simp only[Sem.run_bind,Sem.run_map,h1,Result.andThen_ok,Sem.run_pure];rfl
  ·have:=hN2.st
   rcases hst with rfl|rfl
   ·exact .inl ⟨_,this⟩
   ·obtain⟨k,hk⟩:=this;exact .inr ⟨k,_,hk⟩
 cases z with
 |normal=>exact fin
 |exit id=>exact hq.elim
 |ret=>exact fin
end
end Go.Proofs.YtbcjoeadpjfcfaaGreat.Abs
namespace Go.Proofs.YtbcjoeadpjfcfaaGreat
open Abs O1 O2 O3
def domL(s:Int):List Span:=if s=1 then [⟨0,255⟩] else if s=2 then [⟨0,55295⟩,⟨57344,1114111⟩] else []
theorem JH(a:Int):PC Tryz.prog 113 [.int .i64 a] (F4 ⟨a,0,21,0⟩):=by
 refine BA UD ?_;unfold MI;(with_reducible repeat'(first|simp (disch:=omega) only[push_cast,↓zz,seval]|apply Aa|refine sp_ ?_ ?_<;>intro hc<;>push_cast at hc|omega|intro _))
def EK(p:Part):Bool:=decide (0<=p.drop/\p.drop<21/\1<=p.take/\p.take<=21/\0<=p.up/\p.up<21/\(p.up=0\/p.take<=6))
theorem Ik(p:Part):PC Tryz.prog 153 [F4 p] (.bool (EK p)):=by
 refine BA W5 ?_;unfold OC;(with_reducible repeat'(first|simp (disch:=omega) only[push_cast,↓zz,seval]|apply Aa|refine sp_ ?_ ?_<;>intro hc<;>push_cast at hc|omega|intro _))
 all_goals (unfold EK;first|(refine NS ?_;omega)|(refine NT ?_;omega)|(refine Ja ?_;omega))
theorem JI(p:Part):PC Tryz.prog 164 [F4 p] (.bool (EK p)):=by
 refine BA UP ?_;unfold MV;(with_reducible repeat'(first|simp (disch:=omega) only[push_cast,↓zz,seval]|apply Aa|refine sp_ ?_ ?_<;>intro hc<;>push_cast at hc|omega|intro _))
 all_goals (unfold EK;first|(refine NS ?_;omega)|(refine NT ?_;omega)|(refine Ja ?_;omega))
def EC(p:Part)(n:Int):Bool:=decide (0<=p.at_/\p.at_<n)&&EK p
theorem Hh(p:Part)(n:Int):PC Tryz.prog 135 [F4 p,.int .i64 n] (.bool (EC p n)):=by
 refine BA UL ?_;unfold MP;(with_reducible repeat'(first|simp (disch:=omega) only[push_cast,↓zz,seval]|apply Aa|refine sp_ ?_ ?_<;>intro hc<;>push_cast at hc|(have q_:=Ik p;refine ee q_ ?_;clear q_)|(have q_:=Ik p;refine cc q_ ?_;clear q_;(simp(disch:=omega)only[push_cast,↓zz,seval]);(fail_if_success change False))|omega|intro _))
 all_goals (simp[EC, *]<;>omega)
theorem IC(p:Part)(n:Int):PC Tryz.prog 141 [F4 p,.int .i64 n] (.bool (EC p n)):=by
 refine BA Sp ?_;unfold Lu;(with_reducible repeat'(first|simp (disch:=omega) only[push_cast,↓zz,seval]|apply Aa|refine sp_ ?_ ?_<;>intro hc<;>push_cast at hc|(have q_:=JI p;refine ee q_ ?_;clear q_)|(have q_:=JI p;refine cc q_ ?_;clear q_;(simp(disch:=omega)only[push_cast,↓zz,seval]);(fail_if_success change False))|omega|intro _))
 all_goals (simp[EC, *]<;>omega)
theorem zo4(i:Nat)(h:i<=40):(1:Int)<=2 ^ i/\(2:Int) ^ i<=1099511627776 :=
 ⟨Db (by decide),by have:=BK (n:=2) (by decide) h;have e:((2 ^ i:Nat):Int)=2 ^ i:=(by simp);rw[<-e];omega⟩
theorem ID(n:Int)(h:0<=n/\n<=40):PC Tryz.prog 152 [.int .i64 n] (.int .i64 (2 ^ n.toNat)):=by
 refine BA W4 ?_;unfold OB;(with_reducible repeat'(first|simp (disch:=omega) only[push_cast,↓zz,seval]|apply Aa|refine sp_ ?_ ?_<;>intro hc<;>push_cast at hc|omega|intro _));refine AQ (AX (λ(i:Nat)=>(i:Int)<=n) (λi=>n.toNat-i) (λi=>[(0,.int .i64 n),(3,.int .i64 (2 ^ i)),(4,.int .i64 i)]) (λ_=>[]) (λ_ _=>[]) 0 (by omega) ?_ ?_)
 ·(with_reducible repeat'(first|simp (disch:=omega) only[push_cast,↓zz,seval]|apply Aa|refine sp_ ?_ ?_<;>intro hc<;>push_cast at hc|omega|intro _))
 intro i hi;refine W_T ?_;have hp:=zo4 (i+1);rw[Int.pow_succ] at hp;(with_reducible repeat'(first|simp (disch:=omega) only[push_cast,↓zz,seval]|apply Aa|refine sp_ ?_ ?_<;>intro hc<;>push_cast at hc|omega|intro _))
 ·refine⟨i+1,?_⟩
  have hp:=hp (by omega);(with_reducible repeat'(first|simp (disch:=omega) only[push_cast,↓zz,seval,Int.pow_succ]|apply Aa|refine sp_ ?_ ?_<;>intro hc<;>push_cast at hc|omega|intro _))
 ·obtain rfl:n=i:=by omega
  rfl
def valP(p:Part)(x:Int):Int:=x / 2 ^ p.drop.toNat % 2 ^ p.take.toNat * 2 ^ p.up.toNat
def valB(p:Part)(x:Int):Bool:=EK p&&decide (0<=x/\x<=2097151)
def val1(p:Part)(x:Int):Int:=if valB p x then valP p x else 0
abbrev valV(p:Part)(x:Int):AV:=.tup [.int .i64 (val1 p x),.bool (valB p x)]
theorem Ft{p:Part}:EK p=true↔(0<=p.drop/\p.drop<21/\1<=p.take/\p.take<=21/\0<=p.up/\p.up<21/\(p.up=0\/p.take<=6)):=by simp[EK]
theorem Il(d:Nat)(h:d<=21):(1:Int)<=2 ^ d/\(2:Int) ^ d<=2097152 :=
 ⟨Db (by decide),by have:=BK (n:=2) (by decide) h;have e:((2 ^ d:Nat):Int)=2 ^ d:=(by simp);rw[<-e];omega⟩
theorem zbz{p:Part}{x:Int}(hb:EK p=true)(hx:0<=x/\x<=2097151):
 IntKind.i64.wrap (JX .and .i64 (x.fdiv (2 ^ min p.drop.toNat IntKind.i64.bits)) (IntKind.i64.wrap (IntKind.i64.wrap (1 * 2 ^ min p.take.toNat IntKind.i64.bits)-1)) * 2 ^ min p.up.toNat IntKind.i64.bits)=valP p x:=by
 rw[Ft] at hb;have e1:min p.drop.toNat IntKind.i64.bits=p.drop.toNat:=D3 (by show _<=64;omega);have e2:min p.take.toNat IntKind.i64.bits=p.take.toNat:=D3 (by show _<=64;omega);have e3:min p.up.toNat IntKind.i64.bits=p.up.toNat:=D3 (by show _<=64;omega);rw[e1,e2,e3];have hd:=Il p.drop.toNat (by omega);have ht:=Il p.take.toNat (by omega);have hu:=Il p.up.toNat (by omega);rw[Int.one_mul,IntWalk.i64_in (2 ^ p.take.toNat) (by omega),IntWalk.i64_in (2 ^ p.take.toNat-1) (by omega),z38 _ _ (by omega)];have q0:0<=x / 2 ^ p.drop.toNat:=Ej hx.1 (by omega);have q1:x / 2 ^ p.drop.toNat<=x:=Int.ediv_le_self _ hx.1;have m0:=B1 (x / 2 ^ p.drop.toNat) (b:=2 ^ p.take.toNat) (by omega);have m1:=Bu (x / 2 ^ p.drop.toNat) (b:=2 ^ p.take.toNat) (by omega);rw[z3a p.take.toNat ⟨q0,by show _<(2:Int) ^ 64;omega⟩ (by show _<=64;omega) (IntWalk.i64_in _ (by omega))];refine IntWalk.i64_in _ ?_;have:x / 2 ^ p.drop.toNat % 2 ^ p.take.toNat * 2 ^ p.up.toNat<=2097152 * 2097152:=E4 (by omega) (by omega) (by omega) (by omega);have:0<=x / 2 ^ p.drop.toNat % 2 ^ p.take.toNat * 2 ^ p.up.toNat:=DO (by omega) (by omega);omega
theorem SB{p:Part}{x:Int}(hb:EK p=true)(hx:0<=x/\x<=2097151):valB p x=true/\val1 p x=valP p x:=by
 have:valB p x=true:=by simp only[valB,hb,AF,Ad];exact hx
 exact⟨this,by rw[val1,this];rfl⟩
theorem zo5{p:Part}{x:Int}(h:EK p=false\/x<0\/2097151<x):valB p x=false/\val1 p x=0:=by
 have:valB p x=false:=by
  simp only[valB,Bool.and_eq_false_iff,B3];rcases h with h|h
  ·exact .inl h
  ·exact .inr (by omega)
 exact⟨this,by rw[val1,this];rfl⟩
theorem zjj{p:Part}{x:Int}(hb:EK p=true)(hx:0<=x/\x<=2097151):IntKind.i64.wrap ((IntKind.i64.wrap (x.tdiv (2 ^ p.drop.toNat))).tmod (2 ^ p.take.toNat) * 2 ^ p.up.toNat)=valP p x:=by
 rw[Ft] at hb;have hd:=Il p.drop.toNat (by omega);have ht:=Il p.take.toNat (by omega);have hu:=Il p.up.toNat (by omega);have q0:0<=x / 2 ^ p.drop.toNat:=Ej hx.1 (by omega);have q1:x / 2 ^ p.drop.toNat<=x:=Int.ediv_le_self _ hx.1;have m0:=B1 (x / 2 ^ p.drop.toNat) (b:=2 ^ p.take.toNat) (by omega);have m1:=Bu (x / 2 ^ p.drop.toNat) (b:=2 ^ p.take.toNat) (by omega);rw[IntWalk.i64_quo _ _ (by omega),IntWalk.rem_in _ _ q0];refine IntWalk.i64_in _ ?_;have:x / 2 ^ p.drop.toNat % 2 ^ p.take.toNat * 2 ^ p.up.toNat<=2097152 * 2097152:=E4 (by omega) (by omega) (by omega) (by omega);have:0<=x / 2 ^ p.drop.toNat % 2 ^ p.take.toNat * 2 ^ p.up.toNat:=DO (by omega) (by omega);omega
theorem SC{p:Part}{x:Int}(h:EK p=false\/x<0\/2097151<x):valV p x=.tup [.int .i64 0,.bool false]:=by
 obtain⟨h1,h2⟩:=zo5 h;simp only[valV,h1,h2]
theorem WK{p:Part}{x:Int}(hb:EK p=true)(hx:0<=x/\x<=2097151):valV p x=.tup [.int .i64 (valP p x),.bool true]:=by
 obtain⟨h1,h2⟩:=SB hb hx;simp only[valV,h1,h2]
theorem Im(p:Part)(x:Int):PC Tryz.prog 136 [F4 p,.int .i64 x] (valV p x):=by
 refine BA UM ?_;unfold MQ;(with_reducible repeat'(first|simp (disch:=omega) only[push_cast,↓zz,seval]|apply Aa|refine sp_ ?_ ?_<;>intro hc<;>push_cast at hc|(have q_:=Ik p;refine ee q_ ?_;clear q_)|(have q_:=Ik p;refine cc q_ ?_;clear q_;(simp(disch:=omega)only[push_cast,↓zz,seval]);(fail_if_success change False))|omega|intro _))
 all_goals first|(have hb:=Ft.1 ‹EK p=true›;omega)|(rw[SC (.inl ‹_›)];(repeat'(first|(simp(disch:=omega)only[push_cast,↓zz,seval,Dq])|omega|(with_reducible refine Aa ?_ ?_)));done)|(rw[SC (.inr (by omega))];(repeat'(first|(simp(disch:=omega)only[push_cast,↓zz,seval,Dq])|omega|(with_reducible refine Aa ?_ ?_)));done)|(rw[WK ‹_› (by omega)];(repeat'(first|(simp(disch:=omega)only[push_cast,↓zz,seval,Dq])|omega|(with_reducible refine Aa ?_ ?_)));exact zbz ‹_› (by omega))
theorem Ht(p:Part)(x:Int):PC Tryz.prog 142 [F4 p,.int .i64 x] (valV p x):=by
 refine BA Sq ?_;unfold Lv;(with_reducible repeat'(first|simp (disch:=omega) only[push_cast,↓zz,seval]|apply Aa|refine sp_ ?_ ?_<;>intro hc<;>push_cast at hc|(have q_:=JI p;refine ee q_ ?_;clear q_)|(have q_:=ID p.drop (by have hb:=Ft.1 ‹EK p=true›;omega);refine ee q_ ?_;clear q_)|(have q_:=ID p.take (by have hb:=Ft.1 ‹EK p=true›;omega);refine ee q_ ?_;clear q_)|(have q_:=ID p.up (by have hb:=Ft.1 ‹EK p=true›;omega);refine ee q_ ?_;clear q_)|(have q_:=JI p;refine cc q_ ?_;clear q_;(simp(disch:=omega)only[push_cast,↓zz,seval]);(fail_if_success change False))|(have q_:=ID p.drop (by have hb:=Ft.1 ‹EK p=true›;omega);refine cc q_ ?_;clear q_;(simp(disch:=omega)only[push_cast,↓zz,seval]);(fail_if_success change False))|(have q_:=ID p.take (by have hb:=Ft.1 ‹EK p=true›;omega);refine cc q_ ?_;clear q_;(simp(disch:=omega)only[push_cast,↓zz,seval]);(fail_if_success change False))|(have q_:=ID p.up (by have hb:=Ft.1 ‹EK p=true›;omega);refine cc q_ ?_;clear q_;(simp(disch:=omega)only[push_cast,↓zz,seval]);(fail_if_success change False))|omega|intro _))
 all_goals first|(rw[SC (.inl ‹_›)];(repeat'(first|(simp(disch:=omega)only[push_cast,↓zz,seval,Dq])|omega|(with_reducible refine Aa ?_ ?_)));done)|(rw[SC (.inr (by omega))];(repeat'(first|(simp(disch:=omega)only[push_cast,↓zz,seval,Dq])|omega|(with_reducible refine Aa ?_ ?_)));done)|(have hp:=Il p.drop.toNat (by have hb:=Ft.1 ‹EK p=true›;omega);omega)|(have hp:=Il p.take.toNat (by have hb:=Ft.1 ‹EK p=true›;omega);omega)|(rw[WK ‹_› (by omega)];(repeat'(first|(simp(disch:=omega)only[push_cast,↓zz,seval,Dq])|omega|(with_reducible refine Aa ?_ ?_)));exact zjj ‹_› (by omega))
theorem FB(s:Int):PC Tryz.prog 72 [.int .i64 s] (Bn (domL s)):=by
 refine BA Sg ?_;unfold Lk;(with_reducible repeat'(first|simp (disch:=omega) only[push_cast,↓zz,seval]|apply Aa|refine sp_ ?_ ?_<;>intro hc<;>push_cast at hc|omega|intro _))
 all_goals (simp only[domL, *];rfl)
abbrev Term.outer(t:Term):Part:=⟨0,t.drop,t.take,t.up⟩
theorem GH(t:Term):PC Tryz.prog 137 [F5 t] (F4 t.outer):=by
 refine BA UN ?_;unfold MR;(with_reducible repeat'(first|simp (disch:=omega) only[push_cast,↓zz,seval]|apply Aa|refine sp_ ?_ ?_<;>intro hc<;>push_cast at hc|omega|intro _))
theorem Io(t:Term):PC Tryz.prog 143 [F5 t] (F4 t.outer):=by
 refine BA Sr ?_;unfold Lw;(with_reducible repeat'(first|simp (disch:=omega) only[push_cast,↓zz,seval]|apply Aa|refine sp_ ?_ ?_<;>intro hc<;>push_cast at hc|omega|intro _))
def Ni(t:Term):Bool:=decide (t.base=0/\t.drop=0/\t.take=21/\t.up=0)
def GX(p:Part):Bool:=decide (p.drop=0/\p.take=21/\p.up=0)
theorem SD(p:Part):PC Tryz.prog 170 [F4 p] (.bool (GX p)):=by
 refine BA W7 ?_;unfold OG;(with_reducible repeat'(first|simp (disch:=omega) only[push_cast,↓zz,seval]|apply Aa|refine sp_ ?_ ?_<;>intro hc<;>push_cast at hc|omega|intro _))
 all_goals (unfold GX;first|(refine NS ?_;omega)|(refine NT ?_;omega)|(refine Ja ?_;omega))
theorem UZ(t:Term):PC Tryz.prog 171 [F5 t] (.bool (Ni t)):=by
 refine BA Sw ?_;unfold L1;(with_reducible repeat'(first|simp (disch:=omega) only[push_cast,↓zz,seval]|apply Aa|refine sp_ ?_ ?_<;>intro hc<;>push_cast at hc|(have q_:=Io t;refine ee q_ ?_;clear q_)|(have q_:=SD t.outer;refine ee q_ ?_;clear q_)|(have q_:=Io t;refine cc q_ ?_;clear q_;(simp(disch:=omega)only[push_cast,↓zz,seval]);(fail_if_success change False))|(have q_:=SD t.outer;refine cc q_ ?_;clear q_;(simp(disch:=omega)only[push_cast,↓zz,seval]);(fail_if_success change False))|omega|intro _))
 all_goals (simp[Ni,GX,Term.outer, *])
theorem QH(t:Term):PC Tryz.prog 184 [F5 t] (.bool (Ni t)):=by
 refine BA UV ?_;unfold Nb;(with_reducible repeat'(first|simp (disch:=omega) only[push_cast,↓zz,seval]|apply Aa|refine sp_ ?_ ?_<;>intro hc<;>push_cast at hc|(have q_:=GH t;refine ee q_ ?_;clear q_)|(have q_:=JH 0;refine ee q_ ?_;clear q_)|(have q_:=GH t;refine cc q_ ?_;clear q_;(simp(disch:=omega)only[push_cast,↓zz,seval]);(fail_if_success change False))|(have q_:=JH 0;refine cc q_ ?_;clear q_;(simp(disch:=omega)only[push_cast,↓zz,seval]);(fail_if_success change False))|omega|intro _))
 all_goals (simp[Ni,GX,Term.outer, *])
def Hu(x:Int):Bool:=decide (-1114111<=x/\x<=1114111)
theorem JJ(x:Int):PC Tryz.prog 193 [.int .i64 x] (.bool (Hu x)):=by
 refine BA UX ?_;unfold Ng;(with_reducible repeat'(first|simp (disch:=omega) only[push_cast,↓zz,seval]|apply Aa|refine sp_ ?_ ?_<;>intro hc<;>push_cast at hc|omega|intro _))
 all_goals (unfold Hu;first|(refine NS ?_;omega)|(refine NT ?_;omega)|(refine Ja ?_;omega))
theorem L9(x:Int):PC Tryz.prog 188 [.int .i64 x] (.bool (Hu x)):=by
 refine BA Sy ?_;unfold L4;(with_reducible repeat'(first|simp (disch:=omega) only[push_cast,↓zz,seval]|apply Aa|refine sp_ ?_ ?_<;>intro hc<;>push_cast at hc|omega|intro _))
 all_goals (unfold Hu;first|(refine NS ?_;omega)|(refine NT ?_;omega)|(refine Ja ?_;omega))
def Jp:List Part->Bool
 |p::q::l=>decide (p.up<q.up)&&Jp (q::l)
 |_=>true
theorem LA:∀{l:List Part}{i:Nat},i+1<l.length->Jp (l.drop i)=(decide ((nth l i).up<(nth l (i+1)).up)&&Jp (l.drop (i+1)))
 |[],i,h=>by simp at h
 |[p],i,h=>by simp at h
 |p::q::l,0,_=>rfl
 |p::q::l,i+1,h=>by
  exact LA (l:=q::l) (i:=i) (by simpa using h)
theorem Va{l:List Part}{i:Nat}(h:l.length<=i+1):Jp (l.drop i)=true:=by
 match hl:l.drop i with
 |[]=>rfl
 |[p]=>rfl
 |p::q::r=>have:=DJ List.length hl;simp at this;omega
theorem OQ(l:List Part)(hl:l.length<1000000000000):PC Tryz.prog 194 [G7 l] (.bool (Jp l&&decide (l.length<=4))):=by
 refine BA Sz ?_;unfold L5;(with_reducible repeat'(first|simp (disch:=omega) only[push_cast,↓zz,seval]|apply Aa|refine sp_ ?_ ?_<;>intro hc<;>push_cast at hc|omega|intro _));refine AQ (AX (λ(i:Nat)=>i<=l.length/\Jp l=Jp (l.drop (i-1))) (λi=>l.length-i) (λi=>[(0,G7 l),(5,G7 l),(6,.int .i64 l.length),(7,.int .i64 i)]) (λ_=>[]) (λ_ _=>[]) 0 (by simp) ?_ ?_)
 ·(with_reducible repeat'(first|simp (disch:=omega) only[push_cast,↓zz,seval]|apply Aa|refine sp_ ?_ ?_<;>intro hc<;>push_cast at hc|omega|intro _))
 rintro i ⟨hi,hr⟩;refine W_T ?_;(with_reducible repeat'(first|simp (disch:=omega) only[push_cast,↓zz,seval]|apply Aa|refine sp_ ?_ ?_<;>intro hc<;>push_cast at hc|omega|intro _))
 ·rename_i h1 h2
  rw[hr,LA (i:=i-1) (by omega),show i-1+1=i by omega];have:¬(nth l (i-1)).up<(nth l i).up:=by omega
  simp[this]
 ·refine⟨i+1,?_⟩
  (with_reducible repeat'(first|simp (disch:=omega) only[push_cast,↓zz,seval]|apply Aa|refine sp_ ?_ ?_<;>intro hc<;>push_cast at hc|omega|intro _));rw[hr,LA (i:=i-1) (by omega),show i-1+1=i by omega];have:(nth l (i-1)).up<(nth l i).up:=by omega
  simp[this]
 ·refine⟨i+1,?_⟩
  (with_reducible repeat'(first|simp (disch:=omega) only[push_cast,↓zz,seval]|apply Aa|refine sp_ ?_ ?_<;>intro hc<;>push_cast at hc|omega|intro _));obtain rfl:i=0:=by omega
  exact hr
 ·rw[hr,Va (i:=i-1) (by omega),AF]
  exact Ja (by omega)
def CQ(t:Term):Bool:=Hu t.base&&Hu t.sum&&EK t.outer&&(Jp t.parts&&decide (t.parts.length<=4))
theorem WL(t:Term):EC t.outer 1=EK t.outer:=by simp[EC]
theorem OR(t:Term):PC Tryz.prog 135 [F4 t.outer,.int .i64 1] (.bool (EK t.outer)):=by rw[<-WL];exact Hh t.outer 1
theorem Jq(t:Term)(hl:t.parts.length<1000000000000):PC Tryz.prog 183 [F5 t] (.bool (CQ t)):=by
 refine BA PX ?_;unfold Kj;(with_reducible repeat'(first|simp (disch:=omega) only[push_cast,↓zz,seval]|apply Aa|refine sp_ ?_ ?_<;>intro hc<;>push_cast at hc|(have q_:=JJ t.base;refine ee q_ ?_;clear q_)|(have q_:=JJ t.sum;refine ee q_ ?_;clear q_)|(have q_:=GH t;refine ee q_ ?_;clear q_)|(have q_:=OR t;refine ee q_ ?_;clear q_)|(have q_:=OQ t.parts hl;refine ee q_ ?_;clear q_)|(have q_:=JJ t.base;refine cc q_ ?_;clear q_;(simp(disch:=omega)only[push_cast,↓zz,seval]);(fail_if_success change False))|(have q_:=JJ t.sum;refine cc q_ ?_;clear q_;(simp(disch:=omega)only[push_cast,↓zz,seval]);(fail_if_success change False))|(have q_:=GH t;refine cc q_ ?_;clear q_;(simp(disch:=omega)only[push_cast,↓zz,seval]);(fail_if_success change False))|(have q_:=OR t;refine cc q_ ?_;clear q_;(simp(disch:=omega)only[push_cast,↓zz,seval]);(fail_if_success change False))|(have q_:=OQ t.parts hl;refine cc q_ ?_;clear q_;(simp(disch:=omega)only[push_cast,↓zz,seval]);(fail_if_success change False))|omega|intro _))
 all_goals (simp[CQ, *])
theorem OT(t:Term)(hl:t.parts.length<1000000000000):PC Tryz.prog 169 [F5 t] (.bool (CQ t)):=by
 refine BA OF ?_;unfold Jm;(with_reducible repeat'(first|simp (disch:=omega) only[push_cast,↓zz,seval]|apply Aa|refine sp_ ?_ ?_<;>intro hc<;>push_cast at hc|(have q_:=L9 t.base;refine ee q_ ?_;clear q_)|(have q_:=L9 t.sum;refine ee q_ ?_;clear q_)|(have q_:=Io t;refine ee q_ ?_;clear q_)|(have q_:=JI t.outer;refine ee q_ ?_;clear q_)|(have q_:=L9 t.base;refine cc q_ ?_;clear q_;(simp(disch:=omega)only[push_cast,↓zz,seval]);(fail_if_success change False))|(have q_:=L9 t.sum;refine cc q_ ?_;clear q_;(simp(disch:=omega)only[push_cast,↓zz,seval]);(fail_if_success change False))|(have q_:=Io t;refine cc q_ ?_;clear q_;(simp(disch:=omega)only[push_cast,↓zz,seval]);(fail_if_success change False))|(have q_:=JI t.outer;refine cc q_ ?_;clear q_;(simp(disch:=omega)only[push_cast,↓zz,seval]);(fail_if_success change False))|omega|intro _))
 ·have:¬t.parts.length<=4:=by omega
  simp[CQ,this]
 ·have hn:CQ t=Jp t.parts:=by
   have:t.parts.length<=4:=by omega
   simp[CQ, *]
  rw[hn];refine AQ (AX (λ(i:Nat)=>i<=t.parts.length/\Jp t.parts=Jp (t.parts.drop i)) (λi=>t.parts.length-i) (λi=>[(1,.ptr 0 1 0 0),(3,.int .i64 (i+1))]) (λ_=>[⟨6,1,true,[F5 t]⟩]) (λenv _=>[Cf 0 (env 1)]) 0 (by simp) ?_ ?_)
  ·(with_reducible repeat'(first|simp (disch:=omega) only[push_cast,↓zz,seval]|apply Aa|refine sp_ ?_ ?_<;>intro hc<;>push_cast at hc|omega|intro _))
  rintro i ⟨hi,hr⟩;refine W_T ?_;(with_reducible repeat'(first|simp (disch:=omega) only[push_cast,↓zz,seval]|apply Aa|refine sp_ ?_ ?_<;>intro hc<;>push_cast at hc|omega|intro _))
  ·rw[hr,LA (i:=i) (by omega)]
   have:¬(nth t.parts i).up<(nth t.parts (i+1)).up:=by omega
   simp[this]
  ·refine⟨i+1,?_⟩
   (with_reducible repeat'(first|simp (disch:=omega) only[push_cast,↓zz,seval]|apply Aa|refine sp_ ?_ ?_<;>intro hc<;>push_cast at hc|omega|intro _));rw[hr,LA (i:=i) (by omega)];have:(nth t.parts i).up<(nth t.parts (i+1)).up:=by omega
   simp[this]
  ·rw[hr,Va (i:=i) (by omega)]
 all_goals (simp[CQ, *])
def Vb(s:Int):Bool:=decide (s=1\/s=2)
def Ey(i n:Int)(l:List Part):Bool:=l.all λp=>EC p n&&(decide (i≠2)||GX p)
def FY(t:Term)(i o n:Int):Bool:=Vb i&&Vb o&&CQ t&&Ey i n t.parts&&(decide (i≠2)||decide (t.parts.length<=1))&&(decide (o≠2)||Ni t)
theorem SE(s:Int):decide (((domL s).length:Int)=0)=!Vb s:=by
 unfold domL Vb;split
 ·subst_vars;decide
 ·split
  ·subst_vars;decide
  ·simp[*]
theorem zff(l:List Part):(l.length<=1)=((l.length:Int)<=1):=by simp only[eq_iff_iff];omega
theorem z0f(t:Term)(i o n:Int)(hl:t.parts.length<1000000000000):PC Tryz.prog 166 [F5 t,.int .i64 i,.int .i64 o,.int .i64 n] (.bool (FY t i o n)):=by
 refine BA UR ?_;unfold MX;(with_reducible repeat'(first|simp (disch:=omega) only[push_cast,↓zz,seval,SE]|apply Aa|refine sp_ ?_ ?_<;>intro hc<;>push_cast at hc|(have q_:=FB i;refine ee q_ ?_;clear q_)|(have q_:=FB o;refine ee q_ ?_;clear q_)|(have q_:=Jq t hl;refine ee q_ ?_;clear q_)|(have q_:=FB i;refine cc q_ ?_;clear q_;(simp(disch:=omega)only[push_cast,↓zz,seval,SE]);(fail_if_success change False))|(have q_:=FB o;refine cc q_ ?_;clear q_;(simp(disch:=omega)only[push_cast,↓zz,seval,SE]);(fail_if_success change False))|(have q_:=Jq t hl;refine cc q_ ?_;clear q_;(simp(disch:=omega)only[push_cast,↓zz,seval,SE]);(fail_if_success change False))|omega|intro _))
 ·simp[FY, *]
 ·have hn:FY t i o n=(Ey i n t.parts&&(decide (i≠2)||decide ((t.parts.length:Int)<=1))&&(decide (o≠2)||Ni t)):=by simp[FY,zff, *]
  rw[hn];refine AQ (AX (λ(k:Nat)=>k<=t.parts.length/\Ey i n t.parts=Ey i n (t.parts.drop k)) (λk=>t.parts.length-k) (λk=>[(1,.int .i64 i),(2,.int .i64 o),(3,.int .i64 n),(4,.ptr 0 1 0 0),(27,G7 t.parts),(28,.int .i64 t.parts.length),(29,.int .i64 k)]) (λ_=>[⟨6,1,true,[F5 t]⟩]) (λenv _=>[Cf 0 (env 4)]) 0 (by simp) ?_ ?_)
  ·(with_reducible repeat'(first|simp (disch:=omega) only[push_cast,↓zz,seval]|apply Aa|refine sp_ ?_ ?_<;>intro hc<;>push_cast at hc|omega|intro _))
  rintro k ⟨hi,hr⟩;refine W_T ?_;(with_reducible repeat'(first|simp (disch:=omega) only[push_cast,↓zz,seval]|apply Aa|refine sp_ ?_ ?_<;>intro hc<;>push_cast at hc|(have q_:=Hh (nth t.parts k) n;refine ee q_ ?_;clear q_)|(have q_:=JH (nth t.parts k).at_;refine ee q_ ?_;clear q_)|(have q_:=QH t;refine ee q_ ?_;clear q_)|(have q_:=Hh (nth t.parts k) n;refine cc q_ ?_;clear q_;(simp(disch:=omega)only[push_cast,↓zz,seval]);(fail_if_success change False))|(have q_:=JH (nth t.parts k).at_;refine cc q_ ?_;clear q_;(simp(disch:=omega)only[push_cast,↓zz,seval]);(fail_if_success change False))|(have q_:=QH t;refine cc q_ ?_;clear q_;(simp(disch:=omega)only[push_cast,↓zz,seval]);(fail_if_success change False))|omega|intro _))
  all_goals (first|(refine⟨k+1,?_⟩;(with_reducible repeat'(first|simp (disch:=omega) only[push_cast,↓zz,seval]|apply Aa|refine sp_ ?_ ?_<;>intro hc<;>push_cast at hc|omega|intro _));(try (first|(rw[hr,drop_at (by omega)];simp[Ey,GX, *];done)|(rw[hr,Aj (by omega)];simp[Ey,GX, *];done)|(simp[Ey,GX, *];done)));done)|(first|(rw[hr,drop_at (by omega)];simp[Ey,GX, *];done)|(rw[hr,Aj (by omega)];simp[Ey,GX, *];done)|(simp[Ey,GX, *];done)))
 all_goals (simp[FY, *])
theorem z5h(t:Term)(i o n:Int)(hl:t.parts.length<1000000000000):PC Tryz.prog 150 [F5 t,.int .i64 i,.int .i64 o,.int .i64 n] (.bool (FY t i o n)):=by
 refine BA Su ?_;unfold Ly;(with_reducible repeat'(first|simp (disch:=omega) only[push_cast,↓zz,seval]|apply Aa|refine sp_ ?_ ?_<;>intro hc<;>push_cast at hc|(have q_:=OT t hl;refine ee q_ ?_;clear q_)|(have q_:=OT t hl;refine cc q_ ?_;clear q_;(simp(disch:=omega)only[push_cast,↓zz,seval]);(fail_if_success change False))|omega|intro _))
 all_goals first
  |(simp[FY,Vb, *];done)
  |((have hn:FY t i o n=(Ey i n t.parts&&(decide (i≠2)||decide ((t.parts.length:Int)<=1))&&(decide (o≠2)||Ni t)):=by simp[FY,Vb,zff, *])
    rw[hn];refine AQ (AX (λ(k:Nat)=>k<=t.parts.length/\Ey i n t.parts=Ey i n (t.parts.drop k)/\(i=2->k<=1)) (λk=>t.parts.length-k) (λk=>[(1,.int .i64 i),(2,.int .i64 o),(3,.int .i64 n),(4,.ptr 0 1 0 0),(9,.int .i64 k)]) (λ_=>[⟨6,1,true,[F5 t]⟩]) (λenv _=>[Cf 0 (env 4)]) 0 (by simp) ?_ ?_)
    ·(with_reducible repeat'(first|simp (disch:=omega) only[push_cast,↓zz,seval]|apply Aa|refine sp_ ?_ ?_<;>intro hc<;>push_cast at hc|omega|intro _))
    rintro k ⟨hi,hr,hk⟩;refine W_T ?_;(with_reducible repeat'(first|simp (disch:=omega) only[push_cast,↓zz,seval]|apply Aa|refine sp_ ?_ ?_<;>intro hc<;>push_cast at hc|(have q_:=IC (nth t.parts k) n;refine ee q_ ?_;clear q_)|(have q_:=SD (nth t.parts k);refine ee q_ ?_;clear q_)|(have q_:=UZ t;refine ee q_ ?_;clear q_)|(have q_:=IC (nth t.parts k) n;refine cc q_ ?_;clear q_;(simp(disch:=omega)only[push_cast,↓zz,seval]);(fail_if_success change False))|(have q_:=SD (nth t.parts k);refine cc q_ ?_;clear q_;(simp(disch:=omega)only[push_cast,↓zz,seval]);(fail_if_success change False))|(have q_:=UZ t;refine cc q_ ?_;clear q_;(simp(disch:=omega)only[push_cast,↓zz,seval]);(fail_if_success change False))|omega|intro _))
    all_goals first
     |(first|(refine⟨k+1,?_⟩;(with_reducible repeat'(first|simp (disch:=omega) only[push_cast,↓zz,seval]|apply Aa|refine sp_ ?_ ?_<;>intro hc<;>push_cast at hc|omega|intro _));(try (first|(rw[hr,drop_at (by omega)];simp[Ey, *];done)|(rw[hr,Aj (by omega)];simp[Ey, *];done)|(simp[Ey, *];done)));done)|(first|(rw[hr,drop_at (by omega)];simp[Ey, *];done)|(rw[hr,Aj (by omega)];simp[Ey, *];done)|(simp[Ey, *];done)))
     |((have h2:¬(t.parts.length:Int)<=1:=by omega);simp[h2, *];done)
     |(rw[hr,Aj (by omega)];(have h2:i=2->(t.parts.length:Int)<=1:=by omega);by_cases h3:i=2<;>simp[Ey, *];done)
     )
end Go.Proofs.YtbcjoeadpjfcfaaGreat
