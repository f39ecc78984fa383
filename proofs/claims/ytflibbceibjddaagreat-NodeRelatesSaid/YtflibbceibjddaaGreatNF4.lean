/-
  Parts of the proof that the law holds whatever the input; without conditions.
-/
import Derived.Test.YtflibbceibjddaaGreatProg
import Derived.KernelRfl
import Derived.Test.YtflibbceibjddaaGreatNF2
import Derived.Test.YtflibbceibjddaaGreatNF3
set_option linter.unusedSimpArgs false
set_option linter.unusedVariables false
set_option linter.unusedSectionVars false
set_option maxRecDepth 100000
namespace Go.Proofs.YtflibbceibjddaaGreat
open Abs
abbrev nI_(n:Int):AV:=.int .i64 n
abbrev bF_:AV:=.bool false
abbrev bT_:AV:=.bool true
abbrev s_(n:Nat):AArg:=.slot n
abbrev k_(x:AV):AArg:=.const x
abbrev h_(a:List AArg)(k:AK):AOp:=⟨none,a,none,k⟩
abbrev m_(d:Nat)(a:List AArg)(k:AK):AOp:=⟨some d,a,none,k⟩
abbrev g_(d g:Nat)(w:Bool)(a:List AArg)(k:AK):AOp:=⟨some d,a,some (g,w),k⟩
abbrev ld:AK:=.load false 1
abbrev ln:AK:=.len false
abbrev l6:AK:=.load true 6
abbrev nt:AK:=.un .not
abbrev st:AK:=.store 1
abbrev f0_:AK:=.faddr false 0 1
abbrev f1_:AK:=.faddr false 1 1
abbrev f2_:AK:=.faddr false 2 1
abbrev f3_:AK:=.faddr false 3 1
abbrev f4_:AK:=.faddr false 4 1
abbrev f5_:AK:=.faddr false 5 1
abbrev bad_:AK:=.bin .add
abbrev bls_:AK:=.bin .lss
abbrev beq_:AK:=.bin .eql
abbrev bgt_:AK:=.bin .gtr
abbrev bsu_:AK:=.bin .sub
abbrev ble_:AK:=.bin .leq
abbrev bne_:AK:=.bin .neq
abbrev bge_:AK:=.bin .geq
abbrev a1_:AK:=.iaddr 1
abbrev a2_:AK:=.iaddr 2
abbrev a3_:AK:=.iaddr 3
abbrev a4_:AK:=.iaddr 4
abbrev a5_:AK:=.iaddr 5
abbrev a6_:AK:=.iaddr 6
abbrev v_(d a:Nat):AOp:=⟨some d,[.slot a],none,.mv⟩
abbrev z_(d:Nat):AOp:=⟨some d,[.const (.int .i64 0)],none,.mv⟩
abbrev i1_(d a:Nat):AOp:=⟨some d,[.slot a,.const (.int .i64 1)],none,.bin .add⟩
abbrev bf_(d:Nat):AOp:=⟨some d,[.const (.bool false)],none,.mv⟩
abbrev bt_(d:Nat):AOp:=⟨some d,[.const (.bool true)],none,.mv⟩
abbrev ns_(d:Nat):AOp:=⟨some d,[.const .nilS],none,.mv⟩
abbrev ex_(s e:Nat):AC:=.cond (.slot s) .skip (.exit e)
abbrev i_(s:Nat)(a b:AC):AC:=.cond (.slot s) a b
abbrev sr_(l:List AOp)(c:AC):AC:=.seq (.reg l) c
def Hh:AC:=(sr_ [o1 2 0 .box,bf_ 4] (.seq (sr_ [o1 11 2 l6,k1 12 15 11,o1 13 12 nt,v_ 14 13,g_ 15 14 false [s_ 1] .mv,g_ 16 14 false [s_ 15] ln,g_ 17 14 false [s_ 16,k_ (nI_ 10)] bgt_,m_ 18 [s_ 14,k_ bT_,s_ 17] .pick,v_ 19 18,g_ 20 19 false [s_ 1] .mv,g_ 21 19 false [k_ (.fn 16 []),k_ (nI_ 2),s_ 20] .call,g_ 22 19 false [s_ 21] nt,m_ 23 [s_ 19,k_ bT_,s_ 22] .pick] (i_ 23 (sr_ [k0 24 17,v_ 4 24] .ret) .skip)) (sr_ [o1 26 2 l6,k1 27 18 26,v_ 25 27,o1 28 25 (.extract 0),o1 29 25 (.extract 1),o0 5 (.alloc (.agg [(nI_ 0),(nI_ 0),(nI_ 0),(nI_ 0),.nilS,.nilS]) 6),n2 5 28 (.store 6),v_ 6 29] (.seq (sr_ [o1 30 2 l6,m_ 31 [k_ (.fn 19 []),s_ 30,k_ (nI_ 0)] .call,o1 32 31 nt] (i_ 32 (sr_ [v_ 33 6,c2 34 33 (nI_ 2) beq_,v_ 35 34,g1 36 35 5 l6,g_ 37 35 true [] (.build [(nI_ 0),(nI_ 0),(nI_ 0),(nI_ 0),.nilS,.nilS] [(0,1),(1,1),(2,1),(3,1),(4,1),(5,1)] []),g_ 38 35 true [k_ (.fn 20 []),s_ 36,s_ 37] .call,m_ 39 [s_ 35,s_ 38,k_ bF_] .pick,v_ 40 39,g_ 41 40 true [k_ (.fn 17 [])] .call,m_ 42 [s_ 40,s_ 41,k_ bF_] .pick,v_ 4 42] .ret) .skip)) (.seq (sr_ [v_ 43 6,c2 44 43 (nI_ 0) bne_] (i_ 44 (sr_ [v_ 45 6,c2 46 45 (nI_ 4) beq_,v_ 47 46,g1 48 47 2 l6,g_ 49 47 true [k_ (.fn 21 []),s_ 48] .call,g_ 50 47 true [s_ 49,k_ (nI_ 300)] bgt_,m_ 51 [s_ 47,s_ 50,k_ bF_] .pick,v_ 52 51,g1 53 52 5 l6,g_ 54 52 true [] (.build [(nI_ 0),(nI_ 0),(nI_ 0),(nI_ 0),.nilS,.nilS] [(0,1),(1,1),(2,1),(3,1),(4,1),(5,1)] []),g_ 55 52 true [k_ (.fn 20 []),s_ 53,s_ 54] .call,m_ 56 [s_ 52,s_ 55,k_ bF_] .pick,v_ 57 56,g_ 58 57 true [k_ (.fn 17 [])] .call,m_ 59 [s_ 57,s_ 58,k_ bF_] .pick,v_ 4 59] .ret) .skip)) (sr_ [o1 61 2 l6,v_ 62 1,k2 63 22 61 62,v_ 60 63,o1 64 60 (.extract 0),o1 65 60 (.extract 1),v_ 7 64,v_ 8 65] (.seq (sr_ [v_ 66 8,o1 67 66 nt] (i_ 67 (sr_ [k0 68 17,v_ 4 68] .ret) .skip)) (sr_ [o1 70 5 l6,v_ 71 1,m_ 72 [k_ (.fn 23 []),s_ 70,s_ 71,k_ (nI_ 500)] .call,v_ 69 72,o1 73 69 (.extract 0),o1 74 69 (.extract 1),v_ 9 73,v_ 10 74] (sr_ [v_ 75 10,c2 76 75 (nI_ 0) beq_,v_ 77 76,g1 78 77 9 .mv,g1 79 77 7 .mv,g_ 80 77 true [k_ (.fn 24 []),s_ 78,s_ 79] .call,m_ 81 [s_ 77,s_ 80,k_ bF_] .pick,v_ 82 81,g_ 83 82 true [k_ (.fn 17 [])] .call,m_ 84 [s_ 82,s_ 83,k_ bF_] .pick,v_ 4 84] .ret)))))))))
theorem Km:Bj Tryz.prog 3 2=some ⟨85,2,[(.slot 4)],Hh⟩:=by kernel_rfl
def KH:AC:=(sr_ [o1 1 0 .box,bf_ 2] (sr_ [o1 3 1 l6,m_ 4 [k_ (.fn 44 []),s_ 3,k_ (nI_ 300)] .call,c2 5 4 (nI_ 300) ble_,v_ 2 5] .ret))
theorem RP:Bj Tryz.prog 15 1=some ⟨6,1,[(.slot 2)],KH⟩:=by kernel_rfl
def Mx:AC:=(sr_ [bf_ 4] (.seq (sr_ [z_ 5] (.block 0 (.loop (.seq (sr_ [v_ 6 5,v_ 7 1,o1 8 7 ln,o2 9 6 8 bls_] (ex_ 9 0)) (.seq (.block 1 (sr_ [v_ 12 0,v_ 13 1,v_ 14 5,o2 15 13 14 a1_,o1 16 15 ld,k2 17 45 12 16,o1 18 17 nt] (i_ 18 (sr_ [bf_ 4] .ret) .skip))) (.reg [v_ 10 5,i1_ 11 10,v_ 5 11])))))) (sr_ [bt_ 4] .ret)))
theorem Ua:Bj Tryz.prog 16 2=some ⟨19,2,[(.slot 4)],Mx⟩:=by kernel_rfl
def KI:AC:=(sr_ [bf_ 0] (sr_ [c1 6 (.int .i32 97) (.bslice 1 1 (.int .i32 0) [0]),m_ 7 [k_ (.int .i32 98),k_ (.int .i32 98)] (.bslice 1 2 (.int .i32 0) [0,1]),m_ 8 [k_ (nI_ 3),s_ 6,s_ 7] (.build [(nI_ 0),.nilS,(nI_ 0),.nilS,.nilS,.nilS] [(0,1),(1,1),(2,1),(3,1),(4,1),(5,1)] [0,3,4]),o1 9 8 (.bslice 6 1 (.agg [(nI_ 0),.nilS,(nI_ 0),.nilS,.nilS,.nilS]) [0]),m_ 10 [k_ (nI_ 6),s_ 9] (.build [(nI_ 0),.nilS,(nI_ 0),.nilS,.nilS,.nilS] [(0,1),(1,1),(2,1),(3,1),(4,1),(5,1)] [0,5]),o0 1 (.alloc (.agg [(nI_ 0),.nilS,(nI_ 0),.nilS,.nilS,.nilS]) 6),n2 1 10 (.store 6)] (sr_ [o1 12 1 l6,k1 13 18 12,v_ 11 13,o1 14 11 (.extract 0),o1 15 11 (.extract 1),o0 2 (.alloc (.agg [(nI_ 0),(nI_ 0),(nI_ 0),(nI_ 0),.nilS,.nilS]) 6),n2 2 14 (.store 6),v_ 3 15] (sr_ [o1 17 2 l6,m_ 18 [k_ (.int .i32 97),k_ (.int .i32 97)] (.bslice 1 2 (.int .i32 0) [0,1]),m_ 19 [k_ (.fn 23 []),s_ 17,s_ 18,k_ (nI_ 2)] .call,v_ 16 19,o1 20 16 (.extract 0),o1 21 16 (.extract 1),v_ 4 20,v_ 5 21] (sr_ [v_ 22 3,c2 23 22 (nI_ 0) beq_,v_ 24 23,g1 25 24 5 .mv,g_ 26 24 true [s_ 25,k_ (nI_ 0)] beq_,m_ 27 [s_ 24,s_ 26,k_ bF_] .pick,v_ 28 27,g1 29 28 4 .mv,g1 30 28 29 ln,g_ 31 28 true [s_ 30,k_ (nI_ 1)] beq_,m_ 32 [s_ 28,s_ 31,k_ bF_] .pick,v_ 33 32,g1 34 33 4 .mv,g_ 35 33 true [s_ 34,k_ (nI_ 0)] a1_,g1 36 33 35 ld,g1 37 33 36 .runStr,g_ 38 33 true [s_ 37,k_ (.str [98,98,98,98])] beq_,m_ 39 [s_ 33,s_ 38,k_ bF_] .pick,v_ 40 39,g1 41 40 1 l6,g1 42 40 41 (.bslice 6 1 (.agg [(nI_ 0),.nilS,(nI_ 0),.nilS,.nilS,.nilS]) [0]),g_ 43 40 true [k_ (nI_ 6),s_ 42] (.build [(nI_ 0),.nilS,(nI_ 0),.nilS,.nilS,.nilS] [(0,1),(1,1),(2,1),(3,1),(4,1),(5,1)] [0,5]),g_ 44 40 true [k_ (.fn 28 []),s_ 43] .call,g1 45 40 44 nt,m_ 46 [s_ 40,s_ 45,k_ bF_] .pick,v_ 47 46,g1 48 47 1 l6,g_ 49 47 true [k_ (.fn 29 []),s_ 48] .call,m_ 50 [s_ 47,s_ 49,k_ bF_] .pick,v_ 0 50] .ret)))))
theorem RQ:Bj Tryz.prog 17 0=some ⟨51,0,[(.slot 0)],KI⟩:=by kernel_rfl
def JI:AC:=(sr_ [o1 1 0 .box,o0 2 (.alloc (.agg [(nI_ 0),(nI_ 0),(nI_ 0),(nI_ 0),.nilS,.nilS]) 6),z_ 3] (.seq (sr_ [o1 6 1 l6,k1 7 28 6,o1 8 7 nt] (i_ 8 (sr_ [o0 9 (.build [(nI_ 0),(nI_ 0),(nI_ 0),(nI_ 0),.nilS,.nilS] [(0,1),(1,1),(2,1),(3,1),(4,1),(5,1)] []),n2 2 9 (.store 6),c1 3 (nI_ 2) .mv] .ret) .skip)) (sr_ [m_ 10 [k_ (.fn 46 []),k_ (nI_ 2),k_ (nI_ 2)] .call,o1 11 10 (.build [(nI_ 0),(nI_ 0),(nI_ 0),(nI_ 0),.nilS,.nilS] [(0,6)] [0]),o1 12 11 .box,v_ 4 12] (sr_ [v_ 13 4,o1 14 1 l6,m_ 15 [k_ (.fn 47 []),s_ 13,s_ 14,k_ (nI_ 0)] .call,v_ 5 15] (.seq (sr_ [v_ 16 4,k1 17 48 16] (i_ 17 (sr_ [o0 18 (.build [(nI_ 0),(nI_ 0),(nI_ 0),(nI_ 0),.nilS,.nilS] [(0,1),(1,1),(2,1),(3,1),(4,1),(5,1)] []),n2 2 18 (.store 6),c1 3 (nI_ 4) .mv] .ret) .skip)) (sr_ [v_ 19 4,v_ 20 5,o1 21 20 (.build [(nI_ 0),.nilS,.nilS] [(0,1),(1,1),(2,1)] [0]),o1 22 21 (.bslice 3 1 (.agg [(nI_ 0),.nilS,.nilS]) [0]),o1 23 19 .nilCheck,o1 24 23 (.faddr true 0 6),o1 25 24 f5_,n2 25 22 st] (sr_ [v_ 26 4,o1 27 26 .nilCheck,o1 28 27 (.faddr true 0 6),o1 29 28 l6,n2 2 29 (.store 6),z_ 3] .ret)))))))
theorem PH:Bj Tryz.prog 18 1=some ⟨30,1,[(.cell 2 true 6),(.slot 3)],JI⟩:=by kernel_rfl
def KJ:AC:=(sr_ [o1 2 0 .box,bf_ 4] (.seq (sr_ [v_ 6 1,c2 7 6 (nI_ 64) bgt_] (i_ 7 (sr_ [bf_ 4] .ret) .skip)) (.seq (sr_ [o1 8 2 f0_,o1 9 8 ld] (.block 0 (sr_ [c2 11 9 (nI_ 1) beq_,v_ 10 11] (i_ 10 (.seq (sr_ [o1 12 2 f2_,o1 13 12 ld,c2 14 13 (nI_ 1114111) bgt_,v_ 15 14,g_ 16 15 false [s_ 2] f2_,g_ 17 15 false [s_ 16] ld,g_ 18 15 false [s_ 17,k_ (nI_ (-1114111))] bls_,m_ 19 [s_ 15,k_ bT_,s_ 18] .pick,v_ 20 19,g_ 21 20 false [s_ 2] f1_,g_ 22 20 false [s_ 21] ld,g_ 23 20 false [k_ (.fn 49 []),s_ 22] .call,g_ 24 20 false [s_ 23] nt,m_ 25 [s_ 20,k_ bT_,s_ 24] .pick] (i_ 25 (sr_ [bf_ 4] .ret) .skip)) (sr_ [o1 26 2 f1_,o1 27 26 ld,o1 28 2 f2_,o1 29 28 ld,k2 30 51 27 29,m_ 31 [k_ (.fn 52 []),k_ (nI_ 2)] .call,m_ 32 [k_ (.fn 50 []),s_ 30,s_ 31,k_ (nI_ 2)] .call,o1 33 32 ln,c2 34 33 (nI_ 0) beq_,v_ 4 34] .ret)) (sr_ [c2 36 9 (nI_ 2) beq_,v_ 35 36] (i_ 35 (sr_ [o1 37 2 f1_,o1 38 37 ld,k1 39 49 38,v_ 4 39] .ret) (sr_ [c2 41 9 (nI_ 3) beq_,v_ 40 41] (i_ 40 (sr_ [o1 42 2 f3_,o1 43 42 ld,m_ 44 [k_ (.fn 16 []),k_ (nI_ 2),s_ 43] .call,v_ 45 44,g1 46 45 2 f4_,g1 47 45 46 ld,g_ 48 45 true [k_ (.fn 16 []),k_ (nI_ 2),s_ 47] .call,m_ 49 [s_ 45,s_ 48,k_ bF_] .pick,v_ 4 49] .ret) (.seq (sr_ [c2 51 9 (nI_ 4) beq_,v_ 50 51] (i_ 50 .skip (sr_ [c2 52 9 (nI_ 5) beq_,v_ 50 52] (i_ 50 .skip (.reg [c2 53 9 (nI_ 6) beq_,v_ 50 53]))))) (i_ 50 (.seq (sr_ [z_ 5] (.block 1 (.loop (.seq (sr_ [v_ 54 5,o1 55 2 f5_,o1 56 55 ld,o1 57 56 ln,o2 58 54 57 bls_] (ex_ 58 1)) (.seq (.block 2 (sr_ [o1 61 2 f5_,o1 62 61 ld,v_ 63 5,o2 64 62 63 a6_,o1 65 64 l6,v_ 66 1,i1_ 67 66,k2 68 19 65 67,o1 69 68 nt] (i_ 69 (sr_ [bf_ 4] .ret) .skip))) (.reg [v_ 59 5,i1_ 60 59,v_ 5 60])))))) (sr_ [o1 70 2 f0_,o1 71 70 ld,c2 72 71 (nI_ 6) bne_,v_ 73 72,g_ 74 73 false [s_ 2] f5_,g_ 75 73 false [s_ 74] ld,g_ 76 73 false [k_ (nI_ 4),s_ 75] (.build [(nI_ 0),.nilS,(nI_ 0),.nilS,.nilS,.nilS] [(0,1),(1,1),(2,1),(3,1),(4,1),(5,1)] [0,5]),g_ 77 73 false [k_ (.fn 53 []),s_ 76] .call,g_ 78 73 false [s_ 77] nt,m_ 79 [s_ 73,k_ bT_,s_ 78] .pick,v_ 4 79] .ret)) .skip)))))))))) (sr_ [bf_ 4] .ret))))
theorem RR:Bj Tryz.prog 19 2=some ⟨80,2,[(.slot 4)],KJ⟩:=by kernel_rfl
def My:AC:=(sr_ [o1 2 0 .box,o1 3 1 .box,bf_ 4] (.seq (sr_ [o1 9 2 f0_,o1 10 9 ld,o1 11 3 f0_,o1 12 11 ld,o2 13 10 12 bne_,v_ 14 13,g_ 15 14 false [s_ 2] f1_,g_ 16 14 false [s_ 15] ld,g_ 17 14 false [s_ 3] f1_,g_ 18 14 false [s_ 17] ld,g_ 19 14 false [s_ 16,s_ 18] bne_,m_ 20 [s_ 14,k_ bT_,s_ 19] .pick,v_ 21 20,g_ 22 21 false [s_ 2] f2_,g_ 23 21 false [s_ 22] ld,g_ 24 21 false [s_ 3] f2_,g_ 25 21 false [s_ 24] ld,g_ 26 21 false [s_ 23,s_ 25] bne_,m_ 27 [s_ 21,k_ bT_,s_ 26] .pick,v_ 28 27,g_ 29 28 false [s_ 2] f3_,g_ 30 28 false [s_ 29] ld,g_ 31 28 false [s_ 3] f3_,g_ 32 28 false [s_ 31] ld,g_ 33 28 false [s_ 30,s_ 32] bne_,m_ 34 [s_ 28,k_ bT_,s_ 33] .pick,v_ 35 34,g_ 36 35 false [s_ 2] f4_,g_ 37 35 false [s_ 36] ld,g_ 38 35 false [s_ 37] ln,g_ 39 35 false [s_ 3] f4_,g_ 40 35 false [s_ 39] ld,g_ 41 35 false [s_ 40] ln,g_ 42 35 false [s_ 38,s_ 41] bne_,m_ 43 [s_ 35,k_ bT_,s_ 42] .pick,v_ 44 43,g_ 45 44 false [s_ 2] f5_,g_ 46 44 false [s_ 45] ld,g_ 47 44 false [s_ 46] ln,g_ 48 44 false [s_ 3] f5_,g_ 49 44 false [s_ 48] ld,g_ 50 44 false [s_ 49] ln,g_ 51 44 false [s_ 47,s_ 50] bne_,m_ 52 [s_ 44,k_ bT_,s_ 51] .pick] (i_ 52 (sr_ [bf_ 4] .ret) .skip)) (.seq (sr_ [z_ 5] (.block 0 (.loop (.seq (sr_ [v_ 53 5,o1 54 2 f4_,o1 55 54 ld,o1 56 55 ln,o2 57 53 56 bls_] (ex_ 57 0)) (.seq (.block 1 (.seq (.dtl [o1 60 2 f4_,o1 61 60 ld,v_ 62 5,o2 63 61 62 a5_,o1 64 63 (.load true 5),o1 65 3 f4_,o1 66 65 ld,v_ 67 5,o2 68 66 67 a5_,o1 69 68 (.load true 5)] [k2 70 54 64 69,o1 71 70 nt]) (i_ 71 (sr_ [bf_ 4] .ret) .skip))) (.reg [v_ 58 5,i1_ 59 58,v_ 5 59])))))) (.seq (sr_ [z_ 6] (.block 2 (.loop (.seq (sr_ [v_ 72 6,o1 73 2 f5_,o1 74 73 ld,o1 75 74 ln,o2 76 72 75 bls_] (ex_ 76 2)) (.seq (.block 3 (.seq (.gry [true,true,false,true,true,true,true,false,true,true,false,false,false,false] [m_ 79 [s_ 2] f5_,m_ 80 [s_ 79] ld,m_ 81 [s_ 6] .mv,m_ 82 [s_ 80,s_ 81] a3_,m_ 83 [s_ 82] (.load true 3),m_ 84 [s_ 3] f5_,m_ 85 [s_ 84] ld,m_ 86 [s_ 6] .mv,m_ 87 [s_ 85,s_ 86] a3_,m_ 88 [s_ 87] (.load true 3),m_ 7 [] (.alloc (.agg [(nI_ 0),.nilS,.nilS]) 3),m_ 8 [] (.alloc (.agg [(nI_ 0),.nilS,.nilS]) 3),h_ [s_ 7,s_ 83] (.store 3),h_ [s_ 8,s_ 88] (.store 3)]) (sr_ [o1 89 7 f0_,o1 90 89 ld,o1 91 8 f0_,o1 92 91 ld,o2 93 90 92 bne_,v_ 94 93,g_ 95 94 false [s_ 7] f1_,g_ 96 94 false [s_ 95] ld,g_ 97 94 false [s_ 8] f1_,g_ 98 94 false [s_ 97] ld,g_ 99 94 false [k_ (.fn 55 []),s_ 96,s_ 98] .call,g_ 100 94 false [s_ 99] nt,m_ 101 [s_ 94,k_ bT_,s_ 100] .pick,v_ 102 101,g_ 103 102 false [s_ 7] f2_,g_ 104 102 false [s_ 103] ld,g_ 105 102 false [s_ 8] f2_,g_ 106 102 false [s_ 105] ld,g_ 107 102 false [k_ (.fn 56 []),s_ 104,s_ 106] .call,g_ 108 102 false [s_ 107] nt,m_ 109 [s_ 102,k_ bT_,s_ 108] .pick] (i_ 109 (sr_ [bf_ 4] .ret) .skip)))) (.reg [v_ 77 6,i1_ 78 77,v_ 6 78])))))) (sr_ [bt_ 4] .ret)))))
theorem Ub:Bj Tryz.prog 20 2=some ⟨110,2,[(.slot 4)],My⟩:=by kernel_rfl
def IV:AC:=(sr_ [o1 2 0 .box,ns_ 4,bf_ 5] (sr_ [o1 11 2 l6,v_ 12 1,o0 13 (.build [(nI_ 0),.nilS] [(0,1),(1,1)] []),o1 14 13 (.bslice 2 1 (.agg [(nI_ 0),.nilS]) [0]),k3 15 57 11 12 14,v_ 10 15,o1 16 10 (.extract 0),o1 17 10 (.extract 1),v_ 6 16,v_ 7 17] (sr_ [ns_ 8] (.seq (sr_ [z_ 9] (.block 0 (.loop (.seq (sr_ [v_ 18 9,v_ 19 6,o1 20 19 ln,o2 21 18 20 bls_] (ex_ 21 0)) (.seq (.block 1 (sr_ [v_ 24 6,v_ 25 9,o2 26 24 25 a2_,o1 27 26 f0_,o1 28 27 ld,v_ 29 1,o1 30 29 ln,o2 31 28 30 beq_] (i_ 31 (.reg [v_ 32 8,v_ 33 6,v_ 34 9,o2 35 33 34 a2_,o1 36 35 f1_,o1 37 36 ld,k2 38 58 32 37,v_ 8 38]) .skip))) (.reg [v_ 22 9,i1_ 23 22,v_ 9 23])))))) (sr_ [v_ 39 8,v_ 40 7,v_ 4 39,v_ 5 40] .ret)))))
theorem Oh:Bj Tryz.prog 22 2=some ⟨41,2,[(.slot 4),(.slot 5)],IV⟩:=by kernel_rfl
def GP:AC:=(sr_ [o1 3 0 .box,o1 5 2 .box,ns_ 6,z_ 7] (.seq (sr_ [o1 12 3 l6,v_ 13 1,k2 14 59 12 13,v_ 8 14] (sr_ [v_ 15 8,c2 16 15 (nI_ 0) bne_] (i_ 16 (sr_ [v_ 17 8,ns_ 6,v_ 7 17] .ret) .skip))) (.seq (sr_ [o1 18 5 ld,c2 19 18 (nI_ 1) bls_] (i_ 19 (sr_ [ns_ 6,c1 7 (nI_ 1) .mv] .ret) .skip)) (sr_ [o1 20 3 l6,v_ 21 1,k2 22 60 20 21,o0 9 (.alloc .nilP 1),n2 9 22 st] (sr_ [o1 23 9 ld,o1 24 23 .nilCheck,o1 25 24 (.faddr false 10 1),o1 26 25 ld,o1 27 26 ln,o2 28 27 27 (.mkSlice 1 24 .nilS),o0 10 (.alloc .nilS 1),n2 10 28 st] (sr_ [o0 11 (.alloc bF_ 1),h_ [s_ 11,k_ bF_] st] (sr_ [o1 29 9 ld,m_ 30 [s_ 11,s_ 9,s_ 3,s_ 10,s_ 5] (.mkFunc 62),k2 31 61 29 30] (.seq (sr_ [o1 32 11 ld] (i_ 32 (sr_ [ns_ 6,c1 7 (nI_ 5) .mv] .ret) .skip)) (sr_ [o1 33 10 ld,o1 34 3 f3_,o1 35 34 ld,o2 36 33 35 a1_,o1 37 36 ld,v_ 6 37,z_ 7] .ret)))))))))
theorem Ir:Bj Tryz.prog 23 3=some ⟨38,3,[(.slot 6),(.slot 7)],GP⟩:=by kernel_rfl
def HM:AC:=(sr_ [bf_ 4] (.seq (sr_ [v_ 6 0,o1 7 6 ln,v_ 8 1,o1 9 8 ln,o2 10 7 9 bne_] (i_ 10 (sr_ [bf_ 4] .ret) .skip)) (.seq (sr_ [z_ 5] (.block 0 (.loop (.seq (sr_ [v_ 11 5,v_ 12 0,o1 13 12 ln,o2 14 11 13 bls_] (ex_ 14 0)) (.seq (.block 1 (.seq (.dtl [v_ 17 0,v_ 18 5,o2 19 17 18 a1_,o1 20 19 ld,v_ 21 1,v_ 22 5,o2 23 21 22 a1_,o1 24 23 ld] [k2 25 68 20 24,o1 26 25 nt]) (i_ 26 (sr_ [bf_ 4] .ret) .skip))) (.reg [v_ 15 5,i1_ 16 15,v_ 5 16])))))) (sr_ [bt_ 4] .ret))))
theorem LK:Bj Tryz.prog 24 2=some ⟨27,2,[(.slot 4)],HM⟩:=by kernel_rfl
def Mz:AC:=(sr_ [o1 1 0 .box,z_ 2] (.seq (sr_ [o1 6 1 l6,k1 7 69 6,v_ 5 7,o1 8 5 (.extract 0),o1 9 5 (.extract 1),v_ 3 8,v_ 4 9] (sr_ [v_ 10 3,c2 11 10 (nI_ 0) bne_] (i_ 11 (sr_ [c1 2 (nI_ 2) .mv] .ret) .skip))) (sr_ [z_ 2] .ret)))
theorem Uc:Bj Tryz.prog 25 1=some ⟨12,1,[(.slot 2)],Mz⟩:=by kernel_rfl
def M0:AC:=(sr_ [o1 1 0 .box,bf_ 2] (sr_ [o1 6 1 l6,m_ 7 [k_ (.fn 70 []),s_ 6,k_ (nI_ 0)] .call,v_ 5 7,o1 8 5 (.extract 0),o1 9 5 (.extract 1),v_ 3 8,v_ 4 9] (sr_ [v_ 10 3,v_ 2 10] .ret)))
theorem Ud:Bj Tryz.prog 28 1=some ⟨11,1,[(.slot 2)],M0⟩:=by kernel_rfl
def Kn:AC:=(sr_ [o1 1 0 .box,bf_ 2] (sr_ [o1 6 1 l6,m_ 7 [k_ (.fn 70 []),s_ 6,k_ (nI_ 0)] .call,v_ 5 7,o1 8 5 (.extract 0),o1 9 5 (.extract 1),v_ 3 8,v_ 4 9] (sr_ [v_ 10 3,v_ 11 10,g1 12 11 4 .mv,m_ 13 [s_ 11,s_ 12,k_ bF_] .pick,v_ 2 13] .ret)))
theorem Oi:Bj Tryz.prog 29 1=some ⟨14,1,[(.slot 2)],Kn⟩:=by kernel_rfl
def KN:AC:=(sr_ [o1 2 0 .box,z_ 4] (sr_ [o1 7 2 f3_,o1 8 7 ld,o1 9 8 ln,v_ 10 1,o2 11 9 10 .min,m_ 12 [k_ (nI_ 1),s_ 11] bad_,o1 13 2 f4_,o1 14 13 ld,o1 15 14 ln,v_ 16 1,o2 17 15 16 .min,o2 18 12 17 bad_,o1 19 2 f1_,o1 20 19 ld,o1 21 20 ln,v_ 22 1,o2 23 21 22 .min,o2 24 18 23 bad_,v_ 5 24] (.seq (sr_ [z_ 6] (.block 0 (.loop (.seq (sr_ [v_ 25 6,o1 26 2 f5_,o1 27 26 ld,o1 28 27 ln,o2 29 25 28 bls_,v_ 30 29,g1 31 30 5 .mv,g1 32 30 1 .mv,g2 33 30 31 32 ble_,m_ 34 [s_ 30,s_ 33,k_ bF_] .pick] (ex_ 34 0)) (.seq (.block 1 (.reg [v_ 37 5,o1 38 2 f5_,o1 39 38 ld,v_ 40 6,o2 41 39 40 a6_,o1 42 41 l6,v_ 43 1,v_ 44 5,o2 45 43 44 bsu_,k2 46 44 42 45,o2 47 37 46 bad_,v_ 5 47])) (.reg [v_ 35 6,i1_ 36 35,v_ 6 36])))))) (sr_ [v_ 48 5,v_ 4 48] .ret))))
theorem RS:Bj Tryz.prog 44 2=some ⟨49,2,[(.slot 4)],KN⟩:=by kernel_rfl
def Qy:AC:=(sr_ [bf_ 4] (.seq (sr_ [v_ 5 0,c2 6 5 (nI_ 1) beq_] (i_ 6 (sr_ [v_ 7 1,m_ 8 [k_ (.int .i32 0),s_ 7] ble_,v_ 9 8,g1 10 9 1 .mv,g_ 11 9 true [s_ 10,k_ (.int .i32 256)] bls_,m_ 12 [s_ 9,s_ 11,k_ bF_] .pick,v_ 4 12] .ret) .skip)) (sr_ [v_ 13 0,c2 14 13 (nI_ 2) beq_,v_ 15 14,g1 16 15 1 .mv,g_ 17 15 true [k_ (.int .i32 0),s_ 16] ble_,m_ 18 [s_ 15,s_ 17,k_ bF_] .pick,v_ 19 18,g1 20 19 1 .mv,g_ 21 19 true [s_ 20,k_ (.int .i32 1114112)] bls_,m_ 22 [s_ 19,s_ 21,k_ bF_] .pick,v_ 23 22,g1 24 23 1 .mv,g_ 25 23 true [k_ (.int .i32 55296),s_ 24] ble_,g1 26 23 25 .mv,g1 27 26 1 .mv,g_ 28 26 true [s_ 27,k_ (.int .i32 57344)] bls_,g_ 29 23 true [s_ 26,s_ 28,k_ bF_] .pick,g1 30 23 29 nt,m_ 31 [s_ 23,s_ 30,k_ bF_] .pick,v_ 4 31] .ret)))
theorem ZL:Bj Tryz.prog 45 2=some ⟨32,2,[(.slot 4)],Qy⟩:=by kernel_rfl
def M1:AC:=(sr_ [o0 4 (.alloc (.agg [(nI_ 0),(nI_ 0),(nI_ 0),(nI_ 0),.nilS,.nilS]) 6)] (sr_ [v_ 5 0,v_ 6 1,m_ 7 [s_ 5,s_ 6,k_ (nI_ 1)] (.build [(nI_ 0),(nI_ 0),(nI_ 0),(nI_ 0),.nilS,.nilS] [(0,1),(1,1),(2,1),(3,1),(4,1),(5,1)] [0,1,2]),n2 4 7 (.store 6)] .ret))
theorem Ue:Bj Tryz.prog 46 2=some ⟨8,2,[(.cell 4 true 6)],M1⟩:=by kernel_rfl
def CS:AC:=(sr_ [o1 4 1 .box,z_ 6] (.seq (sr_ [v_ 24 0,k1 25 48 24] (i_ 25 (sr_ [v_ 26 2,v_ 6 26] .ret) .skip)) (.seq (sr_ [o1 27 4 f0_,o1 28 27 ld] (.block 0 (.seq (sr_ [c2 30 28 (nI_ 1) beq_,v_ 29 30] (i_ 29 .skip (.reg [c2 31 28 (nI_ 2) beq_,v_ 29 31]))) (i_ 29 (sr_ [v_ 32 0,k1 33 86 32,v_ 7 33] (sr_ [ns_ 8] (.seq (sr_ [o1 34 4 f0_,o1 35 34 ld,c2 36 35 (nI_ 1) beq_] (i_ 36 (.reg [o1 37 4 f2_,o1 38 37 ld,m_ 39 [k_ (.fn 84 []),k_ (nI_ 0),s_ 38] .call,o1 40 39 (.bslice 6 1 (.agg [(nI_ 0),(nI_ 0),(nI_ 0),(nI_ 0),(nI_ 0),.nilS]) [0]),v_ 8 40]) .skip)) (sr_ [v_ 41 0,v_ 42 2,v_ 43 7,o1 44 4 f1_,o1 45 44 ld,v_ 46 8,m_ 47 [k_ (.fn 87 []),s_ 41,s_ 42,s_ 43,s_ 45,s_ 46] .call] (sr_ [v_ 48 7,v_ 6 48] .ret))))) (sr_ [c2 50 28 (nI_ 3) beq_,v_ 49 50] (i_ 49 (sr_ [v_ 51 0,v_ 52 2,o1 53 4 f4_,o1 54 53 ld,k3 55 88 51 52 54,v_ 2 55] (.seq (sr_ [o1 56 4 f3_,o1 57 56 ld,o1 58 57 ln,z_ 59] (.block 1 (.loop (sr_ [o2 60 59 58 bls_] (.seq (ex_ 60 1) (.seq (.block 2 (sr_ [o2 61 57 59 a1_,o1 62 61 ld,v_ 10 62] (.seq (sr_ [v_ 63 0,k1 64 48 63] (i_ 64 (.exit 1) .skip)) (sr_ [v_ 65 0,k1 66 86 65,v_ 11 66] (sr_ [v_ 67 0,v_ 68 2,v_ 69 11,v_ 70 10,o1 71 70 (.conv .i64),v_ 72 10,o1 73 72 (.conv .i64),o2 74 71 73 (.build [(nI_ 0),(nI_ 0)] [(0,1),(1,1)] [0,1]),o1 75 74 (.bslice 2 1 (.agg [(nI_ 0),(nI_ 0)]) [0]),m_ 76 [k_ (.fn 87 []),s_ 67,s_ 68,s_ 69,s_ 75,k_ .nilS] .call] (.reg [v_ 77 11,v_ 2 77])))))) (.reg [i1_ 78 59,v_ 59 78]))))))) (sr_ [v_ 79 2,v_ 6 79] .ret))) (sr_ [c2 81 28 (nI_ 5) beq_,v_ 80 81] (i_ 80 (sr_ [v_ 82 0,k1 83 86 82,v_ 12 83] (.seq (sr_ [o1 84 4 f5_,o1 85 84 ld,o1 86 85 ln,z_ 87] (.block 3 (.loop (sr_ [o2 88 87 86 bls_] (.seq (ex_ 88 3) (.seq (.block 4 (sr_ [o2 89 85 87 a6_,o1 90 89 l6,o0 14 (.alloc (.agg [(nI_ 0),.nilS,(nI_ 0),.nilS,.nilS,.nilS]) 6),n2 14 90 (.store 6)] (sr_ [v_ 91 0,k1 92 86 91,v_ 15 92] (sr_ [v_ 93 0,v_ 94 2,v_ 95 15,m_ 96 [k_ (.fn 87 []),s_ 93,s_ 94,s_ 95,k_ .nilS,k_ .nilS] .call] (.reg [v_ 97 0,v_ 98 0,o1 99 14 l6,v_ 100 15,k3 101 47 98 99 100,v_ 102 12,m_ 103 [k_ (.fn 87 []),s_ 97,s_ 101,s_ 102,k_ .nilS,k_ .nilS] .call]))))) (.reg [i1_ 104 87,v_ 87 104]))))))) (sr_ [v_ 105 12,v_ 6 105] .ret))) (sr_ [c2 107 28 (nI_ 6) beq_,v_ 106 107] (i_ 106 (sr_ [v_ 108 0,k1 109 86 108,v_ 16 109] (sr_ [v_ 110 0,v_ 111 2,v_ 112 16,m_ 113 [k_ (.fn 87 []),s_ 110,s_ 111,s_ 112,k_ .nilS,k_ .nilS] .call] (sr_ [v_ 114 0,k1 115 86 114,v_ 17 115] (sr_ [v_ 116 0,v_ 117 16,v_ 118 17,m_ 119 [k_ (.fn 87 []),s_ 116,s_ 117,s_ 118,k_ .nilS,k_ .nilS] .call] (sr_ [v_ 120 17,v_ 18 120] (.seq (sr_ [o1 121 4 f5_,o1 122 121 ld,o1 123 122 ln,z_ 124] (.block 5 (.loop (sr_ [o2 125 124 123 bls_] (.seq (ex_ 125 5) (.seq (.block 6 (sr_ [o2 126 122 124 a6_,o1 127 126 l6,o0 20 (.alloc (.agg [(nI_ 0),.nilS,(nI_ 0),.nilS,.nilS,.nilS]) 6),n2 20 127 (.store 6)] (.reg [v_ 128 0,o1 129 20 l6,v_ 130 18,k3 131 47 128 129 130,v_ 18 131]))) (.reg [i1_ 132 124,v_ 124 132]))))))) (sr_ [v_ 133 0,v_ 134 18,v_ 135 16,m_ 136 [k_ (.fn 87 []),s_ 133,s_ 134,s_ 135,k_ .nilS,k_ .nilS] .call] (sr_ [v_ 137 0,k1 138 86 137,v_ 21 138] (sr_ [v_ 139 0,v_ 140 16,v_ 141 21,m_ 142 [k_ (.fn 87 []),s_ 139,s_ 140,s_ 141,k_ .nilS,k_ .nilS] .call] (sr_ [v_ 143 21,v_ 6 143] .ret)))))))))) .skip)))))))))) (.seq (sr_ [o1 144 4 f5_,o1 145 144 ld,o1 146 145 ln,z_ 147] (.block 7 (.loop (sr_ [o2 148 147 146 bls_] (.seq (ex_ 148 7) (.seq (.block 8 (sr_ [o2 149 145 147 a6_,o1 150 149 l6,o0 23 (.alloc (.agg [(nI_ 0),.nilS,(nI_ 0),.nilS,.nilS,.nilS]) 6),n2 23 150 (.store 6)] (.reg [v_ 151 0,o1 152 23 l6,v_ 153 2,k3 154 47 151 152 153,v_ 2 154]))) (.reg [i1_ 155 147,v_ 147 155]))))))) (sr_ [v_ 156 2,v_ 6 156] .ret)))))
theorem Dv:Bj Tryz.prog 47 3=some ⟨157,3,[(.slot 6)],CS⟩:=by kernel_rfl
def HN:AC:=(sr_ [bf_ 2] (sr_ [v_ 3 0,o1 4 3 .nilCheck,o1 5 4 (.faddr true 0 6),o1 6 5 f2_,o1 7 6 ld,c2 8 7 (nI_ 1024) bgt_,v_ 9 8,g_ 10 9 false [s_ 0] .mv,g_ 11 9 false [s_ 10] .nilCheck,g_ 12 9 false [s_ 11] (.faddr true 0 6),g_ 13 9 false [s_ 12] f4_,g_ 14 9 false [s_ 13] ld,g_ 15 9 false [s_ 14] ln,g_ 16 9 false [s_ 15,k_ (nI_ 4096)] bgt_,m_ 17 [s_ 9,k_ bT_,s_ 16] .pick,v_ 2 17] .ret))
theorem LL:Bj Tryz.prog 48 1=some ⟨18,1,[(.slot 2)],HN⟩:=by kernel_rfl
def Oj:AC:=(sr_ [bf_ 2] (sr_ [v_ 3 0,o1 4 3 ln,c2 5 4 (nI_ 1) bge_,v_ 6 5,g1 7 6 0 .mv,g1 8 6 7 ln,g_ 9 6 true [s_ 8,k_ (nI_ 64)] ble_,m_ 10 [s_ 6,s_ 9,k_ bF_] .pick,v_ 11 10,g1 12 11 0 .mv,g1 13 11 0 .mv,g_ 14 11 true [k_ (.fn 90 []),s_ 13] .call,g_ 15 11 true [k_ (.fn 89 []),s_ 12,s_ 14] .call,m_ 16 [s_ 11,s_ 15,k_ bF_] .pick,v_ 17 16,g1 18 17 0 .mv,g_ 19 17 true [k_ (.fn 52 []),k_ (nI_ 2)] .call,g_ 20 17 true [k_ (.fn 50 []),s_ 18,s_ 19,k_ (nI_ 2)] .call,g1 21 17 20 ln,g_ 22 17 true [s_ 21,k_ (nI_ 0)] beq_,m_ 23 [s_ 17,s_ 22,k_ bF_] .pick,v_ 2 23] .ret))
theorem VG:Bj Tryz.prog 49 1=some ⟨24,1,[(.slot 2)],Oj⟩:=by kernel_rfl
def M2:AC:=(sr_ [ns_ 6] (sr_ [ns_ 7] (sr_ [v_ 15 0,v_ 16 1,k2 17 91 15 16,v_ 8 17] (.seq (sr_ [z_ 9] (.block 0 (.loop (.seq (sr_ [v_ 18 9,v_ 19 8,o1 20 19 ln,o2 21 18 20 bls_] (ex_ 21 0)) (.seq (.block 1 (.seq (.dtl [v_ 24 0,v_ 25 8,v_ 26 9,o2 27 25 26 a1_,o1 28 27 ld,k2 29 92 24 28,v_ 30 1,v_ 31 8,v_ 32 9,o2 33 31 32 a1_,o1 34 33 ld] [k2 35 92 30 34,v_ 10 29,v_ 11 35]) (sr_ [v_ 36 10,v_ 37 36,g_ 38 37 false [s_ 11] .mv,m_ 39 [s_ 37,k_ bT_,s_ 38] .pick,v_ 12 39] (.seq (sr_ [v_ 40 2,c2 41 40 (nI_ 1) beq_] (i_ 41 (.reg [v_ 42 10,v_ 43 42,g1 44 43 11 .mv,m_ 45 [s_ 43,s_ 44,k_ bF_] .pick,v_ 12 45]) .skip)) (.seq (sr_ [v_ 46 2,c2 47 46 (nI_ 2) beq_] (i_ 47 (.reg [v_ 48 10,v_ 49 48,g1 50 49 11 .mv,g1 51 49 50 nt,m_ 52 [s_ 49,s_ 51,k_ bF_] .pick,v_ 12 52]) .skip)) (.seq (sr_ [v_ 53 12,o1 54 53 nt] (i_ 54 (.exit 1) .skip)) (sr_ [c1 13 (nI_ 1073741824) .mv] (.seq (sr_ [v_ 55 9,i1_ 56 55,v_ 57 8,o1 58 57 ln,o2 59 56 58 bls_] (i_ 59 (.reg [v_ 60 8,v_ 61 9,i1_ 62 61,o2 63 60 62 a1_,o1 64 63 ld,c2 65 64 (nI_ 1) bsu_,v_ 13 65]) .skip)) (sr_ [v_ 66 7,o1 67 66 ln,v_ 14 67] (.seq (.dreg [v_ 68 14,c2 69 68 (nI_ 0) bgt_,v_ 70 69,g1 71 70 7 .mv,g1 72 70 14 .mv,g_ 73 70 true [s_ 72,k_ (nI_ 1)] bsu_,g2 74 70 71 73 a2_,g1 75 70 74 f1_,g1 76 70 75 ld,g1 77 70 8 .mv,g1 78 70 9 .mv,g2 79 70 77 78 a1_,g1 80 70 79 ld,g_ 81 70 true [s_ 80,k_ (nI_ 1)] bsu_,g2 82 70 76 81 beq_,m_ 83 [s_ 70,s_ 82,k_ bF_] .pick]) (i_ 83 (.reg [v_ 84 7,v_ 85 14,c2 86 85 (nI_ 1) bsu_,v_ 87 13,o2 88 84 86 a2_,o1 89 88 f1_,n2 89 87 st]) (.reg [v_ 90 7,v_ 91 8,v_ 92 9,o2 93 91 92 a1_,o1 94 93 ld,v_ 95 13,o2 96 94 95 (.build [(nI_ 0),(nI_ 0)] [(0,1),(1,1)] [0,1]),o1 97 96 (.bslice 2 1 (.agg [(nI_ 0),(nI_ 0)]) [0]),o2 98 90 97 (.app 2 16 (.agg [(nI_ 0),(nI_ 0)])),v_ 7 98])))))))))))) (.reg [v_ 22 9,i1_ 23 22,v_ 9 23])))))) (sr_ [v_ 99 7,v_ 6 99] .ret)))))
theorem Uf:Bj Tryz.prog 50 3=some ⟨100,3,[(.slot 6)],M2⟩:=by kernel_rfl
def M3:AC:=(sr_ [ns_ 4] (.seq (sr_ [v_ 8 1,c2 9 8 (nI_ 2147483648) bgt_,v_ 10 9,g_ 11 10 false [s_ 1] .mv,g_ 12 10 false [s_ 11,k_ (nI_ (-2147483648))] bls_,m_ 13 [s_ 10,k_ bT_,s_ 12] .pick] (i_ 13 (sr_ [ns_ 4] .ret) .skip)) (sr_ [v_ 14 0,k1 15 90 14,v_ 5 15] (sr_ [ns_ 6] (.seq (sr_ [z_ 7] (.block 0 (.loop (.seq (sr_ [v_ 16 7,v_ 17 5,o1 18 17 ln,o2 19 16 18 bls_] (ex_ 19 0)) (.seq (.block 1 (.dtl [v_ 22 6,v_ 23 5,v_ 24 7,o2 25 23 24 a2_,o1 26 25 f0_,o1 27 26 ld,v_ 28 1,o2 29 27 28 bad_,v_ 30 5,v_ 31 7,o2 32 30 31 a2_,o1 33 32 f1_,o1 34 33 ld,v_ 35 1,o2 36 34 35 bad_,o2 37 29 36 (.build [(nI_ 0),(nI_ 0)] [(0,1),(1,1)] [0,1]),o1 38 37 (.bslice 2 1 (.agg [(nI_ 0),(nI_ 0)]) [0])] [o2 39 22 38 (.app 2 16 (.agg [(nI_ 0),(nI_ 0)])),v_ 6 39])) (.reg [v_ 20 7,i1_ 21 20,v_ 7 21])))))) (sr_ [v_ 40 6,k1 41 90 40,v_ 4 41] .ret))))))
theorem Ug:Bj Tryz.prog 51 2=some ⟨42,2,[(.slot 4)],M3⟩:=by kernel_rfl
def JJ:AC:=(sr_ [ns_ 2] (.seq (sr_ [v_ 3 0,c2 4 3 (nI_ 1) beq_] (i_ 4 (sr_ [m_ 5 [k_ (nI_ 0),k_ (nI_ 255)] (.build [(nI_ 0),(nI_ 0)] [(0,1),(1,1)] [0,1]),o1 6 5 (.bslice 2 1 (.agg [(nI_ 0),(nI_ 0)]) [0]),v_ 2 6] .ret) .skip)) (.seq (sr_ [v_ 7 0,c2 8 7 (nI_ 2) beq_] (i_ 8 (sr_ [m_ 9 [k_ (nI_ 0),k_ (nI_ 55295)] (.build [(nI_ 0),(nI_ 0)] [(0,1),(1,1)] [0,1]),m_ 10 [k_ (nI_ 57344),k_ (nI_ 1114111)] (.build [(nI_ 0),(nI_ 0)] [(0,1),(1,1)] [0,1]),o2 11 9 10 (.bslice 2 2 (.agg [(nI_ 0),(nI_ 0)]) [0,1]),v_ 2 11] .ret) .skip)) (sr_ [ns_ 2] .ret))))
theorem PI:Bj Tryz.prog 52 1=some ⟨12,1,[(.slot 2)],JJ⟩:=by kernel_rfl
def IW:AC:=(sr_ [o1 1 0 .box,bf_ 2] (.seq (sr_ [o1 5 1 f0_,o1 6 5 ld] (.block 0 (sr_ [c2 8 6 (nI_ 3) beq_,v_ 7 8] (i_ 7 (sr_ [o1 9 1 f3_,o1 10 9 ld,o1 11 10 ln,c2 12 11 (nI_ 0) beq_,v_ 2 12] .ret) (sr_ [c2 14 6 (nI_ 4) beq_,v_ 13 14] (i_ 13 (.seq (sr_ [z_ 3] (.block 1 (.loop (.seq (sr_ [v_ 15 3,o1 16 1 f5_,o1 17 16 ld,o1 18 17 ln,o2 19 15 18 bls_] (ex_ 19 1)) (.seq (.block 2 (sr_ [o1 22 1 f5_,o1 23 22 ld,v_ 24 3,o2 25 23 24 a6_,o1 26 25 l6,k1 27 53 26,o1 28 27 nt] (i_ 28 (sr_ [bf_ 2] .ret) .skip))) (.reg [v_ 20 3,i1_ 21 20,v_ 3 21])))))) (sr_ [bt_ 2] .ret)) (sr_ [c2 30 6 (nI_ 5) beq_,v_ 29 30] (i_ 29 (sr_ [z_ 4] (.block 3 (.loop (.seq (sr_ [v_ 31 4,o1 32 1 f5_,o1 33 32 ld,o1 34 33 ln,o2 35 31 34 bls_] (ex_ 35 3)) (.seq (.block 4 (sr_ [o1 38 1 f5_,o1 39 38 ld,v_ 40 4,o2 41 39 40 a6_,o1 42 41 l6,k1 43 53 42] (i_ 43 (sr_ [bt_ 2] .ret) .skip))) (.reg [v_ 36 4,i1_ 37 36,v_ 4 37])))))) .skip)))))))) (sr_ [o1 44 1 f0_,o1 45 44 ld,c2 46 45 (nI_ 6) beq_,v_ 2 46] .ret)))
theorem Ol:Bj Tryz.prog 53 1=some ⟨47,1,[(.slot 2)],IW⟩:=by kernel_rfl
def IA:AC:=(sr_ [o1 2 0 .box,o1 3 1 .box,bf_ 4] (sr_ [o1 5 2 f0_,o1 6 5 ld,o1 7 3 f0_,o1 8 7 ld,o2 9 6 8 beq_,v_ 10 9,g1 11 10 2 f1_,g1 12 10 11 ld,g1 13 10 3 f1_,g1 14 10 13 ld,g2 15 10 12 14 beq_,m_ 16 [s_ 10,s_ 15,k_ bF_] .pick,v_ 17 16,g1 18 17 2 f3_,g1 19 17 18 ld,g1 20 17 3 f3_,g1 21 17 20 ld,g2 22 17 19 21 beq_,m_ 23 [s_ 17,s_ 22,k_ bF_] .pick,v_ 24 23,g1 25 24 2 f2_,g1 26 24 25 ld,g1 27 24 3 f2_,g1 28 24 27 ld,g_ 29 24 true [k_ (.fn 55 []),s_ 26,s_ 28] .call,m_ 30 [s_ 24,s_ 29,k_ bF_] .pick,v_ 31 30,g1 32 31 2 f4_,g1 33 31 32 ld,g1 34 31 3 f4_,g1 35 31 34 ld,g_ 36 31 true [k_ (.fn 56 []),s_ 33,s_ 35] .call,m_ 37 [s_ 31,s_ 36,k_ bF_] .pick,v_ 4 37] .ret))
theorem Ni:Bj Tryz.prog 54 2=some ⟨38,2,[(.slot 4)],IA⟩:=by kernel_rfl
def IB:AC:=(sr_ [bf_ 4] (.seq (sr_ [v_ 6 0,o1 7 6 ln,v_ 8 1,o1 9 8 ln,o2 10 7 9 bne_] (i_ 10 (sr_ [bf_ 4] .ret) .skip)) (.seq (sr_ [z_ 5] (.block 0 (.loop (.seq (sr_ [v_ 11 5,v_ 12 0,o1 13 12 ln,o2 14 11 13 bls_] (ex_ 14 0)) (.seq (.block 1 (.seq (.dtl [v_ 17 0,v_ 18 5,o2 19 17 18 a1_,o1 20 19 ld,v_ 21 1,v_ 22 5,o2 23 21 22 a1_,o1 24 23 ld] [k2 25 89 20 24,o1 26 25 nt]) (i_ 26 (sr_ [bf_ 4] .ret) .skip))) (.reg [v_ 15 5,i1_ 16 15,v_ 5 16])))))) (sr_ [bt_ 4] .ret))))
theorem Nj:Bj Tryz.prog 55 2=some ⟨27,2,[(.slot 4)],IB⟩:=by kernel_rfl
def HO:AC:=(sr_ [bf_ 4] (.seq (sr_ [v_ 6 0,o1 7 6 ln,v_ 8 1,o1 9 8 ln,o2 10 7 9 bne_] (i_ 10 (sr_ [bf_ 4] .ret) .skip)) (.seq (sr_ [z_ 5] (.block 0 (.loop (.seq (sr_ [v_ 11 5,v_ 12 0,o1 13 12 ln,o2 14 11 13 bls_] (ex_ 14 0)) (.seq (.block 1 (.seq (.dtl [v_ 17 0,v_ 18 5,o2 19 17 18 a6_,o1 20 19 l6,v_ 21 1,v_ 22 5,o2 23 21 22 a6_,o1 24 23 l6] [k2 25 93 20 24,o1 26 25 nt]) (i_ 26 (sr_ [bf_ 4] .ret) .skip))) (.reg [v_ 15 5,i1_ 16 15,v_ 5 16])))))) (sr_ [bt_ 4] .ret))))
theorem LM:Bj Tryz.prog 56 2=some ⟨27,2,[(.slot 4)],HO⟩:=by kernel_rfl
def Gg:AC:=(sr_ [o1 3 0 .box,ns_ 6,bf_ 7] (sr_ [ns_ 8] (.seq (sr_ [o1 21 3 f0_,o1 22 21 ld] (.block 0 (.seq (sr_ [c2 24 22 (nI_ 1) beq_,v_ 23 24] (i_ 23 .skip (.reg [c2 25 22 (nI_ 2) beq_,v_ 23 25]))) (i_ 23 (sr_ [z_ 9] (.block 1 (.loop (.seq (sr_ [v_ 26 9,v_ 27 2,o1 28 27 ln,o2 29 26 28 bls_] (ex_ 29 1)) (.seq (.block 2 (sr_ [v_ 32 2,v_ 33 9,o2 34 32 33 a2_,o1 35 34 f0_,o1 36 35 ld,v_ 10 36] (.seq (.dtl [v_ 37 10,v_ 38 1,o1 39 38 ln,o2 40 37 39 bls_,v_ 41 40,g1 42 41 3 f1_,g1 43 41 42 ld,g1 44 41 1 .mv,g1 45 41 10 .mv,g2 46 41 44 45 a1_,g1 47 41 46 ld,g1 48 41 47 (.conv .i64)] [g_ 49 41 true [k_ (.fn 92 []),s_ 43,s_ 48] .call,m_ 50 [s_ 41,s_ 49,k_ bF_] .pick]) (i_ 50 (sr_ [ns_ 11] (sr_ [v_ 51 11,v_ 52 2,v_ 53 9,o2 54 52 53 a2_,o1 55 54 f1_,o1 56 55 ld,o2 57 51 56 (.app 1 4 (.int .i32 0)),v_ 11 57] (.seq (sr_ [o1 58 3 f0_,o1 59 58 ld,c2 60 59 (nI_ 1) beq_] (i_ 60 (.dtl [v_ 61 11,v_ 62 1,v_ 63 10,o2 64 62 63 a1_,o1 65 64 ld,o1 66 3 f2_,o1 67 66 ld,o1 68 67 (.conv .i32),o2 69 65 68 bad_,o1 70 69 (.bslice 1 1 (.int .i32 0) [0])] [o2 71 61 70 (.app 1 4 (.int .i32 0)),v_ 11 71]) .skip)) (.reg [v_ 72 8,v_ 73 10,i1_ 74 73,v_ 75 11,o2 76 74 75 (.build [(nI_ 0),.nilS] [(0,1),(1,1)] [0,1]),k2 77 94 72 76,v_ 8 77])))) .skip)))) (.reg [v_ 30 9,i1_ 31 30,v_ 9 31])))))) (sr_ [c2 79 22 (nI_ 3) beq_,v_ 78 79] (i_ 78 (sr_ [z_ 12] (.block 3 (.loop (.seq (sr_ [v_ 80 12,v_ 81 2,o1 82 81 ln,o2 83 80 82 bls_] (ex_ 83 3)) (.seq (.block 4 (sr_ [v_ 86 2,v_ 87 12,o2 88 86 87 a2_,o1 89 88 f0_,o1 90 89 ld,v_ 13 90] (.seq (.dtl [v_ 91 1,o1 92 91 ln,v_ 93 13,o2 94 92 93 bsu_,o1 95 3 f3_,o1 96 95 ld,o1 97 96 ln,o2 98 94 97 bge_,v_ 99 98,g1 100 99 1 .mv,g1 101 99 13 .mv,g1 102 99 13 .mv,g1 103 99 3 f3_,g1 104 99 103 ld,g1 105 99 104 ln,g2 106 99 102 105 bad_,g_ 107 99 true [s_ 100,s_ 101,s_ 106] (.slice 1 true true false),g1 108 99 3 f3_,g1 109 99 108 ld] [g_ 110 99 true [k_ (.fn 68 []),s_ 107,s_ 109] .call,m_ 111 [s_ 99,s_ 110,k_ bF_] .pick]) (i_ 111 (sr_ [ns_ 14] (sr_ [v_ 112 14,v_ 113 2,v_ 114 12,o2 115 113 114 a2_,o1 116 115 f1_,o1 117 116 ld,o2 118 112 117 (.app 1 4 (.int .i32 0)),v_ 14 118] (sr_ [v_ 119 14,o1 120 3 f4_,o1 121 120 ld,o2 122 119 121 (.app 1 4 (.int .i32 0)),v_ 14 122] (.reg [v_ 123 8,v_ 124 13,o1 125 3 f3_,o1 126 125 ld,o1 127 126 ln,o2 128 124 127 bad_,v_ 129 14,o2 130 128 129 (.build [(nI_ 0),.nilS] [(0,1),(1,1)] [0,1]),k2 131 94 123 130,v_ 8 131])))) .skip)))) (.reg [v_ 84 12,i1_ 85 84,v_ 12 85])))))) (sr_ [c2 133 22 (nI_ 4) beq_,v_ 132 133] (i_ 132 (sr_ [v_ 134 2,v_ 8 134] (sr_ [z_ 15] (.block 5 (.loop (.seq (sr_ [v_ 135 15,o1 136 3 f5_,o1 137 136 ld,o1 138 137 ln,o2 139 135 138 bls_] (ex_ 139 5)) (.seq (.block 6 (sr_ [bf_ 16] (sr_ [o1 143 3 f5_,o1 144 143 ld,v_ 145 15,o2 146 144 145 a6_,o1 147 146 l6,v_ 148 1,v_ 149 8,k3 150 57 147 148 149,v_ 142 150,o1 151 142 (.extract 0),o1 152 142 (.extract 1),v_ 8 151,v_ 16 152] (sr_ [v_ 153 16,o1 154 153 nt] (i_ 154 (sr_ [ns_ 6,bf_ 7] .ret) .skip))))) (.reg [v_ 140 15,i1_ 141 140,v_ 15 141]))))))) (sr_ [c2 156 22 (nI_ 5) beq_,v_ 155 156] (i_ 155 (sr_ [z_ 17] (.block 7 (.loop (.seq (sr_ [v_ 157 17,o1 158 3 f5_,o1 159 158 ld,o1 160 159 ln,o2 161 157 160 bls_] (ex_ 161 7)) (.seq (.block 8 (sr_ [o1 165 3 f5_,o1 166 165 ld,v_ 167 17,o2 168 166 167 a6_,o1 169 168 l6,v_ 170 1,v_ 171 2,k3 172 57 169 170 171,v_ 164 172,o1 173 164 (.extract 0),o1 174 164 (.extract 1),v_ 18 173,v_ 19 174] (.seq (sr_ [v_ 175 19,o1 176 175 nt] (i_ 176 (sr_ [ns_ 6,bf_ 7] .ret) .skip)) (sr_ [z_ 20] (.block 9 (.loop (.seq (sr_ [v_ 177 20,v_ 178 18,o1 179 178 ln,o2 180 177 179 bls_] (ex_ 180 9)) (.seq (.block 10 (.reg [v_ 183 8,v_ 184 18,v_ 185 20,o2 186 184 185 a2_,o1 187 186 (.load true 2),k2 188 94 183 187,v_ 8 188])) (.reg [v_ 181 20,i1_ 182 181,v_ 20 182]))))))))) (.reg [v_ 162 17,i1_ 163 162,v_ 17 163])))))) (sr_ [c2 190 22 (nI_ 6) beq_,v_ 189 190] (i_ 189 (sr_ [o1 191 3 l6,v_ 192 1,v_ 193 2,k3 194 95 191 192 193,o1 195 194 (.extract 0),o1 196 194 (.extract 1),v_ 6 195,v_ 7 196] .ret) .skip)))))))))))) (sr_ [v_ 197 8,v_ 198 8,o1 199 198 ln,c2 200 199 (nI_ 400) ble_,v_ 6 197,v_ 7 200] .ret))))
theorem GH:Bj Tryz.prog 57 3=some ⟨201,3,[(.slot 6),(.slot 7)],Gg⟩:=by kernel_rfl
def Om:AC:=(sr_ [ns_ 4] (sr_ [v_ 10 0,o1 11 10 ln,z_ 5,v_ 6 11] (.seq (.block 0 (.loop (.seq (sr_ [v_ 12 5,v_ 13 6,o2 14 12 13 bls_] (ex_ 14 0)) (.block 1 (sr_ [v_ 15 5,v_ 16 6,o2 17 15 16 bad_,c2 18 17 (nI_ 2) (.bin .quo),v_ 7 18] (sr_ [v_ 19 0,v_ 20 7,o2 21 19 20 a1_,o1 22 21 ld,v_ 23 1,k2 24 96 22 23,c2 25 24 (nI_ 0) bls_] (i_ 25 (.reg [v_ 26 7,i1_ 27 26,v_ 5 27]) (.reg [v_ 28 7,v_ 6 28])))))))) (.seq (sr_ [v_ 29 5,v_ 30 0,o1 31 30 ln,o2 32 29 31 bls_,v_ 33 32,g1 34 33 0 .mv,g1 35 33 5 .mv,g2 36 33 34 35 a1_,g1 37 33 36 ld,g1 38 33 1 .mv,g_ 39 33 true [k_ (.fn 96 []),s_ 37,s_ 38] .call,g_ 40 33 true [s_ 39,k_ (nI_ 0)] beq_,m_ 41 [s_ 33,s_ 40,k_ bF_] .pick] (i_ 41 (sr_ [v_ 42 0,v_ 4 42] .ret) .skip)) (sr_ [ns_ 8] (.seq (sr_ [z_ 9] (.block 2 (.loop (.seq (sr_ [v_ 43 9,v_ 44 0,o1 45 44 ln,o2 46 43 45 bls_] (ex_ 46 2)) (.seq (.block 3 (.seq (sr_ [v_ 49 9,v_ 50 5,o2 51 49 50 beq_] (i_ 51 (.reg [v_ 52 8,v_ 53 1,o1 54 53 (.bslice 1 1 .nilS [0]),o2 55 52 54 (.app 1 24 .nilS),v_ 8 55]) .skip)) (.reg [v_ 56 8,v_ 57 0,v_ 58 9,o2 59 57 58 a1_,o1 60 59 ld,o1 61 60 (.bslice 1 1 .nilS [0]),o2 62 56 61 (.app 1 24 .nilS),v_ 8 62]))) (.reg [v_ 47 9,i1_ 48 47,v_ 9 48])))))) (.seq (sr_ [v_ 63 5,v_ 64 0,o1 65 64 ln,o2 66 63 65 beq_] (i_ 66 (.reg [v_ 67 8,v_ 68 1,o1 69 68 (.bslice 1 1 .nilS [0]),o2 70 67 69 (.app 1 24 .nilS),v_ 8 70]) .skip)) (sr_ [v_ 71 8,v_ 4 71] .ret))))))))
theorem VH:Bj Tryz.prog 58 2=some ⟨72,2,[(.slot 4)],Om⟩:=by kernel_rfl
def On:AC:=(sr_ [o1 2 0 .box,z_ 4] (.seq (.block 0 (sr_ [o1 6 2 l6,k1 7 25 6,c2 8 7 (nI_ 0) bne_,v_ 5 8] (i_ 5 (sr_ [c1 4 (nI_ 2) .mv] .ret) (sr_ [v_ 10 1,o1 11 10 ln,c2 12 11 (nI_ 1024) bgt_,v_ 9 12] (i_ 9 (sr_ [c1 4 (nI_ 4) .mv] .ret) (sr_ [o1 14 2 f0_,o1 15 14 ld,v_ 16 1,k2 17 97 15 16,o1 18 17 nt,v_ 13 18] (i_ 13 (sr_ [c1 4 (nI_ 1) .mv] .ret) .skip))))))) (sr_ [z_ 4] .ret)))
theorem VI:Bj Tryz.prog 59 2=some ⟨19,2,[(.slot 4)],On⟩:=by kernel_rfl
def Oo:AC:=(sr_ [o1 2 0 .box,c1 4 .nilP .mv] (.seq (.gry [true,false,true,true,false,true,true,false,false,false,false,false] [m_ 18 [s_ 2] l6,m_ 19 [s_ 1] .mv,m_ 20 [s_ 2] f2_,m_ 21 [s_ 20] ld,m_ 22 [s_ 21,s_ 21] (.mkSlice 1 24 .nilS),m_ 23 [s_ 2] f2_,m_ 24 [s_ 23] ld,m_ 25 [s_ 24,s_ 24] (.mkSlice 1 24 .nilS),m_ 26 [s_ 18,s_ 19,s_ 22,s_ 25] (.build [(nI_ 0),(nI_ 0),(nI_ 0),(nI_ 0),.nilS,.nilS,.nilS,.nilS,.nilS,.nilS,.nilS] [(0,6),(6,1),(7,1),(8,1),(9,1),(10,1)] [0,1,2,3]),m_ 27 [s_ 26] .box,m_ 5 [] (.alloc .nilP 1),h_ [s_ 5,s_ 27] st]) (.seq (sr_ [o1 28 2 f4_,o1 29 28 ld,o1 30 29 ln,z_ 31] (.block 0 (.loop (sr_ [o2 32 31 30 bls_] (.seq (ex_ 32 0) (.seq (.block 1 (sr_ [v_ 33 31,o2 34 29 31 a5_,o1 35 34 (.load true 5),o0 7 (.alloc (.agg [(nI_ 0),(nI_ 0),.nilS,(nI_ 0),.nilS]) 5),v_ 6 33,n2 7 35 (.store 5)] (.grx [true,false,true,true,true,true,true,false,true,true,true,true,true,false,false,false,false,false,false] [m_ 36 [s_ 5] ld,m_ 37 [s_ 36] .nilCheck,m_ 38 [s_ 37] (.faddr false 7 1),m_ 39 [s_ 38] ld,m_ 40 [s_ 7] f0_,m_ 41 [s_ 40] ld,m_ 42 [s_ 5] ld,m_ 43 [s_ 42] .nilCheck,m_ 44 [s_ 43] (.faddr false 7 1),m_ 45 [s_ 44] ld,m_ 46 [s_ 7] f0_,m_ 47 [s_ 46] ld,m_ 48 [s_ 45,s_ 47] a1_,m_ 49 [s_ 48] ld,m_ 50 [s_ 6] .mv,m_ 51 [s_ 50] (.bslice 1 1 (nI_ 0) [0]),m_ 52 [s_ 49,s_ 51] (.app 1 8 (nI_ 0)),m_ 53 [s_ 39,s_ 41] a1_,h_ [s_ 53,s_ 52] st]))) (.reg [i1_ 54 31,v_ 31 54]))))))) (.seq (sr_ [o1 55 2 f5_,o1 56 55 ld,o1 57 56 ln,z_ 58] (.block 2 (.loop (sr_ [o2 59 58 57 bls_] (.seq (ex_ 59 2) (.seq (.block 3 (sr_ [v_ 60 58,o2 61 56 58 a3_,o1 62 61 (.load true 3),o0 9 (.alloc (.agg [(nI_ 0),.nilS,.nilS]) 3),v_ 8 60,n2 9 62 (.store 3)] (.grx [true,false,true,true,true,true,true,false,true,true,true,true,true,false,false,false,false,false,false] [m_ 63 [s_ 5] ld,m_ 64 [s_ 63] .nilCheck,m_ 65 [s_ 64] (.faddr false 8 1),m_ 66 [s_ 65] ld,m_ 67 [s_ 9] f0_,m_ 68 [s_ 67] ld,m_ 69 [s_ 5] ld,m_ 70 [s_ 69] .nilCheck,m_ 71 [s_ 70] (.faddr false 8 1),m_ 72 [s_ 71] ld,m_ 73 [s_ 9] f0_,m_ 74 [s_ 73] ld,m_ 75 [s_ 72,s_ 74] a1_,m_ 76 [s_ 75] ld,m_ 77 [s_ 8] .mv,m_ 78 [s_ 77] (.bslice 1 1 (nI_ 0) [0]),m_ 79 [s_ 76,s_ 78] (.app 1 8 (nI_ 0)),m_ 80 [s_ 66,s_ 68] a1_,h_ [s_ 80,s_ 79] st]))) (.reg [i1_ 81 58,v_ 58 81]))))))) (sr_ [o1 82 2 f2_,o1 83 82 ld,o2 84 83 83 (.mkSlice 1 1 bF_),v_ 10 84] (.seq (sr_ [o1 85 2 f2_,o1 86 85 ld,z_ 87] (.block 4 (.loop (sr_ [o2 88 87 86 bls_] (.seq (ex_ 88 4) (.seq (.block 5 (sr_ [v_ 89 87,v_ 11 89] (.reg [o1 90 5 ld,v_ 91 11,v_ 92 10,k3 93 98 90 91 92]))) (.reg [i1_ 94 87,v_ 87 94]))))))) (.seq (.greg [o1 95 5 ld,v_ 96 1,o1 97 96 ln,i1_ 98 97,o1 99 2 f2_,o1 100 99 ld,o2 101 98 100 (.bin .mul),o2 102 101 101 (.mkSlice 1 1 bF_),o1 103 95 .nilCheck,o1 104 103 (.faddr false 10 1),n2 104 102 st]) (.seq (.dtl [o1 105 5 ld,o1 106 105 .nilCheck,o1 107 106 (.faddr false 10 1),o1 108 107 ld,o1 109 2 f3_,o1 110 109 ld,o2 111 108 110 a1_] [h_ [s_ 111,k_ bT_] st]) (.seq (sr_ [o0 12 (.alloc (nI_ 0) 1),h_ [s_ 12,k_ (nI_ 0)] st] (.block 6 (.loop (.seq (sr_ [o1 112 12 ld,v_ 113 1,o1 114 113 ln,o2 115 112 114 ble_] (ex_ 115 6)) (.seq (.block 7 (sr_ [o1 118 5 ld,o1 119 118 .nilCheck,o1 120 119 (.faddr false 9 1),o1 121 120 ld,k1 122 99 121] (.block 8 (.rng (.slot 122) [123,124] (.reg [v_ 14 124]) (.block 9 (.seq (.seq (.dreg [o1 125 5 ld,o1 126 125 .nilCheck,o1 127 126 (.faddr false 10 1),o1 128 127 ld,o1 129 12 ld,o1 130 2 f2_,o1 131 130 ld,o2 132 129 131 (.bin .mul),v_ 133 14,o2 134 132 133 bad_,o2 135 128 134 a1_,o1 136 135 ld,o1 137 136 nt]) (i_ 137 (.exit 9) .skip)) (sr_ [o1 138 5 ld,o1 139 138 .nilCheck,o1 140 139 (.faddr false 7 1),o1 141 140 ld,v_ 142 14,o2 143 141 142 a1_,o1 144 143 ld,o1 145 144 ln,z_ 146] (.block 10 (.loop (sr_ [o2 147 146 145 bls_] (.seq (ex_ 147 10) (.seq (.block 11 (sr_ [o2 148 144 146 a1_,o1 149 148 ld,v_ 16 149] (sr_ [o1 150 2 f4_,o1 151 150 ld,v_ 152 16,o2 153 151 152 a5_,o1 154 153 (.load true 5),o0 17 (.alloc (.agg [(nI_ 0),(nI_ 0),.nilS,(nI_ 0),.nilS]) 5),n2 17 154 (.store 5)] (sr_ [o1 155 5 ld,o1 156 17 f2_,o1 157 156 ld,o1 158 12 ld,k3 159 65 155 157 158] (i_ 159 (.dtl [o1 160 5 ld,o1 161 160 .nilCheck,o1 162 161 (.faddr false 10 1),o1 163 162 ld,o1 164 12 ld,o1 165 17 f3_,o1 166 165 ld,o2 167 164 166 bad_,o1 168 2 f2_,o1 169 168 ld,o2 170 167 169 (.bin .mul),o1 171 17 f1_,o1 172 171 ld,o2 173 170 172 bad_,o2 174 163 173 a1_] [h_ [s_ 174,k_ bT_] st]) .skip))))) (.reg [i1_ 175 146,v_ 146 175]))))))))))))) (.seq (sr_ [o1 176 12 ld] (.reg [o0 12 (.alloc (nI_ 0) 1),n2 12 176 st])) (.reg [o1 116 12 ld,i1_ 117 116,n2 12 117 st]))))))) (sr_ [o1 177 5 ld,v_ 4 177] .ret))))))))))
theorem VJ:Bj Tryz.prog 60 2=some ⟨178,2,[(.slot 4)],Oo⟩:=by kernel_rfl
def HR:AC:=(sr_ [v_ 7 0,o1 8 7 .nilCheck,o1 9 8 (.faddr false 6 1),o1 10 9 ld,o1 11 10 ln,v_ 4 11] (.block 0 (.loop (.seq (sr_ [v_ 12 4,c2 13 12 (nI_ 0) bge_] (ex_ 13 0)) (.seq (.block 1 (sr_ [v_ 16 0,o1 17 16 .nilCheck,o1 18 17 (.faddr false 9 1),o1 19 18 ld,o1 20 19 ln,z_ 21] (.block 2 (.loop (sr_ [o2 22 21 20 bls_] (.seq (ex_ 22 2) (.seq (.block 3 (sr_ [o2 23 19 21 a1_,o1 24 23 ld,v_ 6 24] (.seq (.dreg [v_ 25 0,o1 26 25 .nilCheck,o1 27 26 (.faddr false 10 1),o1 28 27 ld,v_ 29 4,v_ 30 0,o1 31 30 .nilCheck,o1 32 31 (.faddr true 0 6),o1 33 32 f2_,o1 34 33 ld,o2 35 29 34 (.bin .mul),v_ 36 6,o2 37 35 36 bad_,o2 38 28 37 a1_,o1 39 38 ld]) (i_ 39 (.reg [v_ 40 1,v_ 41 4,v_ 42 6,o3 43 40 41 42 .call]) .skip)))) (.reg [i1_ 44 21,v_ 21 44])))))))) (.reg [v_ 14 4,c2 15 14 (nI_ 1) bsu_,v_ 4 15]))))))
theorem LN:Bj Tryz.prog 61 2=some ⟨45,2,[],HR⟩:=by kernel_rfl
def IX:AC:=(.seq (sr_ [o1 19 2 ld] (i_ 19 .ret .skip)) (sr_ [ns_ 9] (.seq (sr_ [o1 20 3 ld,o1 21 20 .nilCheck,o1 22 21 (.faddr false 8 1),o1 23 22 ld,v_ 24 1,o2 25 23 24 a1_,o1 26 25 ld,o1 27 26 ln,z_ 28] (.block 0 (.loop (sr_ [o2 29 28 27 bls_] (.seq (ex_ 29 0) (.seq (.block 1 (sr_ [o2 30 26 28 a1_,o1 31 30 ld,v_ 11 31] (sr_ [o1 32 4 f5_,o1 33 32 ld,v_ 34 11,o2 35 33 34 a3_,o1 36 35 (.load true 3),o0 12 (.alloc (.agg [(nI_ 0),.nilS,.nilS]) 3),n2 12 36 (.store 3)] (sr_ [o1 37 3 ld,o1 38 12 (.load true 3),v_ 39 0,k3 40 63 37 38 39] (i_ 40 (.reg [v_ 41 9,o1 42 3 ld,o1 43 12 f2_,o1 44 43 ld,v_ 45 0,o1 46 12 f1_,o1 47 46 ld,o1 48 47 ln,m_ 49 [k_ (.fn 64 []),s_ 42,s_ 44,s_ 45,s_ 48] .call,o1 50 49 (.bslice 1 1 .nilS [0]),o2 51 41 50 (.app 1 24 .nilS),v_ 9 51]) .skip))))) (.reg [i1_ 52 28,v_ 28 52]))))))) (.seq (sr_ [o1 53 3 ld,o1 54 53 .nilCheck,o1 55 54 (.faddr false 7 1),o1 56 55 ld,v_ 57 1,o2 58 56 57 a1_,o1 59 58 ld,o1 60 59 ln,z_ 61] (.block 2 (.loop (sr_ [o2 62 61 60 bls_] (.seq (ex_ 62 2) (.seq (.block 3 (sr_ [o2 63 59 61 a1_,o1 64 63 ld,v_ 14 64] (sr_ [o1 65 4 f4_,o1 66 65 ld,v_ 67 14,o2 68 66 67 a5_,o1 69 68 (.load true 5),o0 15 (.alloc (.agg [(nI_ 0),(nI_ 0),.nilS,(nI_ 0),.nilS]) 5),n2 15 69 (.store 5)] (.seq (sr_ [o1 70 3 ld,o1 71 15 f2_,o1 72 71 ld,v_ 73 0,k3 74 65 70 72 73,o1 75 74 nt] (i_ 75 (.exit 3) .skip)) (sr_ [o1 76 3 ld,o1 77 15 f4_,o1 78 77 ld,v_ 79 0,o1 80 15 f2_,o1 81 80 ld,o1 82 81 ln,m_ 83 [k_ (.fn 64 []),s_ 76,s_ 78,s_ 79,s_ 82] .call,v_ 16 83] (sr_ [o1 84 5 ld,v_ 85 0,o1 86 15 f3_,o1 87 86 ld,o2 88 85 87 bad_,o1 89 4 f2_,o1 90 89 ld,o2 91 88 90 (.bin .mul),o1 92 15 f1_,o1 93 92 ld,o2 94 91 93 bad_,o2 95 84 94 a1_,o1 96 95 ld,o1 97 96 ln,z_ 98] (.block 4 (.loop (sr_ [o2 99 98 97 bls_] (.seq (ex_ 99 4) (.seq (.block 5 (sr_ [o2 100 96 98 a1_,o1 101 100 ld,v_ 18 101] (.reg [v_ 102 9,v_ 103 16,v_ 104 18,o2 105 103 104 (.bslice 1 2 .nilS [0,1]),k1 106 66 105,o1 107 106 (.bslice 1 1 .nilS [0]),o2 108 102 107 (.app 1 24 .nilS),v_ 9 108]))) (.reg [i1_ 109 98,v_ 98 109])))))))))))) (.reg [i1_ 110 61,v_ 61 110]))))))) (sr_ [v_ 111 9,k1 112 67 111,v_ 9 112] (sr_ [v_ 113 9,o1 114 113 ln,o1 115 6 ld,o2 116 114 115 bgt_,n2 2 116 st] (.reg [o1 117 5 ld,v_ 118 0,o1 119 4 f2_,o1 120 119 ld,o2 121 118 120 (.bin .mul),v_ 122 1,o2 123 121 122 bad_,v_ 124 9,o2 125 117 123 a1_,n2 125 124 st])))))))
theorem Oq:Bj Tryz.prog 62 7=some ⟨126,7,[],IX⟩:=by kernel_rfl
def HS:AC:=(sr_ [o1 4 1 .box,bf_ 6] (.seq (.dtl [o1 7 4 f1_,o1 8 7 ld,o1 9 8 ln,v_ 10 0,o1 11 10 .nilCheck,o1 12 11 (.faddr false 6 1),o1 13 12 ld,o1 14 13 ln,v_ 15 2,o2 16 14 15 bsu_,o2 17 9 16 beq_,v_ 18 17,g1 19 18 0 .mv,g1 20 18 4 f1_,g1 21 18 20 ld,g1 22 18 2 .mv] [g_ 23 18 true [k_ (.fn 65 []),s_ 19,s_ 21,s_ 22] .call,m_ 24 [s_ 18,s_ 23,k_ bF_] .pick,v_ 6 24]) .ret))
theorem LO:Bj Tryz.prog 63 3=some ⟨25,3,[(.slot 6)],HS⟩:=by kernel_rfl
def Hi:AC:=(sr_ [ns_ 8] (sr_ [ns_ 9] (.seq (sr_ [v_ 14 1,o1 15 14 ln,z_ 16] (.block 0 (.loop (sr_ [o2 17 16 15 bls_] (.seq (ex_ 17 0) (.seq (.block 1 (sr_ [o2 18 14 16 a6_,o1 19 18 l6,o0 11 (.alloc (.agg [(nI_ 0),(nI_ 0),(nI_ 0),(nI_ 0),(nI_ 0),.nilS]) 6),n2 11 19 (.store 6)] (.seq (.dreg [o1 21 11 l6,v_ 22 0,o1 23 22 .nilCheck,o1 24 23 (.faddr false 6 1),o1 25 24 ld,v_ 26 2,v_ 27 2,v_ 28 3,o2 29 27 28 bad_,o3 30 25 26 29 (.slice 1 true true false),k2 31 100 21 30,v_ 20 31,o1 32 20 (.extract 0),o1 33 20 (.extract 1),v_ 12 32,v_ 13 33]) (.reg [v_ 34 9,v_ 35 12,o1 36 35 (.conv .i32),o1 37 36 (.bslice 1 1 (.int .i32 0) [0]),o2 38 34 37 (.app 1 4 (.int .i32 0)),v_ 9 38])))) (.reg [i1_ 39 16,v_ 16 39]))))))) (sr_ [v_ 40 9,v_ 8 40] .ret))))
theorem Ko:Bj Tryz.prog 64 4=some ⟨41,4,[(.slot 8)],Hi⟩:=by kernel_rfl
def HT:AC:=(sr_ [bf_ 6] (.seq (sr_ [v_ 9 1,o1 10 9 ln,v_ 11 0,o1 12 11 .nilCheck,o1 13 12 (.faddr false 6 1),o1 14 13 ld,o1 15 14 ln,v_ 16 2,o2 17 15 16 bsu_,o2 18 10 17 bgt_] (i_ 18 (sr_ [bf_ 6] .ret) .skip)) (.seq (sr_ [v_ 19 1,o1 20 19 ln,z_ 21] (.block 0 (.loop (sr_ [o2 22 21 20 bls_] (.seq (ex_ 22 0) (.seq (.block 1 (sr_ [v_ 23 21,o2 24 19 21 a1_,o1 25 24 ld,v_ 7 23,v_ 8 25] (sr_ [v_ 26 8,v_ 27 0,o1 28 27 .nilCheck,o1 29 28 (.faddr false 6 1),o1 30 29 ld,v_ 31 2,v_ 32 7,o2 33 31 32 bad_,o2 34 30 33 a1_,o1 35 34 ld,o1 36 35 (.conv .i64),k2 37 101 26 36,o1 38 37 nt] (i_ 38 (sr_ [bf_ 6] .ret) .skip)))) (.reg [i1_ 39 21,v_ 21 39]))))))) (sr_ [bt_ 6] .ret))))
theorem LP:Bj Tryz.prog 65 3=some ⟨40,3,[(.slot 6)],HT⟩:=by kernel_rfl
def EC:AC:=(sr_ [ns_ 2] (sr_ [z_ 3] (.seq (sr_ [v_ 9 0,o1 10 9 ln,z_ 11] (.block 0 (.loop (sr_ [o2 12 11 10 bls_] (.seq (ex_ 12 0) (.seq (.block 1 (sr_ [o2 13 9 11 a1_,o1 14 13 ld,v_ 5 14] (sr_ [v_ 15 3,v_ 16 5,o1 17 16 ln,o2 18 15 17 bad_,v_ 3 18] (sr_ [v_ 19 3,c2 20 19 (nI_ 0) bls_] (i_ 20 (.reg [c1 21 (.str [108,101,110,32,111,117,116,32,111,102,32,114,97,110,103,101]) .no,h_ [s_ 21] .no]) .skip))))) (.reg [i1_ 22 11,v_ 11 22]))))))) (sr_ [v_ 23 3,m_ 24 [k_ (.fn 102 []),k_ .nilS,s_ 23] .call,v_ 6 24] (.seq (sr_ [v_ 25 0,o1 26 25 ln,z_ 27] (.block 2 (.loop (sr_ [o2 28 27 26 bls_] (.seq (ex_ 28 2) (.seq (.block 3 (sr_ [o2 29 25 27 a1_,o1 30 29 ld,v_ 8 30] (.reg [v_ 31 6,v_ 32 8,o2 33 31 32 (.app 1 4 (.int .i32 0)),v_ 6 33]))) (.reg [i1_ 34 27,v_ 27 34]))))))) (sr_ [v_ 35 6,v_ 2 35] .ret))))))
theorem FP:Bj Tryz.prog 66 1=some ⟨36,1,[(.slot 2)],EC⟩:=by kernel_rfl
def Ot:AC:=(sr_ [ns_ 2] (sr_ [v_ 6 0,o1 7 6 ln,o2 8 7 7 (.mkSlice 1 24 .nilS),v_ 3 8] (.seq (sr_ [v_ 9 0,o1 10 9 ln,z_ 11] (.block 0 (.loop (sr_ [o2 12 11 10 bls_] (.seq (ex_ 12 0) (.seq (.block 1 (sr_ [v_ 13 11,o2 14 9 11 a1_,o1 15 14 ld,v_ 4 13,v_ 5 15] (.reg [v_ 16 3,v_ 17 4,v_ 18 5,k1 19 103 18,o2 20 16 17 a1_,n2 20 19 st]))) (.reg [i1_ 21 11,v_ 11 21]))))))) (sr_ [v_ 22 3,m_ 23 [k_ (.fn 104 []),s_ 22,k_ (.fn 105 [])] .call] (sr_ [v_ 24 3,m_ 25 [k_ (.fn 106 []),s_ 24,k_ (.fn 107 [])] .call,v_ 2 25] .ret)))))
theorem VK:Bj Tryz.prog 67 1=some ⟨26,1,[(.slot 2)],Ot⟩:=by kernel_rfl
def M4:AC:=(sr_ [bf_ 4] (.seq (sr_ [v_ 6 0,o1 7 6 ln,v_ 8 1,o1 9 8 ln,o2 10 7 9 bne_] (i_ 10 (sr_ [bf_ 4] .ret) .skip)) (.seq (sr_ [z_ 5] (.block 0 (.loop (.seq (sr_ [v_ 11 5,v_ 12 0,o1 13 12 ln,o2 14 11 13 bls_] (ex_ 14 0)) (.seq (.block 1 (.seq (.dreg [v_ 17 0,v_ 18 5,o2 19 17 18 a1_,o1 20 19 ld,v_ 21 1,v_ 22 5,o2 23 21 22 a1_,o1 24 23 ld,o2 25 20 24 bne_]) (i_ 25 (sr_ [bf_ 4] .ret) .skip))) (.reg [v_ 15 5,i1_ 16 15,v_ 5 16])))))) (sr_ [bt_ 4] .ret))))
theorem Uh:Bj Tryz.prog 68 2=some ⟨26,2,[(.slot 4)],M4⟩:=by kernel_rfl
def M5:AC:=(sr_ [o1 1 0 .box,z_ 2,z_ 3] (.seq (sr_ [o1 8 1 l6,k1 9 108 8,o1 10 9 nt] (i_ 10 (sr_ [c1 2 (nI_ 1) .mv,z_ 3] .ret) .skip)) (.seq (sr_ [o1 11 1 f4_,o1 12 11 ld,o1 13 12 ln,z_ 14] (.block 0 (.loop (sr_ [o2 15 14 13 bls_] (.seq (ex_ 15 0) (.seq (.block 1 (sr_ [v_ 16 14,o2 17 12 14 a5_,o1 18 17 (.load true 5),o0 5 (.alloc (.agg [(nI_ 0),(nI_ 0),.nilS,(nI_ 0),.nilS]) 5),v_ 4 16,n2 5 18 (.store 5)] (sr_ [o1 19 1 l6,o1 20 5 (.load true 5),k2 21 109 19 20,o1 22 21 nt] (i_ 22 (sr_ [v_ 23 4,c1 2 (nI_ 2) .mv,v_ 3 23] .ret) .skip)))) (.reg [i1_ 24 14,v_ 14 24]))))))) (.seq (sr_ [o1 25 1 f5_,o1 26 25 ld,o1 27 26 ln,z_ 28] (.block 2 (.loop (sr_ [o2 29 28 27 bls_] (.seq (ex_ 29 2) (.seq (.block 3 (sr_ [v_ 30 28,o2 31 26 28 a3_,o1 32 31 (.load true 3),o0 7 (.alloc (.agg [(nI_ 0),.nilS,.nilS]) 3),v_ 6 30,n2 7 32 (.store 3)] (sr_ [o1 33 1 l6,o1 34 7 f0_,o1 35 34 ld,k2 36 110 33 35,o1 37 36 nt,v_ 38 37,g_ 39 38 false [s_ 1] f0_,g_ 40 38 false [s_ 39] ld,g_ 41 38 false [s_ 7] f1_,g_ 42 38 false [s_ 41] ld,g_ 43 38 false [k_ (.fn 111 []),s_ 40,s_ 42] .call,g_ 44 38 false [s_ 43] nt,m_ 45 [s_ 38,k_ bT_,s_ 44] .pick,v_ 46 45,g_ 47 46 false [s_ 1] l6,g_ 48 46 false [s_ 7] f2_,g_ 49 46 false [s_ 48] ld,g_ 50 46 false [s_ 7] f1_,g_ 51 46 false [s_ 50] ld,g_ 52 46 false [k_ (.fn 112 []),s_ 47,s_ 49,s_ 51] .call,g_ 53 46 false [s_ 52] nt,m_ 54 [s_ 46,k_ bT_,s_ 53] .pick] (i_ 54 (sr_ [v_ 55 6,c1 2 (nI_ 3) .mv,v_ 3 55] .ret) .skip)))) (.reg [i1_ 56 28,v_ 28 56]))))))) (.seq (sr_ [o1 57 1 l6,k1 58 113 57] (i_ 58 (sr_ [c1 2 (nI_ 4) .mv,z_ 3] .ret) .skip)) (sr_ [z_ 2,z_ 3] .ret))))))
theorem Ui:Bj Tryz.prog 69 1=some ⟨59,1,[(.slot 2),(.slot 3)],M5⟩:=by kernel_rfl
def M6:AC:=(sr_ [o1 2 0 .box,bf_ 4,bf_ 5] (.seq (sr_ [v_ 13 1,c2 14 13 (nI_ 64) bgt_] (i_ 14 (sr_ [bf_ 4,bf_ 5] .ret) .skip)) (.seq (sr_ [o1 15 2 f0_,o1 16 15 ld] (.block 0 (sr_ [c2 18 16 (nI_ 1) beq_,v_ 17 18] (i_ 17 (.seq (sr_ [o1 19 2 f2_,o1 20 19 ld,c2 21 20 (nI_ (-1114111)) bls_,v_ 22 21,g_ 23 22 false [s_ 2] f2_,g_ 24 22 false [s_ 23] ld,g_ 25 22 false [s_ 24,k_ (nI_ 1114111)] bgt_,m_ 26 [s_ 22,k_ bT_,s_ 25] .pick,v_ 27 26,g_ 28 27 false [s_ 2] f1_,g_ 29 27 false [s_ 28] ld,g_ 30 27 false [k_ (.fn 114 []),s_ 29] .call,g_ 31 27 false [s_ 30] nt,m_ 32 [s_ 27,k_ bT_,s_ 31] .pick] (i_ 32 (sr_ [bf_ 4,bf_ 5] .ret) .skip)) (sr_ [o1 33 2 f1_,o1 34 33 ld,o1 35 2 f2_,o1 36 35 ld,k2 37 115 34 36,v_ 6 37] (sr_ [v_ 38 6,m_ 39 [k_ (.fn 83 []),k_ (nI_ 2)] .call,k2 40 116 38 39,v_ 4 40,bf_ 5] .ret))) (sr_ [c2 42 16 (nI_ 2) beq_,v_ 41 42] (i_ 41 (sr_ [o1 43 2 f1_,o1 44 43 ld,k1 45 114 44,v_ 4 45,bf_ 5] .ret) (sr_ [c2 47 16 (nI_ 3) beq_,v_ 46 47] (i_ 46 (.seq (.dreg [o1 48 2 f3_,o1 49 48 ld,m_ 50 [k_ (.fn 97 []),k_ (nI_ 2),s_ 49] .call,v_ 51 50,g1 52 51 2 f4_,g1 53 51 52 ld,g_ 54 51 true [k_ (.fn 97 []),k_ (nI_ 2),s_ 53] .call,m_ 55 [s_ 51,s_ 54,k_ bF_] .pick,o1 56 2 f3_,o1 57 56 ld,o1 58 57 ln,c2 59 58 (nI_ 0) beq_,v_ 4 55,v_ 5 59]) .ret) (.seq (sr_ [c2 61 16 (nI_ 4) beq_,v_ 60 61] (i_ 60 .skip (sr_ [c2 62 16 (nI_ 5) beq_,v_ 60 62] (i_ 60 .skip (.reg [c2 63 16 (nI_ 6) beq_,v_ 60 63]))))) (i_ 60 (sr_ [bt_ 7,bf_ 8] (.seq (sr_ [o1 64 2 f5_,o1 65 64 ld,o1 66 65 ln,z_ 67] (.block 1 (.loop (sr_ [o2 68 67 66 bls_] (.seq (ex_ 68 1) (.seq (.block 2 (sr_ [o2 69 65 67 a6_,o1 70 69 l6,o0 10 (.alloc (.agg [(nI_ 0),.nilS,(nI_ 0),.nilS,.nilS,.nilS]) 6),n2 10 70 (.store 6)] (sr_ [o1 72 10 l6,v_ 73 1,i1_ 74 73,k2 75 70 72 74,v_ 71 75,o1 76 71 (.extract 0),o1 77 71 (.extract 1),v_ 11 76,v_ 12 77] (.seq (sr_ [v_ 78 11,o1 79 78 nt] (i_ 79 (sr_ [bf_ 4,bf_ 5] .ret) .skip)) (.reg [v_ 80 7,v_ 81 80,g1 82 81 12 .mv,m_ 83 [s_ 81,s_ 82,k_ bF_] .pick,v_ 84 8,v_ 85 84,g_ 86 85 false [s_ 12] .mv,m_ 87 [s_ 85,k_ bT_,s_ 86] .pick,v_ 7 83,v_ 8 87]))))) (.reg [i1_ 88 67,v_ 67 88]))))))) (.seq (sr_ [o1 89 2 f0_,o1 90 89 ld] (.block 3 (sr_ [c2 92 90 (nI_ 4) beq_,v_ 91 92] (i_ 91 (sr_ [v_ 93 7,bt_ 4,v_ 5 93] .ret) (sr_ [c2 95 90 (nI_ 5) beq_,v_ 94 95] (i_ 94 (sr_ [v_ 96 8,bt_ 4,v_ 5 96] .ret) .skip)))))) (sr_ [v_ 97 7,o1 98 97 nt,v_ 99 7,o1 100 99 nt,v_ 4 98,v_ 5 100] .ret)))) .skip)))))))))) (sr_ [bf_ 4,bf_ 5] .ret))))
theorem Uj:Bj Tryz.prog 70 2=some ⟨101,2,[(.slot 4),(.slot 5)],M6⟩:=by kernel_rfl
def KO:AC:=(sr_ [ns_ 2] (.seq (sr_ [v_ 3 0] (.block 0 (sr_ [c2 5 3 (nI_ 1) beq_,v_ 4 5] (i_ 4 (sr_ [m_ 6 [k_ (nI_ 0),k_ (nI_ 255)] (.build [(nI_ 0),(nI_ 0)] [(0,1),(1,1)] [0,1]),o1 7 6 (.bslice 2 1 (.agg [(nI_ 0),(nI_ 0)]) [0]),v_ 2 7] .ret) (sr_ [c2 9 3 (nI_ 2) beq_,v_ 8 9] (i_ 8 (sr_ [m_ 10 [k_ (nI_ 0),k_ (nI_ 55295)] (.build [(nI_ 0),(nI_ 0)] [(0,1),(1,1)] [0,1]),m_ 11 [k_ (nI_ 57344),k_ (nI_ 1114111)] (.build [(nI_ 0),(nI_ 0)] [(0,1),(1,1)] [0,1]),o2 12 10 11 (.bslice 2 2 (.agg [(nI_ 0),(nI_ 0)]) [0,1]),v_ 2 12] .ret) .skip)))))) (sr_ [ns_ 2] .ret)))
theorem RV:Bj Tryz.prog 83 1=some ⟨13,1,[(.slot 2)],KO⟩:=by kernel_rfl
def Ou:AC:=(sr_ [o0 4 (.alloc (.agg [(nI_ 0),(nI_ 0),(nI_ 0),(nI_ 0),(nI_ 0),.nilS]) 6)] (sr_ [v_ 5 1,v_ 6 0,k1 7 129 6,o1 8 7 (.bslice 4 1 (.agg [(nI_ 0),(nI_ 0),(nI_ 0),(nI_ 0)]) [0]),m_ 9 [k_ (nI_ 21),s_ 5,s_ 8] (.build [(nI_ 0),(nI_ 0),(nI_ 0),(nI_ 0),(nI_ 0),.nilS] [(0,1),(1,1),(2,1),(3,1),(4,1),(5,1)] [2,4,5]),n2 4 9 (.store 6)] .ret))
theorem VL:Bj Tryz.prog 84 2=some ⟨10,2,[(.cell 4 true 6)],Ou⟩:=by kernel_rfl
def Hu:AC:=(sr_ [z_ 2] (sr_ [v_ 3 0,o1 4 3 .nilCheck,o1 5 4 (.faddr true 0 6),o1 6 5 f2_,o1 7 6 ld,i1_ 8 7,o1 9 3 .nilCheck,o1 10 9 (.faddr true 0 6),o1 11 10 f2_,n2 11 8 st] (sr_ [v_ 12 0,o1 13 12 .nilCheck,o1 14 13 (.faddr true 0 6),o1 15 14 f2_,o1 16 15 ld,c2 17 16 (nI_ 1) bsu_,v_ 2 17] .ret)))
theorem KP:Bj Tryz.prog 86 1=some ⟨18,1,[(.slot 2)],Hu⟩:=by kernel_rfl
def LQ:AC:=(sr_ [v_ 11 1,v_ 12 2,v_ 13 4,o3 14 11 12 13 (.build [(nI_ 0),(nI_ 0),.nilS,(nI_ 0),.nilS] [(0,1),(1,1),(2,1),(3,1),(4,1)] [0,1,4]),o0 10 (.alloc (.agg [(nI_ 0),(nI_ 0),.nilS,(nI_ 0),.nilS]) 5),n2 10 14 (.store 5)] (.seq (sr_ [v_ 15 3,o1 16 15 ln,c2 17 16 (nI_ 0) bgt_] (i_ 17 (.reg [o0 18 (.bslice 2 0 (.agg [(nI_ 0),(nI_ 0)]) []),v_ 19 3,o2 20 18 19 (.app 2 16 (.agg [(nI_ 0),(nI_ 0)])),o1 21 20 (.bslice 1 1 .nilS [0]),o1 22 10 f2_,n2 22 21 st,o1 23 10 f3_,h_ [s_ 23,k_ (nI_ 1)] st]) .skip)) (.grx [false,false,false,true,true,false,true,false,false,false,false,false,false] [m_ 24 [s_ 0] .mv,m_ 25 [s_ 0] .mv,m_ 26 [s_ 25] .nilCheck,m_ 27 [s_ 26] (.faddr true 0 6),m_ 28 [s_ 27] f4_,m_ 29 [s_ 28] ld,m_ 30 [s_ 10] (.load true 5),m_ 31 [s_ 30] (.bslice 5 1 (.agg [(nI_ 0),(nI_ 0),.nilS,(nI_ 0),.nilS]) [0]),m_ 32 [s_ 29,s_ 31] (.app 5 72 (.agg [(nI_ 0),(nI_ 0),.nilS,(nI_ 0),.nilS])),m_ 33 [s_ 24] .nilCheck,m_ 34 [s_ 33] (.faddr true 0 6),m_ 35 [s_ 34] f4_,h_ [s_ 35,s_ 32] st])))
theorem LR:Bj Tryz.prog 87 5=some ⟨36,5,[],LQ⟩:=by kernel_rfl
def Kp:AC:=(sr_ [z_ 6] (.seq (.block 0 (.loop (.seq (sr_ [v_ 12 2,o1 13 12 ln,c2 14 13 (nI_ 0) bgt_,v_ 15 14,g1 16 15 0 .mv,g_ 17 15 true [k_ (.fn 48 []),s_ 16] .call,g1 18 15 17 nt,m_ 19 [s_ 15,s_ 18,k_ bF_] .pick] (ex_ 19 0)) (.block 1 (sr_ [v_ 20 2,o1 21 20 ln,c2 22 21 (nI_ 64) .min,v_ 7 22] (sr_ [ns_ 8] (.seq (sr_ [v_ 23 2,v_ 24 7,o2 25 23 24 (.slice 1 false true false),o1 26 25 ln,z_ 27] (.block 2 (.loop (sr_ [o2 28 27 26 bls_] (.seq (ex_ 28 2) (.seq (.block 3 (sr_ [o2 29 25 27 a1_,o1 30 29 ld,v_ 10 30] (.reg [v_ 31 8,v_ 32 10,k1 33 130 32,o1 34 33 (.bslice 6 1 (.agg [(nI_ 0),(nI_ 0),(nI_ 0),(nI_ 0),(nI_ 0),.nilS]) [0]),o2 35 31 34 (.app 6 64 (.agg [(nI_ 0),(nI_ 0),(nI_ 0),(nI_ 0),(nI_ 0),.nilS])),v_ 8 35]))) (.reg [i1_ 36 27,v_ 27 36]))))))) (sr_ [v_ 37 0,k1 38 86 37,v_ 11 38] (sr_ [v_ 39 0,v_ 40 1,v_ 41 11,v_ 42 8,m_ 43 [k_ (.fn 87 []),s_ 39,s_ 40,s_ 41,k_ .nilS,s_ 42] .call] (.dreg [v_ 44 11,v_ 45 2,v_ 46 7,o2 47 45 46 (.slice 1 true false false),v_ 1 44,v_ 2 47])))))))))) (sr_ [v_ 48 1,v_ 6 48] .ret)))
theorem Kq:Bj Tryz.prog 88 3=some ⟨49,3,[(.slot 6)],Kp⟩:=by kernel_rfl
def M7:AC:=(sr_ [bf_ 4] (.seq (sr_ [v_ 6 0,o1 7 6 ln,v_ 8 1,o1 9 8 ln,o2 10 7 9 bne_] (i_ 10 (sr_ [bf_ 4] .ret) .skip)) (.seq (sr_ [z_ 5] (.block 0 (.loop (.seq (sr_ [v_ 11 5,v_ 12 0,o1 13 12 ln,o2 14 11 13 bls_] (ex_ 14 0)) (.seq (.block 1 (.seq (.dreg [v_ 17 0,v_ 18 5,o2 19 17 18 a2_,o1 20 19 (.load true 2),v_ 21 1,v_ 22 5,o2 23 21 22 a2_,o1 24 23 (.load true 2),o2 25 20 24 (.eqs true [1,1])]) (i_ 25 (sr_ [bf_ 4] .ret) .skip))) (.reg [v_ 15 5,i1_ 16 15,v_ 5 16])))))) (sr_ [bt_ 4] .ret))))
theorem Uk:Bj Tryz.prog 89 2=some ⟨26,2,[(.slot 4)],M7⟩:=by kernel_rfl
def M8:AC:=(sr_ [ns_ 2] (sr_ [v_ 3 0,m_ 4 [k_ (.fn 50 []),s_ 3,k_ .nilS,k_ (nI_ 0)] .call,v_ 2 4] .ret))
theorem Ul:Bj Tryz.prog 90 1=some ⟨5,1,[(.slot 2)],M8⟩:=by kernel_rfl
def IY:AC:=(sr_ [ns_ 4] (sr_ [c1 9 (nI_ (-1073741824)) (.bslice 1 1 (nI_ 0) [0]),v_ 5 9] (.seq (sr_ [z_ 6] (.block 0 (.loop (.seq (sr_ [v_ 10 6,c2 11 10 (nI_ 2) bls_] (ex_ 11 0)) (.seq (.block 1 (sr_ [v_ 14 0,v_ 7 14] (.seq (sr_ [v_ 15 6,c2 16 15 (nI_ 1) beq_] (i_ 16 (.reg [v_ 17 1,v_ 7 17]) .skip)) (sr_ [z_ 8] (.block 2 (.loop (.seq (sr_ [v_ 18 8,v_ 19 7,o1 20 19 ln,o2 21 18 20 bls_] (ex_ 21 2)) (.seq (.block 3 (.seq (sr_ [v_ 24 7,v_ 25 8,o2 26 24 25 a2_,o1 27 26 f0_,o1 28 27 ld,c2 29 28 (nI_ (-1073741824)) bgt_,v_ 30 29,g1 31 30 7 .mv,g1 32 30 8 .mv,g2 33 30 31 32 a2_,g1 34 30 33 f0_,g1 35 30 34 ld,g_ 36 30 true [s_ 35,k_ (nI_ 1073741824)] ble_,m_ 37 [s_ 30,s_ 36,k_ bF_] .pick] (i_ 37 (.reg [v_ 38 5,v_ 39 7,v_ 40 8,o2 41 39 40 a2_,o1 42 41 f0_,o1 43 42 ld,k2 44 131 38 43,v_ 5 44]) .skip)) (sr_ [v_ 45 7,v_ 46 8,o2 47 45 46 a2_,o1 48 47 f1_,o1 49 48 ld,c2 50 49 (nI_ (-1073741824)) bge_,v_ 51 50,g1 52 51 7 .mv,g1 53 51 8 .mv,g2 54 51 52 53 a2_,g1 55 51 54 f1_,g1 56 51 55 ld,g_ 57 51 true [s_ 56,k_ (nI_ 1073741824)] bls_,m_ 58 [s_ 51,s_ 57,k_ bF_] .pick] (i_ 58 (.reg [v_ 59 5,v_ 60 7,v_ 61 8,o2 62 60 61 a2_,o1 63 62 f1_,o1 64 63 ld,i1_ 65 64,k2 66 131 59 65,v_ 5 66]) .skip)))) (.reg [v_ 22 8,i1_ 23 22,v_ 8 23]))))))))) (.reg [v_ 12 6,i1_ 13 12,v_ 6 13])))))) (sr_ [v_ 67 5,v_ 4 67] .ret))))
theorem Ov:Bj Tryz.prog 91 2=some ⟨68,2,[(.slot 4)],IY⟩:=by kernel_rfl
def Ow:AC:=(sr_ [bf_ 4] (.seq (sr_ [z_ 5] (.block 0 (.loop (.seq (sr_ [v_ 6 5,v_ 7 0,o1 8 7 ln,o2 9 6 8 bls_] (ex_ 9 0)) (.seq (.block 1 (sr_ [v_ 12 0,v_ 13 5,o2 14 12 13 a2_,o1 15 14 f0_,o1 16 15 ld,v_ 17 1,o2 18 16 17 ble_,v_ 19 18,g1 20 19 1 .mv,g1 21 19 0 .mv,g1 22 19 5 .mv,g2 23 19 21 22 a2_,g1 24 19 23 f1_,g1 25 19 24 ld,g2 26 19 20 25 ble_,m_ 27 [s_ 19,s_ 26,k_ bF_] .pick,v_ 28 27,g1 29 28 1 .mv,g_ 30 28 true [s_ 29,k_ (nI_ (-1073741824))] bge_,m_ 31 [s_ 28,s_ 30,k_ bF_] .pick,v_ 32 31,g1 33 32 1 .mv,g_ 34 32 true [s_ 33,k_ (nI_ 1073741824)] ble_,m_ 35 [s_ 32,s_ 34,k_ bF_] .pick] (i_ 35 (sr_ [bt_ 4] .ret) .skip))) (.reg [v_ 10 5,i1_ 11 10,v_ 5 11])))))) (sr_ [bf_ 4] .ret)))
theorem VM:Bj Tryz.prog 92 2=some ⟨36,2,[(.slot 4)],Ow⟩:=by kernel_rfl
def M9:AC:=(sr_ [o1 2 0 .box,o1 3 1 .box,bf_ 4] (.seq (sr_ [o1 6 2 f0_,o1 7 6 ld,o1 8 3 f0_,o1 9 8 ld,o2 10 7 9 bne_,v_ 11 10,g_ 12 11 false [s_ 2] f1_,g_ 13 11 false [s_ 12] ld,g_ 14 11 false [s_ 3] f1_,g_ 15 11 false [s_ 14] ld,g_ 16 11 false [s_ 13,s_ 15] bne_,m_ 17 [s_ 11,k_ bT_,s_ 16] .pick,v_ 18 17,g_ 19 18 false [s_ 2] f2_,g_ 20 18 false [s_ 19] ld,g_ 21 18 false [s_ 3] f2_,g_ 22 18 false [s_ 21] ld,g_ 23 18 false [s_ 20,s_ 22] bne_,m_ 24 [s_ 18,k_ bT_,s_ 23] .pick,v_ 25 24,g_ 26 25 false [s_ 2] f3_,g_ 27 25 false [s_ 26] ld,g_ 28 25 false [s_ 3] f3_,g_ 29 25 false [s_ 28] ld,g_ 30 25 false [s_ 27,s_ 29] bne_,m_ 31 [s_ 25,k_ bT_,s_ 30] .pick,v_ 32 31,g_ 33 32 false [s_ 2] f4_,g_ 34 32 false [s_ 33] ld,g_ 35 32 false [s_ 3] f4_,g_ 36 32 false [s_ 35] ld,g_ 37 32 false [s_ 34,s_ 36] bne_,m_ 38 [s_ 32,k_ bT_,s_ 37] .pick,v_ 39 38,g_ 40 39 false [s_ 2] f5_,g_ 41 39 false [s_ 40] ld,g_ 42 39 false [s_ 41] ln,g_ 43 39 false [s_ 3] f5_,g_ 44 39 false [s_ 43] ld,g_ 45 39 false [s_ 44] ln,g_ 46 39 false [s_ 42,s_ 45] bne_,m_ 47 [s_ 39,k_ bT_,s_ 46] .pick] (i_ 47 (sr_ [bf_ 4] .ret) .skip)) (.seq (sr_ [z_ 5] (.block 0 (.loop (.seq (sr_ [v_ 48 5,o1 49 2 f5_,o1 50 49 ld,o1 51 50 ln,o2 52 48 51 bls_] (ex_ 52 0)) (.seq (.block 1 (.seq (.dreg [o1 55 2 f5_,o1 56 55 ld,v_ 57 5,o2 58 56 57 a4_,o1 59 58 (.load true 4),o1 60 3 f5_,o1 61 60 ld,v_ 62 5,o2 63 61 62 a4_,o1 64 63 (.load true 4),o2 65 59 64 (.eqs true [1,1,1,1])]) (i_ 65 (sr_ [bf_ 4] .ret) .skip))) (.reg [v_ 53 5,i1_ 54 53,v_ 5 54])))))) (sr_ [bt_ 4] .ret))))
theorem Um:Bj Tryz.prog 93 2=some ⟨66,2,[(.slot 4)],M9⟩:=by kernel_rfl
def VN:AC:=(sr_ [o1 3 1 .box,ns_ 4] (.seq (sr_ [z_ 5] (.block 0 (.loop (.seq (sr_ [v_ 6 5,v_ 7 0,o1 8 7 ln,o2 9 6 8 bls_] (ex_ 9 0)) (.seq (.block 1 (.seq (.dtl [v_ 12 0,v_ 13 5,o2 14 12 13 a2_,o1 15 14 f0_,o1 16 15 ld,o1 17 3 f0_,o1 18 17 ld,o2 19 16 18 beq_,v_ 20 19,g1 21 20 0 .mv,g1 22 20 5 .mv,g2 23 20 21 22 a2_,g1 24 20 23 f1_,g1 25 20 24 ld,g1 26 20 3 f1_,g1 27 20 26 ld] [g_ 28 20 true [k_ (.fn 68 []),s_ 25,s_ 27] .call,m_ 29 [s_ 20,s_ 28,k_ bF_] .pick]) (i_ 29 (sr_ [v_ 30 0,v_ 4 30] .ret) .skip))) (.reg [v_ 10 5,i1_ 11 10,v_ 5 11])))))) (sr_ [v_ 31 0,o1 32 3 (.load true 2),o1 33 32 (.bslice 2 1 (.agg [(nI_ 0),.nilS]) [0]),o2 34 31 33 (.app 2 32 (.agg [(nI_ 0),.nilS])),v_ 4 34] .ret)))
theorem VO:Bj Tryz.prog 94 2=some ⟨35,2,[(.slot 4)],VN⟩:=by kernel_rfl
def JK:AC:=(sr_ [o1 3 0 .box,ns_ 6,bf_ 7] (sr_ [ns_ 8] (.seq (sr_ [z_ 9] (.block 0 (.loop (.seq (sr_ [v_ 15 9,v_ 16 2,o1 17 16 ln,o2 18 15 17 bls_] (ex_ 18 0)) (.seq (.block 1 (.reg [v_ 21 8,v_ 22 2,v_ 23 9,o2 24 22 23 a2_,o1 25 24 (.load true 2),k2 26 94 21 25,v_ 8 26])) (.reg [v_ 19 9,i1_ 20 19,v_ 9 20])))))) (sr_ [v_ 27 2,v_ 10 27] (.seq (sr_ [z_ 11] (.block 2 (.loop (.seq (sr_ [v_ 28 11,v_ 29 1,o1 30 29 ln,o2 31 28 30 ble_,v_ 32 31,g1 33 32 10 .mv,g1 34 32 33 ln,g_ 35 32 true [s_ 34,k_ (nI_ 0)] bgt_,m_ 36 [s_ 32,s_ 35,k_ bF_] .pick] (ex_ 36 2)) (.seq (.block 3 (sr_ [o1 40 3 f5_,o1 41 40 ld,m_ 42 [k_ (nI_ 4),s_ 41] (.build [(nI_ 0),.nilS,(nI_ 0),.nilS,.nilS,.nilS] [(0,1),(1,1),(2,1),(3,1),(4,1),(5,1)] [0,5]),v_ 43 1,v_ 44 10,k3 45 57 42 43 44,v_ 39 45,o1 46 39 (.extract 0),o1 47 39 (.extract 1),v_ 12 46,v_ 13 47] (.seq (sr_ [v_ 48 13,o1 49 48 nt] (i_ 49 (sr_ [ns_ 6,bf_ 7] .ret) .skip)) (sr_ [v_ 50 12,v_ 10 50] (.seq (sr_ [z_ 14] (.block 4 (.loop (.seq (sr_ [v_ 51 14,v_ 52 12,o1 53 52 ln,o2 54 51 53 bls_,v_ 55 54,g1 56 55 8 .mv,g1 57 55 56 ln,g_ 58 55 true [s_ 57,k_ (nI_ 400)] ble_,m_ 59 [s_ 55,s_ 58,k_ bF_] .pick] (ex_ 59 4)) (.seq (.block 5 (.reg [v_ 62 8,v_ 63 12,v_ 64 14,o2 65 63 64 a2_,o1 66 65 (.load true 2),k2 67 94 62 66,v_ 8 67])) (.reg [v_ 60 14,i1_ 61 60,v_ 14 61])))))) (sr_ [v_ 68 8,o1 69 68 ln,c2 70 69 (nI_ 400) bgt_] (i_ 70 (sr_ [ns_ 6,bf_ 7] .ret) .skip))))))) (.reg [v_ 37 11,i1_ 38 37,v_ 11 38])))))) (sr_ [v_ 71 8,v_ 6 71,bt_ 7] .ret))))))
theorem PK:Bj Tryz.prog 95 3=some ⟨72,3,[(.slot 6),(.slot 7)],JK⟩:=by kernel_rfl
def IZ:AC:=(sr_ [z_ 4] (sr_ [v_ 6 0,v_ 7 1,k2 8 132 6 7,v_ 5 8] (.seq (sr_ [v_ 9 5,v_ 10 0,o1 11 10 ln,o2 12 9 11 bls_,v_ 13 12,g1 14 13 5 .mv,g1 15 13 1 .mv,g1 16 13 15 ln,g2 17 13 14 16 bls_,m_ 18 [s_ 13,s_ 17,k_ bF_] .pick] (i_ 18 (.seq (.seq (.dreg [v_ 19 0,v_ 20 5,o2 21 19 20 a1_,o1 22 21 ld,v_ 23 1,v_ 24 5,o2 25 23 24 a1_,o1 26 25 ld,o2 27 22 26 bls_]) (i_ 27 (sr_ [c1 4 (nI_ (-1)) .mv] .ret) .skip)) (sr_ [c1 4 (nI_ 1) .mv] .ret)) .skip)) (.seq (sr_ [v_ 28 0,o1 29 28 ln,v_ 30 1,o1 31 30 ln,o2 32 29 31 bls_] (i_ 32 (sr_ [c1 4 (nI_ (-1)) .mv] .ret) .skip)) (.seq (sr_ [v_ 33 0,o1 34 33 ln,v_ 35 1,o1 36 35 ln,o2 37 34 36 bgt_] (i_ 37 (sr_ [c1 4 (nI_ 1) .mv] .ret) .skip)) (sr_ [z_ 4] .ret))))))
theorem Ox:Bj Tryz.prog 96 2=some ⟨38,2,[(.slot 4)],IZ⟩:=by kernel_rfl
def Oy:AC:=(sr_ [bf_ 4] (.seq (sr_ [v_ 7 1,o1 8 7 ln,z_ 9] (.block 0 (.loop (sr_ [o2 10 9 8 bls_] (.seq (ex_ 10 0) (.seq (.block 1 (sr_ [o2 11 7 9 a1_,o1 12 11 ld,v_ 6 12] (sr_ [v_ 13 0,v_ 14 6,k2 15 133 13 14,o1 16 15 nt] (i_ 16 (sr_ [bf_ 4] .ret) .skip)))) (.reg [i1_ 17 9,v_ 9 17]))))))) (sr_ [bt_ 4] .ret)))
theorem VP:Bj Tryz.prog 97 2=some ⟨18,2,[(.slot 4)],Oy⟩:=by kernel_rfl
def HU:AC:=(.seq (sr_ [v_ 9 2,v_ 10 1,o2 11 9 10 a1_,o1 12 11 ld] (i_ 12 .ret .skip)) (sr_ [v_ 13 2,v_ 14 1,o2 15 13 14 a1_,h_ [s_ 15,k_ bT_] st] (.seq (sr_ [v_ 16 0,o1 17 16 .nilCheck,o1 18 17 (.faddr false 7 1),o1 19 18 ld,v_ 20 1,o2 21 19 20 a1_,o1 22 21 ld,o1 23 22 ln,z_ 24] (.block 0 (.loop (sr_ [o2 25 24 23 bls_] (.seq (ex_ 25 0) (.seq (.block 1 (sr_ [o2 26 22 24 a1_,o1 27 26 ld,v_ 7 27] (sr_ [v_ 28 0,o1 29 28 .nilCheck,o1 30 29 (.faddr true 0 6),o1 31 30 f4_,o1 32 31 ld,v_ 33 7,o2 34 32 33 a5_,o1 35 34 (.load true 5),o0 8 (.alloc (.agg [(nI_ 0),(nI_ 0),.nilS,(nI_ 0),.nilS]) 5),n2 8 35 (.store 5)] (sr_ [o1 36 8 f2_,o1 37 36 ld,o1 38 37 ln,c2 39 38 (nI_ 0) beq_] (i_ 39 (.reg [v_ 40 0,o1 41 8 f1_,o1 42 41 ld,v_ 43 2,k3 44 98 40 42 43]) .skip))))) (.reg [i1_ 45 24,v_ 24 45]))))))) (.reg [v_ 46 0,v_ 47 0,o1 48 47 .nilCheck,o1 49 48 (.faddr false 9 1),o1 50 49 ld,v_ 51 1,o1 52 51 (.bslice 1 1 (nI_ 0) [0]),o2 53 50 52 (.app 1 8 (nI_ 0)),o1 54 46 .nilCheck,o1 55 54 (.faddr false 9 1),n2 55 53 st]))))
theorem LS:Bj Tryz.prog 98 3=some ⟨56,3,[],HU⟩:=by kernel_rfl
def FQ:AC:=(sr_ [o1 1 0 .box,c1 2 .nilF .mv] (sr_ [o1 3 1 (.mkFunc 134),v_ 2 3] .ret))
theorem H9:Bj Tryz.prog 99 1=some ⟨4,1,[(.slot 2)],FQ⟩:=by kernel_rfl
def MA:AC:=(sr_ [o1 2 0 .box,z_ 4,bf_ 5] (.seq (sr_ [v_ 15 1,o1 16 15 ln,z_ 17] (.block 0 (.loop (sr_ [o2 18 17 16 bls_] (.seq (ex_ 18 0) (.seq (.block 1 (sr_ [o2 19 15 17 a1_,o1 20 19 ld,v_ 7 20] (sr_ [v_ 21 7,c2 22 21 (.int .i32 0) bls_,v_ 23 22,g_ 24 23 false [s_ 7] .mv,g_ 25 23 false [s_ 24,k_ (.int .i32 1114111)] bgt_,m_ 26 [s_ 23,k_ bT_,s_ 25] .pick] (i_ 26 (sr_ [z_ 4,bf_ 5] .ret) .skip)))) (.reg [i1_ 27 17,v_ 17 27]))))))) (sr_ [o1 28 2 f4_,o1 29 28 ld,v_ 8 29] (.seq (sr_ [o1 30 2 f5_,o1 31 30 ld,o1 32 31 ln,z_ 33] (.block 2 (.loop (sr_ [o2 34 33 32 bls_] (.seq (ex_ 34 2) (.seq (.block 3 (sr_ [o2 35 31 33 a4_,o1 36 35 (.load true 4),o0 10 (.alloc (.agg [(nI_ 0),(nI_ 0),(nI_ 0),(nI_ 0)]) 4),n2 10 36 (.store 4)] (.seq (sr_ [o1 37 10 (.load true 4),v_ 38 1,o1 39 38 ln,k2 40 135 37 39,o1 41 40 nt] (i_ 41 (sr_ [z_ 4,bf_ 5] .ret) .skip)) (.seq (.dreg [o1 43 10 (.load true 4),v_ 44 1,o1 45 10 f0_,o1 46 45 ld,o2 47 44 46 a1_,o1 48 47 ld,o1 49 48 (.conv .i64),k2 50 136 43 49,v_ 42 50,o1 51 42 (.extract 0),o1 52 42 (.extract 1),v_ 11 51,v_ 12 52]) (.reg [v_ 53 8,v_ 54 11,o2 55 53 54 bad_,v_ 8 55]))))) (.reg [i1_ 56 33,v_ 33 56]))))))) (.seq (sr_ [v_ 57 8,c2 58 57 (nI_ 1114111) bgt_] (i_ 58 (sr_ [z_ 4,bf_ 5] .ret) .skip)) (sr_ [o1 60 2 l6,k1 61 137 60,v_ 62 8,k2 63 136 61 62,v_ 59 63,o1 64 59 (.extract 0),o1 65 59 (.extract 1),v_ 13 64,v_ 14 65] (.seq (sr_ [v_ 66 14,o1 67 66 nt] (i_ 67 (sr_ [z_ 4,bf_ 5] .ret) .skip)) (sr_ [o1 68 2 f0_,o1 69 68 ld,v_ 70 13,o2 71 69 70 bad_,v_ 4 71,bt_ 5] .ret))))))))
theorem Un:Bj Tryz.prog 100 2=some ⟨72,2,[(.slot 4),(.slot 5)],MA⟩:=by kernel_rfl
def Qz:AC:=(sr_ [bf_ 4] (.seq (sr_ [v_ 7 1,c2 8 7 (nI_ (-1073741824)) bls_,v_ 9 8,g_ 10 9 false [s_ 1] .mv,g_ 11 9 false [s_ 10,k_ (nI_ 1073741824)] bgt_,m_ 12 [s_ 9,k_ bT_,s_ 11] .pick] (i_ 12 (sr_ [bf_ 4] .ret) .skip)) (.seq (sr_ [v_ 13 0,o1 14 13 ln,z_ 15] (.block 0 (.loop (sr_ [o2 16 15 14 bls_] (.seq (ex_ 16 0) (.seq (.block 1 (sr_ [o2 17 13 15 a2_,o1 18 17 (.load true 2),o0 6 (.alloc (.agg [(nI_ 0),(nI_ 0)]) 2),n2 6 18 (.store 2)] (sr_ [v_ 19 1,o1 20 6 f0_,o1 21 20 ld,o2 22 19 21 bge_,v_ 23 22,g1 24 23 1 .mv,g1 25 23 6 f1_,g1 26 23 25 ld,g2 27 23 24 26 ble_,m_ 28 [s_ 23,s_ 27,k_ bF_] .pick] (i_ 28 (sr_ [bt_ 4] .ret) .skip)))) (.reg [i1_ 29 15,v_ 15 29]))))))) (sr_ [bf_ 4] .ret))))
theorem ZM:Bj Tryz.prog 101 2=some ⟨30,2,[(.slot 4)],Qz⟩:=by kernel_rfl
def Ff:AC:=(sr_ [ns_ 4] (.seq (sr_ [v_ 5 1,c2 6 5 (nI_ 0) bls_] (i_ 6 (.reg [c1 7 (.str [99,97,110,110,111,116,32,98,101,32,110,101,103,97,116,105,118,101]) .no,h_ [s_ 7] .no]) .skip)) (.seq (sr_ [v_ 8 1,v_ 9 0,o1 10 9 .cap,v_ 11 0,o1 12 11 ln,o2 13 10 12 bsu_,o2 14 8 13 bsu_,v_ 1 14] (sr_ [v_ 15 1,c2 16 15 (nI_ 0) bgt_] (i_ 16 (.reg [v_ 17 0,v_ 18 0,o1 19 18 .cap,o2 20 17 19 (.slice 1 false true false),v_ 21 1,o2 22 20 21 (.appZ 1 4 (.int .i32 0)),v_ 23 0,o1 24 23 ln,o2 25 22 24 (.slice 1 false true false),v_ 0 25]) .skip))) (sr_ [v_ 26 0,v_ 4 26] .ret))))
theorem Gq:Bj Tryz.prog 102 2=some ⟨27,2,[(.slot 4)],Ff⟩:=by kernel_rfl
def DC:AC:=(sr_ [ns_ 2] (.seq (sr_ [v_ 3 0,c2 4 3 .nilS (.eqn false)] (i_ 4 (sr_ [ns_ 2] .ret) .skip)) (sr_ [o0 5 (.bslice 1 0 (.int .i32 0) []),v_ 6 0,o2 7 5 6 (.app 1 4 (.int .i32 0)),v_ 2 7] .ret)))
theorem ET:Bj Tryz.prog 103 1=some ⟨8,1,[(.slot 2)],DC⟩:=by kernel_rfl
def Fj:AC:=(sr_ [v_ 5 0,o1 6 5 ln,v_ 4 6] (.reg [v_ 7 0,v_ 8 4,v_ 9 4,o1 10 9 (.conv .u64),k1 11 139 10,v_ 12 1,m_ 13 [k_ (.fn 138 []),s_ 7,k_ (nI_ 0),s_ 8,s_ 11,s_ 12] .call]))
theorem GL:Bj Tryz.prog 104 2=some ⟨14,2,[],Fj⟩:=by kernel_rfl
def JL:AC:=(sr_ [z_ 4] (sr_ [v_ 6 0,v_ 7 1,k2 8 140 6 7,v_ 5 8] (.seq (.block 0 (sr_ [v_ 10 5,v_ 11 0,o1 12 11 ln,o2 13 10 12 beq_,v_ 14 13,g1 15 14 5 .mv,g1 16 14 1 .mv,g1 17 14 16 ln,g2 18 14 15 17 beq_,m_ 19 [s_ 14,s_ 18,k_ bF_] .pick,v_ 9 19] (i_ 9 (sr_ [z_ 4] .ret) (sr_ [v_ 21 5,v_ 22 0,o1 23 22 ln,o2 24 21 23 beq_,v_ 20 24] (i_ 20 (sr_ [c1 4 (nI_ (-1)) .mv] .ret) (sr_ [v_ 26 5,v_ 27 1,o1 28 27 ln,o2 29 26 28 beq_,v_ 25 29] (i_ 25 (sr_ [c1 4 (nI_ 1) .mv] .ret) .skip))))))) (.seq (.dtl [v_ 30 0,v_ 31 5,o2 32 30 31 a1_,o1 33 32 ld,v_ 34 1,v_ 35 5,o2 36 34 35 a1_,o1 37 36 ld] [k2 38 141 33 37,v_ 4 38]) .ret))))
theorem PL:Bj Tryz.prog 105 2=some ⟨39,2,[(.slot 4)],JL⟩:=by kernel_rfl
def EF:AC:=(sr_ [ns_ 4] (.seq (sr_ [v_ 8 0,o1 9 8 ln,c2 10 9 (nI_ 2) bls_] (i_ 10 (sr_ [v_ 11 0,v_ 4 11] .ret) .skip)) (.seq (sr_ [c1 5 (nI_ 1) .mv] (.block 0 (.loop (.seq (sr_ [v_ 12 5,v_ 13 0,o1 14 13 ln,o2 15 12 14 bls_] (ex_ 15 0)) (.seq (.block 1 (.seq (.dtl [v_ 18 1,v_ 19 0,v_ 20 5,o2 21 19 20 a1_,o1 22 21 ld,v_ 23 0,v_ 24 5,c2 25 24 (nI_ 1) bsu_,o2 26 23 25 a1_,o1 27 26 ld] [o3 28 18 22 27 .call]) (i_ 28 (sr_ [v_ 29 0,v_ 30 5,o2 31 29 30 (.slice 1 true false false),v_ 6 31] (.seq (sr_ [c1 7 (nI_ 1) .mv] (.block 2 (.loop (.seq (sr_ [v_ 32 7,v_ 33 6,o1 34 33 ln,o2 35 32 34 bls_] (ex_ 35 2)) (.seq (.block 3 (.seq (.dtl [v_ 38 1,v_ 39 6,v_ 40 7,o2 41 39 40 a1_,o1 42 41 ld,v_ 43 6,v_ 44 7,c2 45 44 (nI_ 1) bsu_,o2 46 43 45 a1_,o1 47 46 ld] [o3 48 38 42 47 .call,o1 49 48 nt]) (i_ 49 (sr_ [v_ 50 0,v_ 51 5,v_ 52 6,v_ 53 7,o2 54 52 53 a1_,o1 55 54 ld,o2 56 50 51 a1_,n2 56 55 st] (.reg [v_ 57 5,i1_ 58 57,v_ 5 58])) .skip))) (.reg [v_ 36 7,i1_ 37 36,v_ 7 37])))))) (sr_ [v_ 59 0,v_ 60 5,o2 61 59 60 (.slice 1 true false false),h_ [s_ 61] (.clr 1 .nilS)] (sr_ [v_ 62 0,v_ 63 5,o2 64 62 63 (.slice 1 false true false),v_ 4 64] .ret)))) .skip))) (.reg [v_ 16 5,i1_ 17 16,v_ 5 17])))))) (sr_ [v_ 65 0,v_ 4 65] .ret))))
theorem Gu:Bj Tryz.prog 106 2=some ⟨66,2,[(.slot 4)],EF⟩:=by kernel_rfl
def KQ:AC:=(sr_ [bf_ 4] (sr_ [v_ 5 0,v_ 6 1,k2 7 105 5 6,c2 8 7 (nI_ 0) beq_,v_ 4 8] .ret))
theorem RX:Bj Tryz.prog 107 2=some ⟨9,2,[(.slot 4)],KQ⟩:=by kernel_rfl
def Oz:AC:=(sr_ [o1 1 0 .box,bf_ 2] (sr_ [o1 3 1 f0_,o1 4 3 ld,k1 5 83 4,o1 6 5 ln,c2 7 6 (nI_ 0) bgt_,v_ 8 7,g1 9 8 1 f1_,g1 10 8 9 ld,g_ 11 8 true [k_ (.fn 83 []),s_ 10] .call,g1 12 8 11 ln,g_ 13 8 true [s_ 12,k_ (nI_ 0)] bgt_,m_ 14 [s_ 8,s_ 13,k_ bF_] .pick,v_ 15 14,g1 16 15 1 f2_,g1 17 15 16 ld,g_ 18 15 true [s_ 17,k_ (nI_ 1)] bge_,m_ 19 [s_ 15,s_ 18,k_ bF_] .pick,v_ 20 19,g1 21 20 1 f2_,g1 22 20 21 ld,g_ 23 20 true [s_ 22,k_ (nI_ 1024)] ble_,m_ 24 [s_ 20,s_ 23,k_ bF_] .pick,v_ 25 24,g1 26 25 1 l6,g1 27 25 1 f3_,g1 28 25 27 ld,g_ 29 25 true [k_ (.fn 110 []),s_ 26,s_ 28] .call,m_ 30 [s_ 25,s_ 29,k_ bF_] .pick,v_ 31 30,g1 32 31 1 f4_,g1 33 31 32 ld,g1 34 31 33 ln,g_ 35 31 true [s_ 34,k_ (nI_ 4096)] ble_,m_ 36 [s_ 31,s_ 35,k_ bF_] .pick,v_ 37 36,g1 38 37 1 f5_,g1 39 37 38 ld,g1 40 37 39 ln,g_ 41 37 true [s_ 40,k_ (nI_ 4096)] ble_,m_ 42 [s_ 37,s_ 41,k_ bF_] .pick,v_ 2 42] .ret))
theorem VQ:Bj Tryz.prog 108 1=some ⟨43,1,[(.slot 2)],Oz⟩:=by kernel_rfl
def O0:AC:=(sr_ [o1 2 0 .box,o1 3 1 .box,bf_ 4] (sr_ [o1 6 3 f2_,o1 7 6 ld,o1 8 7 ln,v_ 5 8] (.seq (sr_ [o1 9 2 l6,o1 10 3 f0_,o1 11 10 ld,k2 12 110 9 11,o1 13 12 nt,v_ 14 13,g_ 15 14 false [s_ 2] l6,g_ 16 14 false [s_ 3] f1_,g_ 17 14 false [s_ 16] ld,g_ 18 14 false [k_ (.fn 110 []),s_ 15,s_ 17] .call,g_ 19 14 false [s_ 18] nt,m_ 20 [s_ 14,k_ bT_,s_ 19] .pick,v_ 21 20,g_ 22 21 false [s_ 2] f0_,g_ 23 21 false [s_ 22] ld,g_ 24 21 false [s_ 3] f2_,g_ 25 21 false [s_ 24] ld,g_ 26 21 false [k_ (.fn 111 []),s_ 23,s_ 25] .call,g_ 27 21 false [s_ 26] nt,m_ 28 [s_ 21,k_ bT_,s_ 27] .pick,v_ 29 28,g_ 30 29 false [s_ 3] f3_,g_ 31 29 false [s_ 30] ld,g_ 32 29 false [s_ 5] .mv,g_ 33 29 false [s_ 32,k_ (nI_ 1)] .min,g_ 34 29 false [s_ 31,s_ 33] bls_,m_ 35 [s_ 29,k_ bT_,s_ 34] .pick,v_ 36 35,g_ 37 36 false [s_ 3] f3_,g_ 38 36 false [s_ 37] ld,g_ 39 36 false [s_ 5] .mv,g_ 40 36 false [s_ 38,s_ 39] bgt_,m_ 41 [s_ 36,k_ bT_,s_ 40] .pick] (i_ 41 (sr_ [bf_ 4] .ret) .skip)) (sr_ [o1 42 2 l6,o1 43 3 f4_,o1 44 43 ld,o1 45 3 f2_,o1 46 45 ld,k3 47 112 42 44 46,v_ 4 47] .ret))))
theorem VR:Bj Tryz.prog 109 2=some ⟨48,2,[(.slot 4)],O0⟩:=by kernel_rfl
def MB:AC:=(sr_ [o1 2 0 .box,bf_ 4] (sr_ [v_ 5 1,c2 6 5 (nI_ 0) bge_,v_ 7 6,g1 8 7 1 .mv,g1 9 7 2 f2_,g1 10 7 9 ld,g2 11 7 8 10 bls_,m_ 12 [s_ 7,s_ 11,k_ bF_] .pick,v_ 4 12] .ret))
theorem Uo:Bj Tryz.prog 110 2=some ⟨13,2,[(.slot 4)],MB⟩:=by kernel_rfl
def KR:AC:=(sr_ [bf_ 4] (.seq (sr_ [v_ 8 1,o1 9 8 ln,c2 10 9 (nI_ 4) bgt_] (i_ 10 (sr_ [bf_ 4] .ret) .skip)) (sr_ [v_ 11 0,k1 12 83 11,v_ 5 12] (.seq (sr_ [v_ 13 1,o1 14 13 ln,z_ 15] (.block 0 (.loop (sr_ [o2 16 15 14 bls_] (.seq (ex_ 16 0) (.seq (.block 1 (sr_ [o2 17 13 15 a1_,o1 18 17 ld,v_ 7 18] (sr_ [v_ 19 7,o1 20 19 ln,c2 21 20 (nI_ 0) beq_,v_ 22 21,g_ 23 22 false [s_ 7] .mv,g_ 24 22 false [s_ 23] ln,g_ 25 22 false [s_ 24,k_ (nI_ 64)] bgt_,m_ 26 [s_ 22,k_ bT_,s_ 25] .pick,v_ 27 26,g_ 28 27 false [s_ 7] .mv,g_ 29 27 false [k_ (.fn 142 []),s_ 28] .call,g_ 30 27 false [s_ 29] nt,m_ 31 [s_ 27,k_ bT_,s_ 30] .pick,v_ 32 31,g_ 33 32 false [s_ 7] .mv,g_ 34 32 false [s_ 5] .mv,g_ 35 32 false [k_ (.fn 116 []),s_ 33,s_ 34] .call,g_ 36 32 false [s_ 35] nt,m_ 37 [s_ 32,k_ bT_,s_ 36] .pick] (i_ 37 (sr_ [bf_ 4] .ret) .skip)))) (.reg [i1_ 38 15,v_ 15 38]))))))) (sr_ [bt_ 4] .ret)))))
theorem RY:Bj Tryz.prog 111 2=some ⟨39,2,[(.slot 4)],KR⟩:=by kernel_rfl
def KS:AC:=(sr_ [o1 3 0 .box,bf_ 6] (.seq (sr_ [v_ 9 1,o1 10 9 ln,c2 11 10 (nI_ 64) bgt_] (i_ 11 (sr_ [bf_ 6] .ret) .skip)) (.seq (sr_ [v_ 12 1,o1 13 12 ln,z_ 14] (.block 0 (.loop (sr_ [o2 15 14 13 bls_] (.seq (ex_ 15 0) (.seq (.block 1 (sr_ [o2 16 12 14 a6_,o1 17 16 l6,o0 8 (.alloc (.agg [(nI_ 0),(nI_ 0),(nI_ 0),(nI_ 0),(nI_ 0),.nilS]) 6),n2 8 17 (.store 6)] (sr_ [o1 18 8 l6,o1 19 3 f0_,o1 20 19 ld,o1 21 3 f1_,o1 22 21 ld,v_ 23 2,m_ 24 [k_ (.fn 143 []),s_ 18,s_ 20,s_ 22,s_ 23] .call,o1 25 24 nt] (i_ 25 (sr_ [bf_ 6] .ret) .skip)))) (.reg [i1_ 26 14,v_ 14 26]))))))) (sr_ [bt_ 6] .ret))))
theorem RZ:Bj Tryz.prog 112 3=some ⟨27,3,[(.slot 6)],KS⟩:=by kernel_rfl
def MC:AC:=(sr_ [o1 1 0 .box,bf_ 2] (sr_ [o1 14 1 f2_,o1 15 14 ld,o2 16 15 15 (.mkSlice 1 24 .nilS),v_ 3 16] (sr_ [o1 17 1 f2_,o1 18 17 ld,o2 19 18 18 (.mkSlice 1 8 (nI_ 0)),v_ 4 19] (.seq (sr_ [o1 20 1 f4_,o1 21 20 ld,o1 22 21 ln,z_ 23] (.block 0 (.loop (sr_ [o2 24 23 22 bls_] (.seq (ex_ 24 0) (.seq (.block 1 (sr_ [o2 25 21 23 a5_,o1 26 25 (.load true 5),o0 6 (.alloc (.agg [(nI_ 0),(nI_ 0),.nilS,(nI_ 0),.nilS]) 5),n2 6 26 (.store 5)] (sr_ [o1 27 6 f2_,o1 28 27 ld,o1 29 28 ln,c2 30 29 (nI_ 0) beq_] (i_ 30 (.seq (.grx [false,true,true,false,true,true,true,false,true,true,false,false,false,false] [m_ 31 [s_ 3] .mv,m_ 32 [s_ 6] f0_,m_ 33 [s_ 32] ld,m_ 34 [s_ 3] .mv,m_ 35 [s_ 6] f0_,m_ 36 [s_ 35] ld,m_ 37 [s_ 34,s_ 36] a1_,m_ 38 [s_ 37] ld,m_ 39 [s_ 6] f1_,m_ 40 [s_ 39] ld,m_ 41 [s_ 40] (.bslice 1 1 (nI_ 0) [0]),m_ 42 [s_ 38,s_ 41] (.app 1 8 (nI_ 0)),m_ 43 [s_ 31,s_ 33] a1_,h_ [s_ 43,s_ 42] st]) (.reg [v_ 44 4,o1 45 6 f1_,o1 46 45 ld,o2 47 44 46 a1_,o1 48 47 ld,i1_ 49 48,o2 50 44 46 a1_,n2 50 49 st])) .skip)))) (.reg [i1_ 51 23,v_ 23 51]))))))) (sr_ [ns_ 7] (.seq (sr_ [v_ 52 4,o1 53 52 ln,z_ 54] (.block 2 (.loop (sr_ [o2 55 54 53 bls_] (.seq (ex_ 55 2) (.seq (.block 3 (sr_ [v_ 56 54,o2 57 52 54 a1_,o1 58 57 ld,v_ 8 56,v_ 9 58] (sr_ [v_ 59 9,c2 60 59 (nI_ 0) beq_] (i_ 60 (.reg [v_ 61 7,v_ 62 8,o1 63 62 (.bslice 1 1 (nI_ 0) [0]),o2 64 61 63 (.app 1 8 (nI_ 0)),v_ 7 64]) .skip)))) (.reg [i1_ 65 54,v_ 54 65]))))))) (sr_ [z_ 10] (.seq (.block 4 (.loop (.seq (sr_ [v_ 66 7,o1 67 66 ln,c2 68 67 (nI_ 0) bgt_] (ex_ 68 4)) (.seq (.block 5 (sr_ [v_ 71 7,c2 72 71 (nI_ 0) a1_,o1 73 72 ld,v_ 11 73] (sr_ [v_ 74 7,c2 75 74 (nI_ 1) (.slice 1 true false false),v_ 7 75] (sr_ [v_ 76 3,v_ 77 11,o2 78 76 77 a1_,o1 79 78 ld,o1 80 79 ln,z_ 81] (.block 6 (.loop (sr_ [o2 82 81 80 bls_] (.seq (ex_ 82 6) (.seq (.block 7 (sr_ [o2 83 79 81 a1_,o1 84 83 ld,v_ 13 84] (sr_ [v_ 85 4,v_ 86 13,o2 87 85 86 a1_,o1 88 87 ld,c2 89 88 (nI_ 1) bsu_,o2 90 85 86 a1_,n2 90 89 st] (sr_ [v_ 91 4,v_ 92 13,o2 93 91 92 a1_,o1 94 93 ld,c2 95 94 (nI_ 0) beq_] (i_ 95 (.reg [v_ 96 7,v_ 97 13,o1 98 97 (.bslice 1 1 (nI_ 0) [0]),o2 99 96 98 (.app 1 8 (nI_ 0)),v_ 7 99]) .skip))))) (.reg [i1_ 100 81,v_ 81 100])))))))))) (.reg [v_ 69 10,i1_ 70 69,v_ 10 70]))))) (sr_ [v_ 101 10,o1 102 1 f2_,o1 103 102 ld,o2 104 101 103 bls_,v_ 2 104] .ret)))))))))
theorem Up:Bj Tryz.prog 113 1=some ⟨105,1,[(.slot 2)],MC⟩:=by kernel_rfl
def Q0:AC:=(sr_ [bf_ 2] (sr_ [v_ 3 0,o1 4 3 ln,c2 5 4 (nI_ 0) bgt_,v_ 6 5,g1 7 6 0 .mv,g1 8 6 7 ln,g_ 9 6 true [s_ 8,k_ (nI_ 64)] ble_,m_ 10 [s_ 6,s_ 9,k_ bF_] .pick,v_ 11 10,g1 12 11 0 .mv,g_ 13 11 true [k_ (.fn 142 []),s_ 12] .call,m_ 14 [s_ 11,s_ 13,k_ bF_] .pick,v_ 15 14,g1 16 15 0 .mv,g_ 17 15 true [k_ (.fn 83 []),k_ (nI_ 2)] .call,g_ 18 15 true [k_ (.fn 116 []),s_ 16,s_ 17] .call,m_ 19 [s_ 15,s_ 18,k_ bF_] .pick,v_ 2 19] .ret))
theorem ZN:Bj Tryz.prog 114 1=some ⟨20,1,[(.slot 2)],Q0⟩:=by kernel_rfl
def O4:AC:=(sr_ [ns_ 4] (.seq (sr_ [v_ 7 1,c2 8 7 (nI_ (-2147483648)) bls_,v_ 9 8,g_ 10 9 false [s_ 1] .mv,g_ 11 9 false [s_ 10,k_ (nI_ 2147483648)] bgt_,m_ 12 [s_ 9,k_ bT_,s_ 11] .pick] (i_ 12 (sr_ [ns_ 4] .ret) .skip)) (sr_ [v_ 13 0,k1 14 144 13,v_ 5 14] (.seq (sr_ [v_ 15 5,o1 16 15 ln,z_ 17] (.block 0 (.loop (sr_ [o2 18 17 16 bls_] (.seq (ex_ 18 0) (.seq (.block 1 (sr_ [v_ 19 17,v_ 6 19] (sr_ [v_ 20 5,v_ 21 6,o2 22 20 21 a2_,o1 23 22 f0_,o1 24 23 ld,v_ 25 1,o2 26 24 25 bad_,o2 27 20 21 a2_,o1 28 27 f0_,n2 28 26 st] (.reg [v_ 29 5,v_ 30 6,o2 31 29 30 a2_,o1 32 31 f1_,o1 33 32 ld,v_ 34 1,o2 35 33 34 bad_,o2 36 29 30 a2_,o1 37 36 f1_,n2 37 35 st])))) (.reg [i1_ 38 17,v_ 17 38]))))))) (sr_ [v_ 39 5,k1 40 144 39,v_ 4 40] .ret)))))
theorem VS:Bj Tryz.prog 115 2=some ⟨41,2,[(.slot 4)],O4⟩:=by kernel_rfl
def KT:AC:=(sr_ [bf_ 4] (sr_ [v_ 5 0,v_ 6 1,k2 7 145 5 6,o1 8 7 ln,c2 9 8 (nI_ 0) beq_,v_ 4 9] .ret))
theorem Sa:Bj Tryz.prog 116 2=some ⟨10,2,[(.slot 4)],KT⟩:=by kernel_rfl
def MD:AC:=(sr_ [o0 2 (.alloc (.agg [(nI_ 0),(nI_ 0),(nI_ 0),(nI_ 0)]) 4)] (sr_ [v_ 3 0,c2 4 3 (nI_ 21) (.build [(nI_ 0),(nI_ 0),(nI_ 0),(nI_ 0)] [(0,1),(1,1),(2,1),(3,1)] [0,2]),n2 2 4 (.store 4)] .ret))
theorem Uq:Bj Tryz.prog 129 1=some ⟨5,1,[(.cell 2 true 4)],MD⟩:=by kernel_rfl
def ME:AC:=(sr_ [o0 2 (.alloc (.agg [(nI_ 0),(nI_ 0),(nI_ 0),(nI_ 0),(nI_ 0),.nilS]) 6)] (sr_ [v_ 3 0,o1 4 3 (.conv .i64),m_ 5 [k_ (nI_ 21),s_ 4] (.build [(nI_ 0),(nI_ 0),(nI_ 0),(nI_ 0),(nI_ 0),.nilS] [(0,1),(1,1),(2,1),(3,1),(4,1),(5,1)] [2,4]),n2 2 5 (.store 6)] .ret))
theorem Ur:Bj Tryz.prog 130 1=some ⟨6,1,[(.cell 2 true 6)],ME⟩:=by kernel_rfl
def O5:AC:=(sr_ [ns_ 4] (sr_ [v_ 9 0,o1 10 9 ln,z_ 5,v_ 6 10] (.seq (.block 0 (.loop (.seq (sr_ [v_ 11 5,v_ 12 6,o2 13 11 12 bls_] (ex_ 13 0)) (.block 1 (sr_ [v_ 14 5,v_ 15 6,o2 16 14 15 bad_,c2 17 16 (nI_ 2) (.bin .quo),v_ 7 17] (sr_ [v_ 18 0,v_ 19 7,o2 20 18 19 a1_,o1 21 20 ld,v_ 22 1,o2 23 21 22 bls_] (i_ 23 (.reg [v_ 24 7,i1_ 25 24,v_ 5 25]) (.reg [v_ 26 7,v_ 6 26])))))))) (.seq (sr_ [v_ 27 5,v_ 28 0,o1 29 28 ln,o2 30 27 29 bls_,v_ 31 30,g1 32 31 0 .mv,g1 33 31 5 .mv,g2 34 31 32 33 a1_,g1 35 31 34 ld,g1 36 31 1 .mv,g2 37 31 35 36 beq_,m_ 38 [s_ 31,s_ 37,k_ bF_] .pick] (i_ 38 (sr_ [v_ 39 0,v_ 4 39] .ret) .skip)) (sr_ [v_ 40 0,c1 41 (nI_ 0) (.bslice 1 1 (nI_ 0) [0]),o2 42 40 41 (.app 1 8 (nI_ 0)),v_ 0 42] (.seq (sr_ [v_ 43 0,o1 44 43 ln,c2 45 44 (nI_ 1) bsu_,v_ 8 45] (.block 2 (.loop (.seq (sr_ [v_ 46 8,v_ 47 5,o2 48 46 47 bgt_] (ex_ 48 2)) (.seq (.block 3 (.reg [v_ 51 0,v_ 52 8,v_ 53 0,v_ 54 8,c2 55 54 (nI_ 1) bsu_,o2 56 53 55 a1_,o1 57 56 ld,o2 58 51 52 a1_,n2 58 57 st])) (.reg [v_ 49 8,c2 50 49 (nI_ 1) bsu_,v_ 8 50])))))) (sr_ [v_ 59 0,v_ 60 5,v_ 61 1,o2 62 59 60 a1_,n2 62 61 st] (sr_ [v_ 63 0,v_ 4 63] .ret))))))))
theorem VT:Bj Tryz.prog 131 2=some ⟨64,2,[(.slot 4)],O5⟩:=by kernel_rfl
def KU:AC:=(sr_ [z_ 4] (.seq (sr_ [z_ 5] (.block 0 (.loop (.seq (sr_ [v_ 6 5,v_ 7 0,o1 8 7 ln,o2 9 6 8 bls_,v_ 10 9,g1 11 10 5 .mv,g1 12 10 1 .mv,g1 13 10 12 ln,g2 14 10 11 13 bls_,m_ 15 [s_ 10,s_ 14,k_ bF_] .pick] (ex_ 15 0)) (.seq (.block 1 (.seq (.dreg [v_ 18 0,v_ 19 5,o2 20 18 19 a1_,o1 21 20 ld,v_ 22 1,v_ 23 5,o2 24 22 23 a1_,o1 25 24 ld,o2 26 21 25 bne_]) (i_ 26 (sr_ [v_ 27 5,v_ 4 27] .ret) .skip))) (.reg [v_ 16 5,i1_ 17 16,v_ 5 17])))))) (sr_ [v_ 28 0,o1 29 28 ln,v_ 30 1,o1 31 30 ln,o2 32 29 31 .min,v_ 4 32] .ret)))
theorem Sb:Bj Tryz.prog 132 2=some ⟨33,2,[(.slot 4)],KU⟩:=by kernel_rfl
def Us:AC:=(sr_ [bf_ 4] (.seq (sr_ [v_ 5 0] (.block 0 (sr_ [c2 7 5 (nI_ 1) beq_,v_ 6 7] (i_ 6 (sr_ [v_ 8 1,c2 9 8 (.int .i32 0) bge_,v_ 10 9,g1 11 10 1 .mv,g_ 12 10 true [s_ 11,k_ (.int .i32 255)] ble_,m_ 13 [s_ 10,s_ 12,k_ bF_] .pick,v_ 4 13] .ret) (sr_ [c2 15 5 (nI_ 2) beq_,v_ 14 15] (i_ 14 (sr_ [v_ 16 1,c2 17 16 (.int .i32 0) bge_,v_ 18 17,g1 19 18 1 .mv,g_ 20 18 true [s_ 19,k_ (.int .i32 1114111)] ble_,m_ 21 [s_ 18,s_ 20,k_ bF_] .pick,v_ 22 21,g1 23 22 1 .mv,g_ 24 22 true [s_ 23,k_ (.int .i32 55296)] bls_,g1 25 22 24 .mv,g_ 26 25 false [s_ 1] .mv,g_ 27 25 false [s_ 26,k_ (.int .i32 57343)] bgt_,g_ 28 22 true [s_ 25,k_ bT_,s_ 27] .pick,m_ 29 [s_ 22,s_ 28,k_ bF_] .pick,v_ 4 29] .ret) .skip)))))) (sr_ [bf_ 4] .ret)))
theorem z4j:Bj Tryz.prog 133 2=some ⟨30,2,[(.slot 4)],Us⟩:=by kernel_rfl
def Ef:AC:=(sr_ [o1 4 1 ld,o1 5 4 ln,c2 6 5 (nI_ 1) bsu_,v_ 3 6] (.block 0 (.loop (.seq (sr_ [v_ 7 3,c2 8 7 (nI_ 0) bge_] (ex_ 8 0)) (.seq (.block 1 (sr_ [v_ 11 0,v_ 12 3,o1 13 1 ld,v_ 14 3,o2 15 13 14 a1_,o1 16 15 ld,o3 17 11 12 16 .call,o1 18 17 nt] (i_ 18 .ret .skip))) (.reg [v_ 9 3,c2 10 9 (nI_ 1) bsu_,v_ 3 10]))))))
theorem Hj:Bj Tryz.prog 134 2=some ⟨19,2,[],Ef⟩:=by kernel_rfl
def MF:AC:=(sr_ [o1 2 0 .box,bf_ 4] (sr_ [o1 5 2 f0_,o1 6 5 ld,c2 7 6 (nI_ 0) bge_,v_ 8 7,g1 9 8 2 f0_,g1 10 8 9 ld,g1 11 8 1 .mv,g2 12 8 10 11 bls_,m_ 13 [s_ 8,s_ 12,k_ bF_] .pick,v_ 14 13,g1 15 14 2 (.load true 4),g_ 16 14 true [k_ (.fn 155 []),s_ 15] .call,m_ 17 [s_ 14,s_ 16,k_ bF_] .pick,v_ 4 17] .ret))
theorem Ut:Bj Tryz.prog 135 2=some ⟨18,2,[(.slot 4)],MF⟩:=by kernel_rfl
def MG:AC:=(sr_ [o1 2 0 .box,z_ 4,bf_ 5] (.seq (sr_ [o1 6 2 (.load true 4),k1 7 155 6,o1 8 7 nt,v_ 9 8,g_ 10 9 false [s_ 1] .mv,g_ 11 9 false [s_ 10,k_ (nI_ 0)] bls_,m_ 12 [s_ 9,k_ bT_,s_ 11] .pick,v_ 13 12,g_ 14 13 false [s_ 1] .mv,g_ 15 13 false [s_ 14,k_ (nI_ 2097151)] bgt_,m_ 16 [s_ 13,k_ bT_,s_ 15] .pick] (i_ 16 (sr_ [z_ 4,bf_ 5] .ret) .skip)) (.seq (.dreg [v_ 17 1,o1 18 2 f1_,o1 19 18 ld,o2 20 17 19 (.bin .shr),o1 21 2 f2_,o1 22 21 ld,m_ 23 [k_ (nI_ 1),s_ 22] (.bin .shl),c2 24 23 (nI_ 1) bsu_,o2 25 20 24 (.bin .and),o1 26 2 f3_,o1 27 26 ld,o2 28 25 27 (.bin .shl),v_ 4 28,bt_ 5]) .ret)))
theorem Uu:Bj Tryz.prog 136 2=some ⟨29,2,[(.slot 4),(.slot 5)],MG⟩:=by kernel_rfl
def MH:AC:=(sr_ [o1 1 0 .box,o0 2 (.alloc (.agg [(nI_ 0),(nI_ 0),(nI_ 0),(nI_ 0)]) 4)] (sr_ [o1 3 1 f1_,o1 4 3 ld,o1 5 1 f2_,o1 6 5 ld,o1 7 1 f3_,o1 8 7 ld,o3 9 4 6 8 (.build [(nI_ 0),(nI_ 0),(nI_ 0),(nI_ 0)] [(0,1),(1,1),(2,1),(3,1)] [1,2,3]),n2 2 9 (.store 4)] .ret))
theorem Uv:Bj Tryz.prog 137 1=some ⟨10,1,[(.cell 2 true 4)],MH⟩:=by kernel_rfl
def Fu:AC:=(sr_ [bt_ 10] (sr_ [bt_ 11] (.block 0 (.loop (.block 1 (sr_ [v_ 21 2,v_ 22 1,o2 23 21 22 bsu_,v_ 12 23] (.seq (sr_ [v_ 24 12,c2 25 24 (nI_ 12) ble_] (i_ 25 (sr_ [v_ 26 0,v_ 27 1,v_ 28 2,v_ 29 4,m_ 30 [k_ (.fn 156 []),s_ 26,s_ 27,s_ 28,s_ 29] .call] .ret) .skip)) (.seq (sr_ [v_ 31 3,c2 32 31 (nI_ 0) beq_] (i_ 32 (sr_ [v_ 33 0,v_ 34 1,v_ 35 2,v_ 36 4,m_ 37 [k_ (.fn 157 []),s_ 33,s_ 34,s_ 35,s_ 36] .call] .ret) .skip)) (.seq (sr_ [v_ 38 10,o1 39 38 nt] (i_ 39 (sr_ [v_ 40 0,v_ 41 1,v_ 42 2,v_ 43 4,m_ 44 [k_ (.fn 158 []),s_ 40,s_ 41,s_ 42,s_ 43] .call] (.reg [v_ 45 3,c2 46 45 (nI_ 1) bsu_,v_ 3 46])) .skip)) (sr_ [v_ 48 0,v_ 49 1,v_ 50 2,v_ 51 4,m_ 52 [k_ (.fn 159 []),s_ 48,s_ 49,s_ 50,s_ 51] .call,v_ 47 52,o1 53 47 (.extract 0),o1 54 47 (.extract 1),v_ 13 53,v_ 14 54] (.seq (sr_ [v_ 55 14,c2 56 55 (nI_ 2) beq_] (i_ 56 (sr_ [v_ 57 0,v_ 58 1,v_ 59 2,v_ 60 4,m_ 61 [k_ (.fn 160 []),s_ 57,s_ 58,s_ 59,s_ 60] .call] (sr_ [v_ 62 2,c2 63 62 (nI_ 1) bsu_,v_ 64 13,v_ 65 1,o2 66 64 65 bsu_,o2 67 63 66 bsu_,v_ 13 67] (.reg [c1 14 (nI_ 1) .mv]))) .skip)) (.seq (sr_ [v_ 68 10,v_ 69 68,g1 70 69 11 .mv,m_ 71 [s_ 69,s_ 70,k_ bF_] .pick,v_ 72 71,g1 73 72 14 .mv,g_ 74 72 true [s_ 73,k_ (nI_ 1)] beq_,m_ 75 [s_ 72,s_ 74,k_ bF_] .pick] (i_ 75 (sr_ [v_ 76 0,v_ 77 1,v_ 78 2,v_ 79 4,m_ 80 [k_ (.fn 161 []),s_ 76,s_ 77,s_ 78,s_ 79] .call] (i_ 80 .ret .skip)) .skip)) (.seq (.seq (.dtl [v_ 81 1,c2 82 81 (nI_ 0) bgt_,v_ 83 82,g1 84 83 4 .mv,g1 85 83 0 .mv,g1 86 83 1 .mv,g_ 87 83 true [s_ 86,k_ (nI_ 1)] bsu_,g2 88 83 85 87 a1_,g1 89 83 88 ld,g1 90 83 0 .mv,g1 91 83 13 .mv,g2 92 83 90 91 a1_,g1 93 83 92 ld] [g_ 94 83 true [s_ 84,s_ 89,s_ 93] .call,g_ 95 83 true [s_ 94,k_ (nI_ 0)] bls_,g1 96 83 95 nt,m_ 97 [s_ 83,s_ 96,k_ bF_] .pick]) (i_ 97 (sr_ [v_ 98 0,v_ 99 1,v_ 100 2,v_ 101 13,v_ 102 4,m_ 103 [k_ (.fn 162 []),s_ 98,s_ 99,s_ 100,s_ 101,s_ 102] .call,v_ 15 103] (sr_ [v_ 104 15,v_ 1 104] (.exit 1))) .skip)) (sr_ [v_ 106 0,v_ 107 1,v_ 108 2,v_ 109 13,v_ 110 4,m_ 111 [k_ (.fn 163 []),s_ 106,s_ 107,s_ 108,s_ 109,s_ 110] .call,v_ 105 111,o1 112 105 (.extract 0),o1 113 105 (.extract 1),v_ 16 112,v_ 17 113] (sr_ [v_ 114 17,v_ 11 114] (sr_ [v_ 115 16,v_ 116 1,o2 117 115 116 bsu_,v_ 118 2,v_ 119 16,o2 120 118 119 bsu_,v_ 18 117,v_ 19 120] (sr_ [v_ 121 12,c2 122 121 (nI_ 8) (.bin .quo),v_ 20 122] (sr_ [v_ 123 18,v_ 124 19,o2 125 123 124 bls_] (i_ 125 (sr_ [v_ 126 18,v_ 127 20,o2 128 126 127 bge_,v_ 10 128] (sr_ [v_ 129 0,v_ 130 1,v_ 131 16,v_ 132 3,v_ 133 4,m_ 134 [k_ (.fn 138 []),s_ 129,s_ 130,s_ 131,s_ 132,s_ 133] .call] (.reg [v_ 135 16,i1_ 136 135,v_ 1 136]))) (sr_ [v_ 137 19,v_ 138 20,o2 139 137 138 bge_,v_ 10 139] (sr_ [v_ 140 0,v_ 141 16,i1_ 142 141,v_ 143 2,v_ 144 3,v_ 145 4,m_ 146 [k_ (.fn 138 []),s_ 140,s_ 142,s_ 143,s_ 144,s_ 145] .call] (.reg [v_ 147 16,v_ 2 147]))))))))))))))))))))))
theorem GQ:Bj Tryz.prog 138 5=some ⟨148,5,[],Fu⟩:=by kernel_rfl
def Ja:AC:=(sr_ [z_ 2] (.seq (.cond (.const bF_) (sr_ [v_ 3 0,o1 4 3 (.conv .u32),k1 5 164 4,v_ 2 5] .ret) .skip) (sr_ [v_ 6 0,k1 7 165 6,v_ 2 7] .ret)))
theorem O6:Bj Tryz.prog 139 1=some ⟨8,1,[(.slot 2)],Ja⟩:=by kernel_rfl
def MI:AC:=(sr_ [z_ 4] (sr_ [z_ 5] (.seq (.block 0 (.loop (.seq (.seq (.dreg [v_ 6 5,v_ 7 0,o1 8 7 ln,o2 9 6 8 bls_,v_ 10 9,g1 11 10 5 .mv,g1 12 10 1 .mv,g1 13 10 12 ln,g2 14 10 11 13 bls_,m_ 15 [s_ 10,s_ 14,k_ bF_] .pick,v_ 16 15,g1 17 16 0 .mv,g1 18 16 5 .mv,g2 19 16 17 18 a1_,g1 20 16 19 ld,g1 21 16 1 .mv,g1 22 16 5 .mv,g2 23 16 21 22 a1_,g1 24 16 23 ld,g2 25 16 20 24 beq_,m_ 26 [s_ 16,s_ 25,k_ bF_] .pick]) (ex_ 26 0)) (.block 1 (.reg [v_ 27 5,i1_ 28 27,v_ 5 28]))))) (sr_ [v_ 29 5,v_ 4 29] .ret))))
theorem Uw:Bj Tryz.prog 140 2=some ⟨30,2,[(.slot 4)],MI⟩:=by kernel_rfl
def Hv:AC:=(sr_ [z_ 4] (sr_ [v_ 7 0,k1 8 166 7,v_ 5 8] (sr_ [v_ 9 1,k1 10 166 9,v_ 6 10] (.seq (sr_ [v_ 11 5] (i_ 11 (.seq (sr_ [v_ 12 6] (i_ 12 (sr_ [z_ 4] .ret) .skip)) (sr_ [c1 4 (nI_ (-1)) .mv] .ret)) .skip)) (.seq (sr_ [v_ 13 6] (i_ 13 (sr_ [c1 4 (nI_ 1) .mv] .ret) .skip)) (.seq (sr_ [v_ 14 0,v_ 15 1,o2 16 14 15 bls_] (i_ 16 (sr_ [c1 4 (nI_ (-1)) .mv] .ret) .skip)) (.seq (sr_ [v_ 17 0,v_ 18 1,o2 19 17 18 bgt_] (i_ 19 (sr_ [c1 4 (nI_ 1) .mv] .ret) .skip)) (sr_ [z_ 4] .ret))))))))
theorem KV:Bj Tryz.prog 141 2=some ⟨20,2,[(.slot 4)],Hv⟩:=by kernel_rfl
def MJ:AC:=(sr_ [bf_ 2] (sr_ [c1 3 (nI_ (-1073741826)) .mv] (.seq (sr_ [v_ 6 0,o1 7 6 ln,z_ 8] (.block 0 (.loop (sr_ [o2 9 8 7 bls_] (.seq (ex_ 9 0) (.seq (.block 1 (sr_ [o2 10 6 8 a2_,o1 11 10 (.load true 2),o0 5 (.alloc (.agg [(nI_ 0),(nI_ 0)]) 2),n2 5 11 (.store 2)] (.seq (sr_ [o1 12 5 f0_,o1 13 12 ld,o1 14 5 f1_,o1 15 14 ld,o2 16 13 15 bgt_,v_ 17 16,g_ 18 17 false [s_ 5] f0_,g_ 19 17 false [s_ 18] ld,g_ 20 17 false [s_ 19,k_ (nI_ (-1073741824))] bls_,m_ 21 [s_ 17,k_ bT_,s_ 20] .pick,v_ 22 21,g_ 23 22 false [s_ 5] f1_,g_ 24 22 false [s_ 23] ld,g_ 25 22 false [s_ 24,k_ (nI_ 1073741824)] bgt_,m_ 26 [s_ 22,k_ bT_,s_ 25] .pick,v_ 27 26,g_ 28 27 false [s_ 5] f0_,g_ 29 27 false [s_ 28] ld,g_ 30 27 false [s_ 3] .mv,g_ 31 27 false [s_ 30,k_ (nI_ 1)] bad_,g_ 32 27 false [s_ 29,s_ 31] ble_,m_ 33 [s_ 27,k_ bT_,s_ 32] .pick] (i_ 33 (sr_ [bf_ 2] .ret) .skip)) (.reg [o1 34 5 f1_,o1 35 34 ld,v_ 3 35])))) (.reg [i1_ 36 8,v_ 8 36]))))))) (sr_ [bt_ 2] .ret))))
theorem Ux:Bj Tryz.prog 142 1=some ⟨37,1,[(.slot 2)],MJ⟩:=by kernel_rfl
def O7:AC:=(sr_ [o1 4 0 .box,bf_ 8] (.seq (sr_ [o1 11 4 l6,v_ 12 1,v_ 13 2,v_ 14 3,o1 15 14 ln,m_ 16 [k_ (.fn 167 []),s_ 11,s_ 12,s_ 13,s_ 15] .call,o1 17 16 nt] (i_ 17 (sr_ [bf_ 8] .ret) .skip)) (sr_ [o1 19 4 l6,v_ 20 3,k2 21 168 19 20,v_ 18 21,o1 22 18 (.extract 0),o1 23 18 (.extract 1),v_ 9 22,v_ 10 23] (sr_ [v_ 24 10,v_ 25 24,g1 26 25 9 .mv,g1 27 25 2 .mv,g_ 28 25 true [k_ (.fn 83 []),s_ 27] .call,g_ 29 25 true [k_ (.fn 116 []),s_ 26,s_ 28] .call,m_ 30 [s_ 25,s_ 29,k_ bF_] .pick,v_ 8 30] .ret))))
theorem VU:Bj Tryz.prog 143 4=some ⟨31,4,[(.slot 8)],O7⟩:=by kernel_rfl
def O8:AC:=(sr_ [ns_ 2] (sr_ [v_ 10 0,o1 11 10 ln,m_ 12 [k_ (nI_ 0),s_ 11] (.mkSlice 2 16 (.agg [(nI_ 0),(nI_ 0)])),v_ 3 12] (.seq (sr_ [v_ 13 0,o1 14 13 ln,z_ 15] (.block 0 (.loop (sr_ [o2 16 15 14 bls_] (.seq (ex_ 16 0) (.seq (.block 1 (sr_ [o2 17 13 15 a2_,o1 18 17 (.load true 2),o0 5 (.alloc (.agg [(nI_ 0),(nI_ 0)]) 2),n2 5 18 (.store 2)] (sr_ [o1 19 5 f0_,o1 20 19 ld,c2 21 20 (nI_ (-1073741824)) .max,o1 22 5 f1_,o1 23 22 ld,c2 24 23 (nI_ 1073741824) .min,o1 25 5 f0_,n2 25 21 st,o1 26 5 f1_,n2 26 24 st] (sr_ [o1 27 5 f0_,o1 28 27 ld,o1 29 5 f1_,o1 30 29 ld,o2 31 28 30 ble_] (i_ 31 (.reg [v_ 32 3,o1 33 5 (.load true 2),o1 34 33 (.bslice 2 1 (.agg [(nI_ 0),(nI_ 0)]) [0]),o2 35 32 34 (.app 2 16 (.agg [(nI_ 0),(nI_ 0)])),v_ 3 35]) .skip))))) (.reg [i1_ 36 15,v_ 15 36]))))))) (sr_ [v_ 37 3,m_ 38 [k_ (.fn 169 []),s_ 37,k_ (.fn 170 [])] .call] (sr_ [v_ 39 3,c2 40 39 (nI_ 0) (.slice 2 false true false),v_ 6 40] (.seq (sr_ [v_ 41 3,o1 42 41 ln,z_ 43] (.block 2 (.loop (sr_ [o2 44 43 42 bls_] (.seq (ex_ 44 2) (.seq (.block 3 (sr_ [o2 45 41 43 a2_,o1 46 45 (.load true 2),o0 8 (.alloc (.agg [(nI_ 0),(nI_ 0)]) 2),n2 8 46 (.store 2)] (.seq (sr_ [v_ 47 6,o1 48 47 ln,v_ 9 48] (.seq (.dreg [v_ 49 9,c2 50 49 (nI_ 0) bgt_,v_ 51 50,g1 52 51 8 f0_,g1 53 51 52 ld,g1 54 51 6 .mv,g1 55 51 9 .mv,g_ 56 51 true [s_ 55,k_ (nI_ 1)] bsu_,g2 57 51 54 56 a2_,g1 58 51 57 f1_,g1 59 51 58 ld,g_ 60 51 true [s_ 59,k_ (nI_ 1)] bad_,g2 61 51 53 60 ble_,m_ 62 [s_ 51,s_ 61,k_ bF_] .pick]) (i_ 62 (.seq (.dtl [v_ 63 6,v_ 64 9,c2 65 64 (nI_ 1) bsu_,v_ 66 6,v_ 67 9,c2 68 67 (nI_ 1) bsu_,o2 69 66 68 a2_,o1 70 69 f1_,o1 71 70 ld,o1 72 8 f1_,o1 73 72 ld,o2 74 71 73 .max,o2 75 63 65 a2_,o1 76 75 f1_] [n2 76 74 st]) (.exit 3)) .skip))) (.reg [v_ 77 6,o1 78 8 (.load true 2),o1 79 78 (.bslice 2 1 (.agg [(nI_ 0),(nI_ 0)]) [0]),o2 80 77 79 (.app 2 16 (.agg [(nI_ 0),(nI_ 0)])),v_ 6 80])))) (.reg [i1_ 81 43,v_ 43 81]))))))) (sr_ [v_ 82 6,v_ 2 82] .ret)))))))
theorem VV:Bj Tryz.prog 144 1=some ⟨83,1,[(.slot 2)],O8⟩:=by kernel_rfl
def MK:AC:=(sr_ [ns_ 4] (sr_ [ns_ 5] (sr_ [c1 6 (nI_ (-1073741824)) .mv] (.seq (sr_ [v_ 9 1,k1 10 144 9,o1 11 10 ln,z_ 12] (.block 0 (.loop (sr_ [o2 13 12 11 bls_] (.seq (ex_ 13 0) (.seq (.block 1 (sr_ [o2 14 10 12 a2_,o1 15 14 (.load true 2),o0 8 (.alloc (.agg [(nI_ 0),(nI_ 0)]) 2),n2 8 15 (.store 2)] (sr_ [v_ 16 5,v_ 17 6,o1 18 8 f0_,o1 19 18 ld,c2 20 19 (nI_ 1) bsu_,o2 21 17 20 (.build [(nI_ 0),(nI_ 0)] [(0,1),(1,1)] [0,1]),o1 22 21 (.bslice 2 1 (.agg [(nI_ 0),(nI_ 0)]) [0]),o2 23 16 22 (.app 2 16 (.agg [(nI_ 0),(nI_ 0)])),v_ 5 23] (.reg [o1 24 8 f1_,o1 25 24 ld,i1_ 26 25,v_ 6 26])))) (.reg [i1_ 27 12,v_ 12 27]))))))) (sr_ [v_ 28 5,v_ 29 6,c2 30 29 (nI_ 1073741824) (.build [(nI_ 0),(nI_ 0)] [(0,1),(1,1)] [0,1]),o1 31 30 (.bslice 2 1 (.agg [(nI_ 0),(nI_ 0)]) [0]),o2 32 28 31 (.app 2 16 (.agg [(nI_ 0),(nI_ 0)])),v_ 5 32] (sr_ [v_ 33 0,v_ 34 5,k2 35 172 33 34,v_ 4 35] .ret))))))
theorem Uy:Bj Tryz.prog 145 2=some ⟨36,2,[(.slot 4)],MK⟩:=by kernel_rfl
def O9:AC:=(sr_ [o1 1 0 .box,bf_ 2] (sr_ [o1 3 1 f1_,o1 4 3 ld,c2 5 4 (nI_ 0) bge_,v_ 6 5,g1 7 6 1 f1_,g1 8 6 7 ld,g_ 9 6 true [s_ 8,k_ (nI_ 21)] bls_,m_ 10 [s_ 6,s_ 9,k_ bF_] .pick,v_ 11 10,g1 12 11 1 f2_,g1 13 11 12 ld,g_ 14 11 true [s_ 13,k_ (nI_ 1)] bge_,m_ 15 [s_ 11,s_ 14,k_ bF_] .pick,v_ 16 15,g1 17 16 1 f2_,g1 18 16 17 ld,g_ 19 16 true [s_ 18,k_ (nI_ 21)] ble_,m_ 20 [s_ 16,s_ 19,k_ bF_] .pick,v_ 21 20,g1 22 21 1 f3_,g1 23 21 22 ld,g_ 24 21 true [s_ 23,k_ (nI_ 0)] bge_,m_ 25 [s_ 21,s_ 24,k_ bF_] .pick,v_ 26 25,g1 27 26 1 f3_,g1 28 26 27 ld,g_ 29 26 true [s_ 28,k_ (nI_ 21)] bls_,m_ 30 [s_ 26,s_ 29,k_ bF_] .pick,v_ 31 30,g1 32 31 1 f3_,g1 33 31 32 ld,g_ 34 31 true [s_ 33,k_ (nI_ 0)] beq_,g1 35 31 34 .mv,g_ 36 35 false [s_ 1] f2_,g_ 37 35 false [s_ 36] ld,g_ 38 35 false [s_ 37,k_ (nI_ 6)] ble_,g_ 39 31 true [s_ 35,k_ bT_,s_ 38] .pick,m_ 40 [s_ 31,s_ 39,k_ bF_] .pick,v_ 2 40] .ret))
theorem VW:Bj Tryz.prog 155 1=some ⟨41,1,[(.slot 2)],O9⟩:=by kernel_rfl
def El:AC:=(sr_ [v_ 10 1,i1_ 11 10,v_ 8 11] (.block 0 (.loop (.seq (sr_ [v_ 12 8,v_ 13 2,o2 14 12 13 bls_] (ex_ 14 0)) (.seq (.block 1 (sr_ [v_ 17 8,v_ 9 17] (.block 2 (.loop (.seq (.seq (.dtl [v_ 18 9,v_ 19 1,o2 20 18 19 bgt_,v_ 21 20,g1 22 21 3 .mv,g1 23 21 0 .mv,g1 24 21 9 .mv,g2 25 21 23 24 a1_,g1 26 21 25 ld,g1 27 21 0 .mv,g1 28 21 9 .mv,g_ 29 21 true [s_ 28,k_ (nI_ 1)] bsu_,g2 30 21 27 29 a1_,g1 31 21 30 ld] [g_ 32 21 true [s_ 22,s_ 26,s_ 31] .call,g_ 33 21 true [s_ 32,k_ (nI_ 0)] bls_,m_ 34 [s_ 21,s_ 33,k_ bF_] .pick]) (ex_ 34 2)) (.seq (.block 3 (.greg [v_ 37 0,v_ 38 9,v_ 39 0,v_ 40 9,c2 41 40 (nI_ 1) bsu_,v_ 42 0,v_ 43 9,c2 44 43 (nI_ 1) bsu_,o2 45 42 44 a1_,o1 46 45 ld,v_ 47 0,v_ 48 9,o2 49 47 48 a1_,o1 50 49 ld,o2 51 37 38 a1_,n2 51 46 st,o2 52 39 41 a1_,n2 52 50 st])) (.reg [v_ 35 9,c2 36 35 (nI_ 1) bsu_,v_ 9 36]))))))) (.reg [v_ 15 8,i1_ 16 15,v_ 8 16]))))))
theorem Gi:Bj Tryz.prog 156 4=some ⟨53,4,[],El⟩:=by kernel_rfl
def HV:AC:=(sr_ [z_ 2] (.seq (sr_ [v_ 3 0,c2 4 3 (.int .u64 4294967296) bge_] (i_ 4 (sr_ [v_ 5 0,c2 6 5 (.int .u64 32) (.bin .shr),v_ 0 6] (.reg [c1 2 (nI_ 32) .mv])) .skip)) (.seq (sr_ [v_ 7 0,c2 8 7 (.int .u64 65536) bge_] (i_ 8 (sr_ [v_ 9 0,c2 10 9 (.int .u64 16) (.bin .shr),v_ 0 10] (.reg [v_ 11 2,c2 12 11 (nI_ 16) bad_,v_ 2 12])) .skip)) (.seq (sr_ [v_ 13 0,c2 14 13 (.int .u64 256) bge_] (i_ 14 (sr_ [v_ 15 0,c2 16 15 (.int .u64 8) (.bin .shr),v_ 0 16] (.reg [v_ 17 2,c2 18 17 (nI_ 8) bad_,v_ 2 18])) .skip)) (sr_ [v_ 19 2,v_ 20 0,o1 21 20 (.conv .u8),m_ 22 [k_ (.str [0,1,2,2,3,3,3,3,4,4,4,4,4,4,4,4,5,5,5,5,5,5,5,5,5,5,5,5,5,5,5,5,6,6,6,6,6,6,6,6,6,6,6,6,6,6,6,6,6,6,6,6,6,6,6,6,6,6,6,6,6,6,6,6,7,7,7,7,7,7,7,7,7,7,7,7,7,7,7,7,7,7,7,7,7,7,7,7,7,7,7,7,7,7,7,7,7,7,7,7,7,7,7,7,7,7,7,7,7,7,7,7,7,7,7,7,7,7,7,7,7,7,7,7,7,7,7,7,8,8,8,8,8,8,8,8,8,8,8,8,8,8,8,8,8,8,8,8,8,8,8,8,8,8,8,8,8,8,8,8,8,8,8,8,8,8,8,8,8,8,8,8,8,8,8,8,8,8,8,8,8,8,8,8,8,8,8,8,8,8,8,8,8,8,8,8,8,8,8,8,8,8,8,8,8,8,8,8,8,8,8,8,8,8,8,8,8,8,8,8,8,8,8,8,8,8,8,8,8,8,8,8,8,8,8,8,8,8,8,8,8,8,8,8,8,8,8,8,8,8,8,8,8,8,8,8]),s_ 21] .indexStr,o1 23 22 (.conv .i64),o2 24 19 23 bad_,v_ 2 24] .ret)))))
theorem LU:Bj Tryz.prog 165 1=some ⟨25,1,[(.slot 2)],HV⟩:=by kernel_rfl
def IC:AC:=(sr_ [bf_ 2] (sr_ [v_ 3 0,v_ 4 0,o2 5 3 4 bne_,v_ 2 5] .ret))
theorem Nk:Bj Tryz.prog 166 1=some ⟨6,1,[(.slot 2)],IC⟩:=by kernel_rfl
def ML:AC:=(sr_ [o1 4 0 .box,bf_ 8] (.seq (sr_ [v_ 11 1,k1 12 83 11,o1 13 12 ln,c2 14 13 (nI_ 0) beq_,v_ 15 14,g_ 16 15 false [s_ 2] .mv,g_ 17 15 false [k_ (.fn 83 []),s_ 16] .call,g_ 18 15 false [s_ 17] ln,g_ 19 15 false [s_ 18,k_ (nI_ 0)] beq_,m_ 20 [s_ 15,k_ bT_,s_ 19] .pick,v_ 21 20,g_ 22 21 false [s_ 4] l6,g_ 23 21 false [k_ (.fn 186 []),s_ 22] .call,g_ 24 21 false [s_ 23] nt,m_ 25 [s_ 21,k_ bT_,s_ 24] .pick] (i_ 25 (sr_ [bf_ 8] .ret) .skip)) (.seq (sr_ [o1 26 4 f5_,o1 27 26 ld,o1 28 27 ln,z_ 29] (.block 0 (.loop (sr_ [o2 30 29 28 bls_] (.seq (ex_ 30 0) (.seq (.block 1 (sr_ [o2 31 27 29 a4_,o1 32 31 (.load true 4),o0 10 (.alloc (.agg [(nI_ 0),(nI_ 0),(nI_ 0),(nI_ 0)]) 4),n2 10 32 (.store 4)] (.seq (.dreg [o1 33 10 (.load true 4),v_ 34 3,k2 35 135 33 34,o1 36 35 nt,v_ 37 36,g_ 38 37 false [s_ 1] .mv,g_ 39 37 false [s_ 38,k_ (nI_ 2)] beq_,g_ 40 37 false [s_ 39] .mv,g1 41 40 10 (.load true 4),g1 42 40 10 f0_,g1 43 40 42 ld,g_ 44 40 true [k_ (.fn 129 []),s_ 43] .call,g2 45 40 41 44 (.eqs true [1,1,1,1]),g_ 46 37 false [s_ 40,s_ 45,k_ bF_] .pick,m_ 47 [s_ 37,k_ bT_,s_ 46] .pick]) (i_ 47 (sr_ [bf_ 8] .ret) .skip)))) (.reg [i1_ 48 29,v_ 29 48]))))))) (sr_ [v_ 49 1,c2 50 49 (nI_ 2) bne_,v_ 51 50,g_ 52 51 false [s_ 4] f5_,g_ 53 51 false [s_ 52] ld,g_ 54 51 false [s_ 53] ln,g_ 55 51 false [s_ 54,k_ (nI_ 1)] ble_,m_ 56 [s_ 51,k_ bT_,s_ 55] .pick,v_ 57 56,g1 58 57 2 .mv,g_ 59 57 true [s_ 58,k_ (nI_ 2)] bne_,g1 60 57 59 .mv,g_ 61 60 false [s_ 4] l6,g_ 62 60 false [k_ (.fn 187 []),s_ 61] .call,g_ 63 57 true [s_ 60,k_ bT_,s_ 62] .pick,m_ 64 [s_ 57,s_ 63,k_ bF_] .pick,v_ 8 64] .ret))))
theorem Uz:Bj Tryz.prog 167 4=some ⟨65,4,[(.slot 8)],ML⟩:=by kernel_rfl
def MM:AC:=(sr_ [o1 2 0 .box,ns_ 4,bf_ 5] (sr_ [o1 9 2 l6,v_ 10 1,k2 11 188 9 10,v_ 8 11,o1 12 8 (.extract 0),o1 13 8 (.extract 1),v_ 6 12,v_ 7 13] (.seq (sr_ [v_ 14 7,o1 15 14 nt] (i_ 15 (sr_ [ns_ 4,bf_ 5] .ret) .skip)) (.seq (sr_ [v_ 16 6,o1 17 16 ln,c2 18 17 (nI_ 0) beq_] (i_ 18 (sr_ [ns_ 4,bt_ 5] .ret) .skip)) (.seq (.dtl [o1 19 2 l6,k1 20 137 19,v_ 21 6,k2 22 189 20 21,o1 23 2 f0_,o1 24 23 ld] [k2 25 115 22 24,v_ 4 25,bt_ 5]) .ret)))))
theorem U0:Bj Tryz.prog 168 2=some ⟨26,2,[(.slot 4),(.slot 5)],MM⟩:=by kernel_rfl
def Eg:AC:=(sr_ [v_ 5 0,o1 6 5 ln,v_ 4 6] (.reg [v_ 7 0,v_ 8 4,v_ 9 4,o1 10 9 (.conv .u64),k1 11 139 10,v_ 12 1,m_ 13 [k_ (.fn 190 []),s_ 7,k_ (nI_ 0),s_ 8,s_ 11,s_ 12] .call]))
theorem Gc:Bj Tryz.prog 169 2=some ⟨14,2,[],Eg⟩:=by kernel_rfl
def OA:AC:=(sr_ [ns_ 4] (sr_ [v_ 7 0,k1 8 144 7,v_ 9 1,k1 10 144 9,v_ 0 8,v_ 1 10] (sr_ [ns_ 5] (.seq (.block 0 (.loop (.seq (sr_ [v_ 11 0,o1 12 11 ln,c2 13 12 (nI_ 0) bgt_,v_ 14 13,g1 15 14 1 .mv,g1 16 14 15 ln,g_ 17 14 true [s_ 16,k_ (nI_ 0)] bgt_,m_ 18 [s_ 14,s_ 17,k_ bF_] .pick] (ex_ 18 0)) (.block 1 (.seq (.greg [v_ 19 0,c2 20 19 (nI_ 0) a2_,o1 21 20 f0_,o1 22 21 ld,v_ 23 1,c2 24 23 (nI_ 0) a2_,o1 25 24 f0_,o1 26 25 ld,o2 27 22 26 .max,v_ 28 0,c2 29 28 (nI_ 0) a2_,o1 30 29 f1_,o1 31 30 ld,v_ 32 1,c2 33 32 (nI_ 0) a2_,o1 34 33 f1_,o1 35 34 ld,o2 36 31 35 .min,o2 37 27 36 (.build [(nI_ 0),(nI_ 0)] [(0,1),(1,1)] [0,1]),o0 6 (.alloc (.agg [(nI_ 0),(nI_ 0)]) 2),n2 6 37 (.store 2)]) (.seq (sr_ [o1 38 6 f0_,o1 39 38 ld,o1 40 6 f1_,o1 41 40 ld,o2 42 39 41 ble_] (i_ 42 (.reg [v_ 43 5,o1 44 6 (.load true 2),o1 45 44 (.bslice 2 1 (.agg [(nI_ 0),(nI_ 0)]) [0]),o2 46 43 45 (.app 2 16 (.agg [(nI_ 0),(nI_ 0)])),v_ 5 46]) .skip)) (.seq (.dreg [v_ 47 0,c2 48 47 (nI_ 0) a2_,o1 49 48 f1_,o1 50 49 ld,v_ 51 1,c2 52 51 (nI_ 0) a2_,o1 53 52 f1_,o1 54 53 ld,o2 55 50 54 bls_]) (i_ 55 (.reg [v_ 56 0,c2 57 56 (nI_ 1) (.slice 2 true false false),v_ 0 57]) (.reg [v_ 58 1,c2 59 58 (nI_ 1) (.slice 2 true false false),v_ 1 59]))))))))) (sr_ [v_ 60 5,v_ 4 60] .ret)))))
theorem VX:Bj Tryz.prog 172 2=some ⟨61,2,[(.slot 4)],OA⟩:=by kernel_rfl
def JM:AC:=(sr_ [o1 1 0 .box,bf_ 2] (sr_ [o1 3 1 f0_,o1 4 3 ld,k1 5 199 4,v_ 6 5,g1 7 6 1 f4_,g1 8 6 7 ld,g_ 9 6 true [k_ (.fn 199 []),s_ 8] .call,m_ 10 [s_ 6,s_ 9,k_ bF_] .pick,v_ 11 10,g1 12 11 1 l6,g_ 13 11 true [k_ (.fn 137 []),s_ 12] .call,g_ 14 11 true [k_ (.fn 135 []),s_ 13,k_ (nI_ 1)] .call,m_ 15 [s_ 11,s_ 14,k_ bF_] .pick,v_ 16 15,g1 17 16 1 f5_,g1 18 16 17 ld,g_ 19 16 true [k_ (.fn 206 []),s_ 18] .call,m_ 20 [s_ 16,s_ 19,k_ bF_] .pick,v_ 2 20] .ret))
theorem PM:Bj Tryz.prog 186 1=some ⟨21,1,[(.slot 2)],JM⟩:=by kernel_rfl
def MN:AC:=(sr_ [o1 1 0 .box,bf_ 2] (sr_ [o1 3 1 f0_,o1 4 3 ld,c2 5 4 (nI_ 0) beq_,v_ 6 5,g1 7 6 1 l6,g_ 8 6 true [k_ (.fn 137 []),s_ 7] .call,g_ 9 6 true [k_ (.fn 129 []),k_ (nI_ 0)] .call,g2 10 6 8 9 (.eqs false [1,1,1,1]),m_ 11 [s_ 6,s_ 10,k_ bF_] .pick,v_ 2 11] .ret))
theorem U1:Bj Tryz.prog 187 1=some ⟨12,1,[(.slot 2)],MN⟩:=by kernel_rfl
def MO:AC:=(sr_ [o1 2 0 .box,ns_ 4,bf_ 5] (.seq (sr_ [v_ 12 1,o1 13 12 ln,c2 14 13 (nI_ 4) bgt_,v_ 15 14,g_ 16 15 false [s_ 2] l6,g_ 17 15 false [k_ (.fn 186 []),s_ 16] .call,g_ 18 15 false [s_ 17] nt,m_ 19 [s_ 15,k_ bT_,s_ 18] .pick] (i_ 19 (sr_ [ns_ 4,bf_ 5] .ret) .skip)) (sr_ [bt_ 6] (sr_ [v_ 20 1,o1 21 20 ln,o2 22 21 21 (.mkSlice 1 24 .nilS),v_ 7 22] (.seq (sr_ [v_ 23 1,o1 24 23 ln,z_ 25] (.block 0 (.loop (sr_ [o2 26 25 24 bls_] (.seq (ex_ 26 0) (.seq (.block 1 (sr_ [v_ 27 25,o2 28 23 25 a1_,o1 29 28 ld,v_ 8 27,v_ 9 29] (sr_ [v_ 30 7,v_ 31 8,v_ 32 9,k0 33 207,k2 34 172 32 33,o2 35 30 31 a1_,n2 35 34 st] (.reg [v_ 36 6,v_ 37 36,g1 38 37 7 .mv,g1 39 37 8 .mv,g2 40 37 38 39 a1_,g1 41 37 40 ld,g1 42 37 41 ln,g_ 43 37 true [s_ 42,k_ (nI_ 0)] bgt_,m_ 44 [s_ 37,s_ 43,k_ bF_] .pick,v_ 6 44])))) (.reg [i1_ 45 25,v_ 25 45]))))))) (.seq (sr_ [o1 46 2 f5_,o1 47 46 ld,o1 48 47 ln,z_ 49] (.block 2 (.loop (sr_ [o2 50 49 48 bls_] (.seq (ex_ 50 2) (.seq (.block 3 (sr_ [o2 51 47 49 a4_,o1 52 51 (.load true 4),o0 11 (.alloc (.agg [(nI_ 0),(nI_ 0),(nI_ 0),(nI_ 0)]) 4),n2 11 52 (.store 4)] (sr_ [o1 53 11 (.load true 4),v_ 54 1,o1 55 54 ln,k2 56 135 53 55,o1 57 56 nt] (i_ 57 (sr_ [ns_ 4,bf_ 5] .ret) .skip)))) (.reg [i1_ 58 49,v_ 49 58]))))))) (.seq (sr_ [v_ 59 6,o1 60 59 nt] (i_ 60 (sr_ [ns_ 4,bt_ 5] .ret) .skip)) (sr_ [o1 61 2 l6,v_ 62 7,k2 63 208 61 62,o1 64 63 (.extract 0),o1 65 63 (.extract 1),v_ 4 64,v_ 5 65] .ret))))))))
theorem U2:Bj Tryz.prog 188 2=some ⟨66,2,[(.slot 4),(.slot 5)],MO⟩:=by kernel_rfl
def Jb:AC:=(sr_ [o1 2 0 .box,ns_ 4] (.seq (sr_ [o1 13 2 (.load true 4),k1 14 155 13,o1 15 14 nt] (i_ 15 (sr_ [ns_ 4] .ret) .skip)) (sr_ [o1 16 2 f2_,o1 17 16 ld,m_ 18 [k_ (nI_ 1),s_ 17] (.bin .shl),c2 19 18 (nI_ 1) bsu_,v_ 5 19] (sr_ [ns_ 6] (.seq (sr_ [v_ 20 1,m_ 21 [k_ (nI_ 0),k_ (nI_ 2097151)] (.build [(nI_ 0),(nI_ 0)] [(0,1),(1,1)] [0,1]),o1 22 21 (.bslice 2 1 (.agg [(nI_ 0),(nI_ 0)]) [0]),k2 23 172 20 22,o1 24 23 ln,z_ 25] (.block 0 (.loop (sr_ [o2 26 25 24 bls_] (.seq (ex_ 26 0) (.seq (.block 1 (sr_ [o2 27 23 25 a2_,o1 28 27 (.load true 2),o0 8 (.alloc (.agg [(nI_ 0),(nI_ 0)]) 2),n2 8 28 (.store 2)] (.seq (.dreg [o1 29 8 f0_,o1 30 29 ld,o1 31 2 f1_,o1 32 31 ld,o2 33 30 32 (.bin .shr),o1 34 8 f1_,o1 35 34 ld,o1 36 2 f1_,o1 37 36 ld,o2 38 35 37 (.bin .shr),v_ 9 33,v_ 10 38]) (.seq (sr_ [v_ 39 10,v_ 40 9,o2 41 39 40 bsu_,v_ 42 5,o2 43 41 42 bge_] (i_ 43 (sr_ [v_ 44 5,m_ 45 [k_ (nI_ 0),s_ 44] (.build [(nI_ 0),(nI_ 0)] [(0,1),(1,1)] [0,1]),o1 46 45 (.bslice 2 1 (.agg [(nI_ 0),(nI_ 0)]) [0]),v_ 6 46] (.exit 0)) .skip)) (sr_ [v_ 47 9,v_ 48 5,o2 49 47 48 (.bin .and),v_ 50 10,v_ 51 5,o2 52 50 51 (.bin .and),o2 53 49 52 ble_] (i_ 53 (.reg [v_ 54 6,v_ 55 9,v_ 56 5,o2 57 55 56 (.bin .and),v_ 58 10,v_ 59 5,o2 60 58 59 (.bin .and),o2 61 57 60 (.build [(nI_ 0),(nI_ 0)] [(0,1),(1,1)] [0,1]),o1 62 61 (.bslice 2 1 (.agg [(nI_ 0),(nI_ 0)]) [0]),o2 63 54 62 (.app 2 16 (.agg [(nI_ 0),(nI_ 0)])),v_ 6 63]) (.reg [v_ 64 6,v_ 65 10,v_ 66 5,o2 67 65 66 (.bin .and),m_ 68 [k_ (nI_ 0),s_ 67] (.build [(nI_ 0),(nI_ 0)] [(0,1),(1,1)] [0,1]),v_ 69 9,v_ 70 5,o2 71 69 70 (.bin .and),v_ 72 5,o2 73 71 72 (.build [(nI_ 0),(nI_ 0)] [(0,1),(1,1)] [0,1]),o2 74 68 73 (.bslice 2 2 (.agg [(nI_ 0),(nI_ 0)]) [0,1]),o2 75 64 74 (.app 2 16 (.agg [(nI_ 0),(nI_ 0)])),v_ 6 75]))))))) (.reg [i1_ 76 25,v_ 25 76]))))))) (sr_ [v_ 77 6,k1 78 144 77,v_ 6 78] (.seq (sr_ [o1 79 2 f3_,o1 80 79 ld,c2 81 80 (nI_ 0) beq_] (i_ 81 (sr_ [v_ 82 6,v_ 4 82] .ret) .skip)) (sr_ [o0 11 (.alloc .nilS 1)] (.seq (sr_ [v_ 83 6,k1 84 209 83] (.block 2 (.rng (.slot 84) [85] (.reg [v_ 12 85]) (.block 3 (.dtl [o1 86 11 ld,v_ 87 12,o1 88 2 f3_,o1 89 88 ld,o2 90 87 89 (.bin .shl),v_ 91 12,o1 92 2 f3_,o1 93 92 ld,o2 94 91 93 (.bin .shl),o2 95 90 94 (.build [(nI_ 0),(nI_ 0)] [(0,1),(1,1)] [0,1]),o1 96 95 (.bslice 2 1 (.agg [(nI_ 0),(nI_ 0)]) [0])] [o2 97 86 96 (.app 2 16 (.agg [(nI_ 0),(nI_ 0)])),n2 11 97 st]))))) (sr_ [o1 98 11 ld,k1 99 144 98,v_ 4 99] .ret))))))))))
theorem MP:Bj Tryz.prog 189 2=some ⟨100,2,[(.slot 4)],Jb⟩:=by kernel_rfl
def EG:AC:=(sr_ [bt_ 10] (sr_ [bt_ 11] (.block 0 (.loop (.block 1 (sr_ [v_ 21 2,v_ 22 1,o2 23 21 22 bsu_,v_ 12 23] (.seq (sr_ [v_ 24 12,c2 25 24 (nI_ 12) ble_] (i_ 25 (sr_ [v_ 26 0,v_ 27 1,v_ 28 2,v_ 29 4,m_ 30 [k_ (.fn 210 []),s_ 26,s_ 27,s_ 28,s_ 29] .call] .ret) .skip)) (.seq (sr_ [v_ 31 3,c2 32 31 (nI_ 0) beq_] (i_ 32 (sr_ [v_ 33 0,v_ 34 1,v_ 35 2,v_ 36 4,m_ 37 [k_ (.fn 211 []),s_ 33,s_ 34,s_ 35,s_ 36] .call] .ret) .skip)) (.seq (sr_ [v_ 38 10,o1 39 38 nt] (i_ 39 (sr_ [v_ 40 0,v_ 41 1,v_ 42 2,v_ 43 4,m_ 44 [k_ (.fn 212 []),s_ 40,s_ 41,s_ 42,s_ 43] .call] (.reg [v_ 45 3,c2 46 45 (nI_ 1) bsu_,v_ 3 46])) .skip)) (sr_ [v_ 48 0,v_ 49 1,v_ 50 2,v_ 51 4,m_ 52 [k_ (.fn 213 []),s_ 48,s_ 49,s_ 50,s_ 51] .call,v_ 47 52,o1 53 47 (.extract 0),o1 54 47 (.extract 1),v_ 13 53,v_ 14 54] (.seq (sr_ [v_ 55 14,c2 56 55 (nI_ 2) beq_] (i_ 56 (sr_ [v_ 57 0,v_ 58 1,v_ 59 2,v_ 60 4,m_ 61 [k_ (.fn 214 []),s_ 57,s_ 58,s_ 59,s_ 60] .call] (sr_ [v_ 62 2,c2 63 62 (nI_ 1) bsu_,v_ 64 13,v_ 65 1,o2 66 64 65 bsu_,o2 67 63 66 bsu_,v_ 13 67] (.reg [c1 14 (nI_ 1) .mv]))) .skip)) (.seq (sr_ [v_ 68 10,v_ 69 68,g1 70 69 11 .mv,m_ 71 [s_ 69,s_ 70,k_ bF_] .pick,v_ 72 71,g1 73 72 14 .mv,g_ 74 72 true [s_ 73,k_ (nI_ 1)] beq_,m_ 75 [s_ 72,s_ 74,k_ bF_] .pick] (i_ 75 (sr_ [v_ 76 0,v_ 77 1,v_ 78 2,v_ 79 4,m_ 80 [k_ (.fn 215 []),s_ 76,s_ 77,s_ 78,s_ 79] .call] (i_ 80 .ret .skip)) .skip)) (.seq (.seq (.dtl [v_ 81 1,c2 82 81 (nI_ 0) bgt_,v_ 83 82,g1 84 83 4 .mv,g1 85 83 0 .mv,g1 86 83 1 .mv,g_ 87 83 true [s_ 86,k_ (nI_ 1)] bsu_,g2 88 83 85 87 a2_,g1 89 83 88 (.load true 2),g1 90 83 0 .mv,g1 91 83 13 .mv,g2 92 83 90 91 a2_,g1 93 83 92 (.load true 2)] [g_ 94 83 true [s_ 84,s_ 89,s_ 93] .call,g_ 95 83 true [s_ 94,k_ (nI_ 0)] bls_,g1 96 83 95 nt,m_ 97 [s_ 83,s_ 96,k_ bF_] .pick]) (i_ 97 (sr_ [v_ 98 0,v_ 99 1,v_ 100 2,v_ 101 13,v_ 102 4,m_ 103 [k_ (.fn 216 []),s_ 98,s_ 99,s_ 100,s_ 101,s_ 102] .call,v_ 15 103] (sr_ [v_ 104 15,v_ 1 104] (.exit 1))) .skip)) (sr_ [v_ 106 0,v_ 107 1,v_ 108 2,v_ 109 13,v_ 110 4,m_ 111 [k_ (.fn 217 []),s_ 106,s_ 107,s_ 108,s_ 109,s_ 110] .call,v_ 105 111,o1 112 105 (.extract 0),o1 113 105 (.extract 1),v_ 16 112,v_ 17 113] (sr_ [v_ 114 17,v_ 11 114] (sr_ [v_ 115 16,v_ 116 1,o2 117 115 116 bsu_,v_ 118 2,v_ 119 16,o2 120 118 119 bsu_,v_ 18 117,v_ 19 120] (sr_ [v_ 121 12,c2 122 121 (nI_ 8) (.bin .quo),v_ 20 122] (sr_ [v_ 123 18,v_ 124 19,o2 125 123 124 bls_] (i_ 125 (sr_ [v_ 126 18,v_ 127 20,o2 128 126 127 bge_,v_ 10 128] (sr_ [v_ 129 0,v_ 130 1,v_ 131 16,v_ 132 3,v_ 133 4,m_ 134 [k_ (.fn 190 []),s_ 129,s_ 130,s_ 131,s_ 132,s_ 133] .call] (.reg [v_ 135 16,i1_ 136 135,v_ 1 136]))) (sr_ [v_ 137 19,v_ 138 20,o2 139 137 138 bge_,v_ 10 139] (sr_ [v_ 140 0,v_ 141 16,i1_ 142 141,v_ 143 2,v_ 144 3,v_ 145 4,m_ 146 [k_ (.fn 190 []),s_ 140,s_ 142,s_ 143,s_ 144,s_ 145] .call] (.reg [v_ 147 16,v_ 2 147]))))))))))))))))))))))
theorem Gv:Bj Tryz.prog 190 5=some ⟨148,5,[],EG⟩:=by kernel_rfl
def OB:AC:=(sr_ [z_ 2,bf_ 3] (sr_ [v_ 5 0,k1 6 144 5,v_ 4 6] (.seq (sr_ [v_ 7 4,o1 8 7 ln,c2 9 8 (nI_ 0) beq_] (i_ 9 (sr_ [z_ 2,bf_ 3] .ret) .skip)) (sr_ [v_ 10 4,v_ 11 4,o1 12 11 ln,c2 13 12 (nI_ 1) bsu_,o2 14 10 13 a2_,o1 15 14 f1_,o1 16 15 ld,v_ 2 16,bt_ 3] .ret))))
theorem VY:Bj Tryz.prog 196 1=some ⟨17,1,[(.slot 2),(.slot 3)],OB⟩:=by kernel_rfl
def MQ:AC:=(sr_ [bf_ 2] (sr_ [v_ 3 0,c2 4 3 (nI_ (-1114111)) bge_,v_ 5 4,g1 6 5 0 .mv,g_ 7 5 true [s_ 6,k_ (nI_ 1114111)] ble_,m_ 8 [s_ 5,s_ 7,k_ bF_] .pick,v_ 2 8] .ret))
theorem U3:Bj Tryz.prog 199 1=some ⟨9,1,[(.slot 2)],MQ⟩:=by kernel_rfl
def KW:AC:=(sr_ [bf_ 2] (.seq (sr_ [v_ 5 0,o1 6 5 ln,z_ 7] (.block 0 (.loop (sr_ [o2 8 7 6 bls_] (.seq (ex_ 8 0) (.seq (.block 1 (sr_ [v_ 9 7,o2 10 5 7 a4_,o1 11 10 (.load true 4),o0 4 (.alloc (.agg [(nI_ 0),(nI_ 0),(nI_ 0),(nI_ 0)]) 4),v_ 3 9,n2 4 11 (.store 4)] (.seq (.dreg [v_ 12 3,c2 13 12 (nI_ 0) bgt_,v_ 14 13,g1 15 14 4 f3_,g1 16 14 15 ld,g1 17 14 0 .mv,g1 18 14 3 .mv,g_ 19 14 true [s_ 18,k_ (nI_ 1)] bsu_,g2 20 14 17 19 a4_,g1 21 14 20 f3_,g1 22 14 21 ld,g2 23 14 16 22 ble_,m_ 24 [s_ 14,s_ 23,k_ bF_] .pick]) (i_ 24 (sr_ [bf_ 2] .ret) .skip)))) (.reg [i1_ 25 7,v_ 7 25]))))))) (sr_ [v_ 26 0,o1 27 26 ln,c2 28 27 (nI_ 4) ble_,v_ 2 28] .ret)))
theorem Sc:Bj Tryz.prog 206 1=some ⟨29,1,[(.slot 2)],KW⟩:=by kernel_rfl
def JN:AC:=(sr_ [ns_ 0] (sr_ [m_ 1 [k_ (nI_ 0),k_ (nI_ 1114111)] (.build [(nI_ 0),(nI_ 0)] [(0,1),(1,1)] [0,1]),o1 2 1 (.bslice 2 1 (.agg [(nI_ 0),(nI_ 0)]) [0]),v_ 0 2] .ret))
theorem PN:Bj Tryz.prog 207 0=some ⟨3,0,[(.slot 0)],JN⟩:=by kernel_rfl
def KX:AC:=(sr_ [o1 2 0 .box,ns_ 4,bf_ 5] (sr_ [o0 17 .mkMap,v_ 6 17] (sr_ [ns_ 7] (.seq (sr_ [o1 18 2 f5_,o1 19 18 ld,o1 20 19 ln,z_ 21] (.block 0 (.loop (sr_ [o2 22 21 20 bls_] (.seq (ex_ 22 0) (.seq (.block 1 (sr_ [o2 23 19 21 a4_,o1 24 23 (.load true 4),o0 9 (.alloc (.agg [(nI_ 0),(nI_ 0),(nI_ 0),(nI_ 0)]) 4),n2 9 24 (.store 4)] (.seq (sr_ [v_ 25 6,o1 26 9 f0_,o1 27 26 ld,o2 28 25 27 (.mapGet .nilS),o1 29 28 ln,c2 30 29 (nI_ 0) beq_] (i_ 30 (.reg [v_ 31 7,o1 32 9 f0_,o1 33 32 ld,o1 34 33 (.bslice 1 1 (nI_ 0) [0]),o2 35 31 34 (.app 1 8 (nI_ 0)),v_ 7 35]) .skip)) (.grx [false,true,true,false,true,true,false,true,false,false,false] [m_ 36 [s_ 6] .mv,m_ 37 [s_ 9] f0_,m_ 38 [s_ 37] ld,m_ 39 [s_ 6] .mv,m_ 40 [s_ 9] f0_,m_ 41 [s_ 40] ld,m_ 42 [s_ 39,s_ 41] (.mapGet .nilS),m_ 43 [s_ 9] (.load true 4),m_ 44 [s_ 43] (.bslice 4 1 (.agg [(nI_ 0),(nI_ 0),(nI_ 0),(nI_ 0)]) [0]),m_ 45 [s_ 42,s_ 44] (.app 4 32 (.agg [(nI_ 0),(nI_ 0),(nI_ 0),(nI_ 0)])),h_ [s_ 36,s_ 38,s_ 45] .mapSet])))) (.reg [i1_ 46 21,v_ 21 46]))))))) (sr_ [o1 47 2 f4_,o1 48 47 ld,o1 49 2 f4_,o1 50 49 ld,o2 51 48 50 (.build [(nI_ 0),(nI_ 0)] [(0,1),(1,1)] [0,1]),o1 52 51 (.bslice 2 1 (.agg [(nI_ 0),(nI_ 0)]) [0]),v_ 10 52] (.seq (sr_ [v_ 53 7,o1 54 53 ln,z_ 55] (.block 2 (.loop (sr_ [o2 56 55 54 bls_] (.seq (ex_ 56 2) (.seq (.block 3 (sr_ [o2 57 53 55 a1_,o1 58 57 ld,v_ 12 58] (.dtl [v_ 59 10,v_ 60 6,v_ 61 12,o2 62 60 61 (.mapGet .nilS),v_ 63 1,v_ 64 12,o2 65 63 64 a1_,o1 66 65 ld,k2 67 230 62 66] [k2 68 229 59 67,v_ 10 68]))) (.reg [i1_ 69 55,v_ 55 69]))))))) (sr_ [v_ 71 10,k1 72 231 71,v_ 70 72,o1 73 70 (.extract 0),o1 74 70 (.extract 1),v_ 13 73,v_ 14 74] (sr_ [v_ 76 10,k1 77 196 76,v_ 75 77,o1 78 75 (.extract 0),o1 79 75 (.extract 1),v_ 15 78,v_ 16 79] (sr_ [v_ 80 10,v_ 81 10,o1 82 81 ln,c2 83 82 (nI_ 0) bgt_,v_ 84 83,g1 85 84 13 .mv,g_ 86 84 true [s_ 85,k_ (nI_ 0)] bge_,m_ 87 [s_ 84,s_ 86,k_ bF_] .pick,v_ 88 87,g1 89 88 15 .mv,g_ 90 88 true [s_ 89,k_ (nI_ 1114111)] ble_,m_ 91 [s_ 88,s_ 90,k_ bF_] .pick,v_ 4 80,v_ 5 91] .ret)))))))))
theorem Sd:Bj Tryz.prog 208 2=some ⟨92,2,[(.slot 4),(.slot 5)],KX⟩:=by kernel_rfl
def OC:AC:=(sr_ [c1 2 .nilF .mv] (sr_ [v_ 4 0,k1 5 144 4,o0 3 (.alloc .nilS 1),n2 3 5 st] (sr_ [o1 6 3 (.mkFunc 232),v_ 2 6] .ret)))
theorem VZ:Bj Tryz.prog 209 1=some ⟨7,1,[(.slot 2)],OC⟩:=by kernel_rfl
def DD:AC:=(sr_ [v_ 10 1,i1_ 11 10,v_ 8 11] (.block 0 (.loop (.seq (sr_ [v_ 12 8,v_ 13 2,o2 14 12 13 bls_] (ex_ 14 0)) (.seq (.block 1 (sr_ [v_ 17 8,v_ 9 17] (.block 2 (.loop (.seq (.seq (.dtl [v_ 18 9,v_ 19 1,o2 20 18 19 bgt_,v_ 21 20,g1 22 21 3 .mv,g1 23 21 0 .mv,g1 24 21 9 .mv,g2 25 21 23 24 a2_,g1 26 21 25 (.load true 2),g1 27 21 0 .mv,g1 28 21 9 .mv,g_ 29 21 true [s_ 28,k_ (nI_ 1)] bsu_,g2 30 21 27 29 a2_,g1 31 21 30 (.load true 2)] [g_ 32 21 true [s_ 22,s_ 26,s_ 31] .call,g_ 33 21 true [s_ 32,k_ (nI_ 0)] bls_,m_ 34 [s_ 21,s_ 33,k_ bF_] .pick]) (ex_ 34 2)) (.seq (.block 3 (.greg [v_ 37 0,v_ 38 9,v_ 39 0,v_ 40 9,c2 41 40 (nI_ 1) bsu_,v_ 42 0,v_ 43 9,c2 44 43 (nI_ 1) bsu_,o2 45 42 44 a2_,o1 46 45 (.load true 2),v_ 47 0,v_ 48 9,o2 49 47 48 a2_,o1 50 49 (.load true 2),o2 51 37 38 a2_,n2 51 46 (.store 2),o2 52 39 41 a2_,n2 52 50 (.store 2)])) (.reg [v_ 35 9,c2 36 35 (nI_ 1) bsu_,v_ 9 36]))))))) (.reg [v_ 15 8,i1_ 16 15,v_ 8 16]))))))
theorem FC:Bj Tryz.prog 210 4=some ⟨53,4,[],DD⟩:=by kernel_rfl
def OE:AC:=(sr_ [ns_ 4] (sr_ [ns_ 5] (.seq (sr_ [v_ 10 0,o1 11 10 ln,z_ 12] (.block 0 (.loop (sr_ [o2 13 12 11 bls_] (.seq (ex_ 13 0) (.seq (.block 1 (sr_ [o2 14 10 12 a2_,o1 15 14 (.load true 2),o0 7 (.alloc (.agg [(nI_ 0),(nI_ 0)]) 2),n2 7 15 (.store 2)] (.seq (sr_ [v_ 16 1,o1 17 16 ln,z_ 18] (.block 2 (.loop (sr_ [o2 19 18 17 bls_] (.seq (ex_ 19 2) (.seq (.block 3 (sr_ [o2 20 16 18 a2_,o1 21 20 (.load true 2),o0 9 (.alloc (.agg [(nI_ 0),(nI_ 0)]) 2),n2 9 21 (.store 2)] (.reg [v_ 22 5,o1 23 7 f0_,o1 24 23 ld,o1 25 9 f0_,o1 26 25 ld,o2 27 24 26 bad_,o1 28 7 f1_,o1 29 28 ld,o1 30 9 f1_,o1 31 30 ld,o2 32 29 31 bad_,o2 33 27 32 (.build [(nI_ 0),(nI_ 0)] [(0,1),(1,1)] [0,1]),o1 34 33 (.bslice 2 1 (.agg [(nI_ 0),(nI_ 0)]) [0]),o2 35 22 34 (.app 2 16 (.agg [(nI_ 0),(nI_ 0)])),v_ 5 35]))) (.reg [i1_ 36 18,v_ 18 36]))))))) (sr_ [v_ 37 5,o1 38 37 ln,c2 39 38 (nI_ 65536) bgt_] (i_ 39 (.reg [v_ 40 5,k1 41 144 40,v_ 5 41]) .skip))))) (.reg [i1_ 42 12,v_ 12 42]))))))) (sr_ [v_ 43 5,k1 44 144 43,v_ 4 44] .ret))))
theorem Wa:Bj Tryz.prog 229 2=some ⟨45,2,[(.slot 4)],OE⟩:=by kernel_rfl
def Jc:AC:=(sr_ [o1 2 0 .box,ns_ 4] (.seq (sr_ [o1 13 2 ld,o1 14 13 ln,c2 15 14 (nI_ 1) beq_] (i_ 15 (sr_ [o1 16 2 ld,c2 17 16 (nI_ 0) a4_,o1 18 17 (.load true 4),v_ 19 1,k2 20 189 18 19,v_ 4 20] .ret) .skip)) (sr_ [o0 5 (.alloc .nilS 1)] (.seq (sr_ [v_ 21 1,k1 22 209 21] (.block 0 (.rng (.slot 22) [23] (.reg [v_ 6 23]) (.block 1 (sr_ [z_ 7] (.seq (sr_ [o1 24 2 ld,o1 25 24 ln,z_ 26] (.block 2 (.loop (sr_ [o2 27 26 25 bls_] (.seq (ex_ 27 2) (.seq (.block 3 (sr_ [o2 28 24 26 a4_,o1 29 28 (.load true 4),o0 9 (.alloc (.agg [(nI_ 0),(nI_ 0),(nI_ 0),(nI_ 0)]) 4),n2 9 29 (.store 4)] (sr_ [o1 31 9 (.load true 4),v_ 32 6,k2 33 136 31 32,v_ 30 33,o1 34 30 (.extract 0),o1 35 30 (.extract 1),v_ 10 34,v_ 11 35] (.reg [v_ 36 7,v_ 37 10,o2 38 36 37 bad_,v_ 7 38])))) (.reg [i1_ 39 26,v_ 26 39]))))))) (sr_ [o1 40 5 ld,o1 41 40 ln,v_ 12 41] (sr_ [v_ 42 12,c2 43 42 (nI_ 0) bgt_,v_ 44 43,g1 45 44 5 ld,g1 46 44 12 .mv,g_ 47 44 true [s_ 46,k_ (nI_ 1)] bsu_,g2 48 44 45 47 a2_,g1 49 44 48 f1_,g1 50 44 49 ld,g1 51 44 7 .mv,g_ 52 44 true [s_ 51,k_ (nI_ 1)] bsu_,g2 53 44 50 52 beq_,m_ 54 [s_ 44,s_ 53,k_ bF_] .pick] (i_ 54 (.reg [o1 55 5 ld,v_ 56 12,c2 57 56 (nI_ 1) bsu_,v_ 58 7,o2 59 55 57 a2_,o1 60 59 f1_,n2 60 58 st]) (.reg [o1 61 5 ld,v_ 62 7,v_ 63 7,o2 64 62 63 (.build [(nI_ 0),(nI_ 0)] [(0,1),(1,1)] [0,1]),o1 65 64 (.bslice 2 1 (.agg [(nI_ 0),(nI_ 0)]) [0]),o2 66 61 65 (.app 2 16 (.agg [(nI_ 0),(nI_ 0)])),n2 5 66 st])))))))))) (sr_ [o1 67 5 ld,k1 68 144 67,v_ 4 68] .ret)))))
theorem OF:Bj Tryz.prog 230 2=some ⟨69,2,[(.slot 4)],Jc⟩:=by kernel_rfl
def MR:AC:=(sr_ [z_ 2,bf_ 3] (sr_ [v_ 5 0,k1 6 144 5,v_ 4 6] (.seq (sr_ [v_ 7 4,o1 8 7 ln,c2 9 8 (nI_ 0) beq_] (i_ 9 (sr_ [z_ 2,bf_ 3] .ret) .skip)) (sr_ [v_ 10 4,c2 11 10 (nI_ 0) a2_,o1 12 11 f0_,o1 13 12 ld,v_ 2 13,bt_ 3] .ret))))
theorem U4:Bj Tryz.prog 231 1=some ⟨14,1,[(.slot 2),(.slot 3)],MR⟩:=by kernel_rfl
def It:AC:=(sr_ [o1 6 1 ld,o1 7 6 ln,z_ 8] (.block 0 (.loop (sr_ [o2 9 8 7 bls_] (.seq (ex_ 9 0) (.seq (.block 1 (sr_ [o2 10 6 8 a2_,o1 11 10 (.load true 2),o0 4 (.alloc (.agg [(nI_ 0),(nI_ 0)]) 2),n2 4 11 (.store 2)] (sr_ [o1 12 4 f0_,o1 13 12 ld,v_ 5 13] (.block 2 (.loop (.seq (sr_ [v_ 14 5,o1 15 4 f1_,o1 16 15 ld,o2 17 14 16 ble_] (ex_ 17 2)) (.seq (.block 3 (sr_ [v_ 20 0,v_ 21 5,o2 22 20 21 .call,o1 23 22 nt] (i_ 23 .ret .skip))) (.reg [v_ 18 5,i1_ 19 18,v_ 5 19])))))))) (.reg [i1_ 24 8,v_ 8 24])))))))
theorem Se:Bj Tryz.prog 232 2=some ⟨25,2,[],It⟩:=by kernel_rfl
open Abs O1 O2 O3
theorem GA{P:Program}{f m np b:Nat}{xs:List AV}{l:List Grp}{K:AV->A5->Prop}{res:List ARes}{B:AC}(hf:Bj P f xs.length=some ⟨m,np,res,B⟩)(hb:b=l.length)(h:W P m b B (entry xs) (Abs.hl l) (Ret P res K)):B3 P f xs (Abs.hl l) K:=by
 subst hb;exact GD hf (W_T h)
theorem ziw(l:List Span):B3 Tryz.prog 210 [.ref 0 1 0 0,.int .i64 0,.int .i64 0,.fn 170 []] (Abs.hl [⟨2,1,true,l.map C2⟩]) λy H'=>y=.tup []/\H'=Abs.hl [⟨2,1,true,l.map C2⟩]:=by
 refine GA (b:=1) FC rfl ?_;unfold DD;(with_reducible repeat'(first|simp(disch:=omega)only[push_cast,↓zz,seval]|refine sp_ ?_ ?_<;>try(intro hc;push_cast at hc)|omega|intro _))
 refine Br (Bs (λ(_:Unit)=>True) (λ_=>0) (λ_=>[(0,.ref 0 1 0 0),(1,.int .i64 0),(2,.int .i64 0),(3,.fn 170 []),(8,.int .i64 1)])
  (λ_=>[⟨2,1,true,l.map C2⟩]) (λ_ _=>[]) () trivial ?_ ?_)
 ·(with_reducible repeat'(first|simp(disch:=omega)only[push_cast,↓zz,seval]|refine sp_ ?_ ?_<;>try(intro hc;push_cast at hc)|omega|intro _))
 rintro _ _;refine W_T ?_;(with_reducible repeat'(first|simp(disch:=omega)only[push_cast,↓zz,seval]|refine sp_ ?_ ?_<;>try(intro hc;push_cast at hc)|omega|intro _))
set_option maxRecDepth 100000 in
theorem len0:PC Tryz.prog 165 [.int .u64 0] (.int .i64 0):=by
 refine Cf LU ?_;unfold HV;(with_reducible repeat'(first|simp(disch:=omega)only[push_cast,↓zz,seval]|refine sp_ ?_ ?_<;>try(intro hc;push_cast at hc)|omega|intro _))
 all_goals decide
theorem zb4:PC Tryz.prog 139 [.int .u64 0] (.int .i64 0):=by
 refine Cf O6 ?_;unfold Ja;(with_reducible repeat'(first|simp(disch:=omega)only[push_cast,↓zz,seval]|refine sp_ ?_ ?_<;>try(intro hc;push_cast at hc)|refine ee len0 ?_|(refine cc len0 ?_;simp(disch:=omega)only[push_cast,↓zz,seval];fail_if_success change False)|omega|intro _))
theorem pdq0(l:List Span):B3 Tryz.prog 190 [.ref 0 1 0 0,.int .i64 0,.int .i64 0,.int .i64 0,.fn 170 []] (Abs.hl [⟨2,1,true,l.map C2⟩]) λy H'=>y=.tup []/\H'=Abs.hl [⟨2,1,true,l.map C2⟩]:=by
 refine GA (b:=1) Gv rfl ?_;unfold EG;(with_reducible repeat'(first|simp(disch:=omega)only[push_cast,↓zz,seval]|refine sp_ ?_ ?_<;>try(intro hc;push_cast at hc)|omega|intro _))
 refine Br (Bs (λ(_:Unit)=>True) (λ_=>0) (λ_=>[(0,.ref 0 1 0 0),(1,.int .i64 0),(2,.int .i64 0),(3,.int .i64 0),(4,.fn 170 []),(10,.bool true),(11,.bool true)])
  (λ_=>[⟨2,1,true,l.map C2⟩]) (λ_ _=>[]) () trivial ?_ ?_)
 ·(with_reducible repeat'(first|simp(disch:=omega)only[push_cast,↓zz,seval]|refine sp_ ?_ ?_<;>try(intro hc;push_cast at hc)|omega|intro _))
 rintro _ _;refine W_T ?_;(with_reducible repeat'(first|simp(disch:=omega)only[push_cast,↓zz,seval]|refine sp_ ?_ ?_<;>try(intro hc;push_cast at hc)|omega|intro _));refine B3.mono (ziw l) ?_;rintro y H' ⟨rfl,rfl⟩;(with_reducible repeat'(first|simp(disch:=omega)only[push_cast,↓zz,seval]|refine sp_ ?_ ?_<;>try(intro hc;push_cast at hc)|omega|intro _))
theorem sort0(l:List Span):B3 Tryz.prog 169 [.ref 0 1 0 0,.fn 170 []] (Abs.hl [⟨2,1,true,l.map C2⟩]) λy H'=>y=.tup []/\H'=Abs.hl [⟨2,1,true,l.map C2⟩]:=by
 refine GA (b:=1) Gc rfl ?_;unfold Eg;(with_reducible repeat'(first|simp(disch:=omega)only[push_cast,↓zz,seval]|refine sp_ ?_ ?_<;>try(intro hc;push_cast at hc)|refine ee zb4 ?_|(refine cc zb4 ?_;simp(disch:=omega)only[push_cast,↓zz,seval];fail_if_success change False)|omega|intro _));refine B3.mono (pdq0 l) ?_;rintro y H' ⟨rfl,rfl⟩;(with_reducible repeat'(first|simp(disch:=omega)only[push_cast,↓zz,seval]|refine sp_ ?_ ?_<;>try(intro hc;push_cast at hc)|omega|intro _))
def memL(l:List Span)(x:Int):Prop:=∃s∈l,s.lo<=x/\x<=s.hi
theorem Cc(x:Int):¬memL [] x:=λ⟨s,hs,_⟩=>by cases hs
theorem Bz{s:Span}{l:List Span}{x:Int}:memL (s::l) x↔(s.lo<=x/\x<=s.hi)\/memL l x:=by
 constructor
 ·rintro⟨t,ht,hx⟩
  rcases Af.1 ht with rfl|ht
  ·exact .inl hx
  ·exact .inr ⟨t,ht,hx⟩
 ·rintro (hx|⟨t,ht,hx⟩)
  ·exact⟨s,by simp,hx⟩
  ·exact⟨t,by simp[ht],hx⟩
theorem Fv{l m:List Span}{x:Int}:memL (l++m) x↔memL l x\/memL m x:=by
 constructor
 ·rintro⟨t,ht,hx⟩
  rcases Ao.1 ht with ht|ht
  ·exact .inl ⟨t,ht,hx⟩
  ·exact .inr ⟨t,ht,hx⟩
 ·rintro (⟨t,ht,hx⟩|⟨t,ht,hx⟩)
  ·exact⟨t,by simp[ht],hx⟩
  ·exact⟨t,by simp[ht],hx⟩
def Plain(l:List Span):Prop:=(∀s∈l,s.lo<=s.hi)/\l.Pairwise λs t=>s.hi+1<t.lo
theorem Plain.tail{s:Span}{l:List Span}(h:Plain (s::l)):Plain l:=⟨λt ht=>h.1 t (by simp[ht]),(AM.1 h.2).2⟩
theorem Plain.head{s:Span}{l:List Span}(h:Plain (s::l)):s.lo<=s.hi:=h.1 s (by simp)
theorem Plain.after{s:Span}{l:List Span}(h:Plain (s::l)){x:Int}(hx:memL l x):s.hi+1<x:=by
 obtain⟨t,ht,h1,h2⟩:=hx;have:=(AM.1 h.2).1 t ht;omega
theorem Hk:∀{a b:List Span},Plain a->Plain b->(∀x,memL a x↔memL b x)->a=b
 |[],[],_,_,_=>rfl
 |[],t::b,_,hb,h=>absurd ((h t.lo).2 (Bz.2 (.inl ⟨BJ _,hb.head⟩))) (Cc _)
 |s::a,[],ha,_,h=>absurd ((h s.lo).1 (Bz.2 (.inl ⟨BJ _,ha.head⟩))) (Cc _)
 |s::a,t::b,ha,hb,h=>by
  have hs:=ha.head;have ht:=hb.head
  have key:∀{s t:Span}{a b:List Span},Plain (s::a)->Plain (t::b)->(∀x,memL (s::a) x↔memL (t::b) x)->t.lo<=s.lo:=λ{s t a b} ha hb h=>by
   rcases Bz.1 ((h s.lo).1 (Bz.2 (.inl ⟨BJ _,ha.head⟩))) with hh|hh
   ·exact hh.1
   ·have:=hb.after hh;have:=hb.head;omega
  have hlo:s.lo=t.lo:=Int.le_antisymm (key hb ha λx=>(h x).symm) (key ha hb h)
  have key2:∀{s t:Span}{a b:List Span},Plain (s::a)->Plain (t::b)->(∀x,memL (s::a) x↔memL (t::b) x)->s.lo=t.lo->t.hi<=s.hi:=λ{s t a b} ha hb h e=>by
   have:=ha.head;rcases DK s.hi t.hi with hlt|hle
   ·rcases Bz.1 ((h (s.hi+1)).2 (Bz.2 (.inl ⟨by omega,by omega⟩))) with hh|hh
    ·omega
    ·have:=ha.after hh;omega
   ·exact hle
  have hhi:s.hi=t.hi:=Int.le_antisymm (key2 hb ha (λx=>(h x).symm) hlo.symm) (key2 ha hb h hlo);have hst:s=t:=by cases s;cases t;simp_all
  subst hst;refine Dl _ (Hk ha.tail hb.tail λx=>⟨λhx=>?_,λhx=>?_⟩)
  ·rcases Bz.1 ((h x).1 (Bz.2 (.inr hx))) with hh|hh
   ·have:=ha.after hx;omega
   ·exact hh
  ·rcases Bz.1 ((h x).2 (Bz.2 (.inr hx))) with hh|hh
   ·have:=hb.after hx;omega
   ·exact hh
def E2(out:List Span)(x:Span):List Span :=
 match out.getLast? with
 |some y=>if x.lo<=y.hi+1 then out.dropLast++[⟨y.lo,max y.hi x.hi⟩] else out++[x]
 |none=>[x]
theorem G3(x:Span):E2 [] x=[x]:=rfl
theorem Kr(out:List Span)(y x:Span):E2 (out++[y]) x=if x.lo<=y.hi+1 then out++[⟨y.lo,max y.hi x.hi⟩] else out++[y]++[x]:=by
 simp[E2]
theorem Gh(l:List Span):l=[]\/∃m y,l=m++[y]:=by
 rcases List.eq_nil_or_concat l with h|⟨m,y,h⟩
 ·exact .inl h
 ·exact .inr ⟨m,y,by simpa using h⟩
theorem GX{m:List Span}{y:Span}:Plain (m++[y])↔Plain m/\y.lo<=y.hi/\∀s∈m,s.hi+1<y.lo:=by
 simp only[Plain,D8,Ao,Am,Eb,Ey,or_imp,forall_and,AH];constructor
 ·rintro⟨⟨h1,h2⟩,h3,h4⟩;exact⟨⟨h1,h3⟩,h2,h4⟩
 ·rintro⟨⟨h1,h3⟩,h2,h4⟩;exact⟨⟨h1,h2⟩,h3,h4⟩
def Before(l:List Span)(x:Int):Prop:=∀s∈l,s.lo<=x
theorem Wb{out:List Span}{x:Span}(h:Plain out)(hx:x.lo<=x.hi)(hb:Before out x.lo):Plain (E2 out x)/\Before (E2 out x) x.lo/\∀v,memL (E2 out x) v↔memL out v\/(x.lo<=v/\v<=x.hi):=by
 rcases Gh out with rfl|⟨m,y,rfl⟩
 ·refine⟨⟨by simp[G3,hx],by simp[G3]⟩,by simp[G3,Before],λv=>?_⟩
  rw[G3,Bz];constructor
  ·rintro (h|h)
   ·exact .inr h
   ·exact absurd h (Cc _)
  ·rintro (h|h)
   ·exact absurd h (Cc _)
   ·exact .inl h
 ·rw[Kr]
  obtain⟨h1,h2,h3⟩:=GX.1 h;have hy:y.lo<=x.lo:=hb y (by simp);split
  ·rename_i hle
   refine⟨GX.2 ⟨h1,by simp only;omega,λs hs=>h3 s hs⟩,?_,λv=>?_⟩
   ·intro s hs
    rcases Ao.1 hs with hs|hs
    ·exact hb s (by simp[hs])
    ·simp only[Am] at hs;subst hs;exact hy
   ·rw[Fv,Fv,Bz,Bz]
    simp only[Cc,Ap];constructor
    ·rintro (h|h)
     ·exact .inl (.inl h)
     ·by_cases hv:v<=y.hi
      ·exact .inl (.inr ⟨h.1,hv⟩)
      ·exact .inr ⟨by omega,by omega⟩
    ·rintro ((h|h)|h)
     ·exact .inl h
     ·exact .inr ⟨h.1,by omega⟩
     ·exact .inr ⟨by omega,by omega⟩
  ·rename_i hle
   refine⟨GX.2 ⟨h,hx,λs hs=>?_⟩,?_,λv=>?_⟩
   ·rcases Ao.1 hs with hs|hs
    ·have:=h3 s hs;omega
    ·simp only[Am] at hs;subst hs;omega
   ·intro s hs
    rcases Ao.1 hs with hs|hs
    ·exact hb s hs
    ·simp only[Am] at hs;subst hs;exact BJ _
   ·rw[Fv,Bz]
    simp only[Cc,Ap]
theorem HW:∀(l out:List Span),Plain out->(∀s∈l,s.lo<=s.hi)->l.Pairwise (λa b=>a.lo<=b.lo)->(∀s∈l,Before out s.lo)->Plain (l.foldl E2 out)/\∀v,memL (l.foldl E2 out) v↔memL out v\/memL l v
 |[],out,h,_,_,_=>⟨h,λv=>by simp only[List.foldl_nil,Cc,Ap]⟩
 |x::l,out,h,h1,h2,h3=>by
  obtain⟨p1,p2,p3⟩:=Wb h (h1 x (by simp)) (h3 x (by simp));rw[AM] at h2;obtain⟨q1,q2⟩:=HW l (E2 out x) p1 (λs hs=>h1 s (by simp[hs])) h2.2 (λs hs t ht=>Int.le_trans (p2 t ht) (h2.1 s hs));refine⟨q1,λv=>?_⟩;rw[List.foldl_cons,q2 v,p3 v,Bz,F1]
theorem ZO(out:List Span)(x:Span):(E2 out x).length<=out.length+1:=by
 rcases Gh out with rfl|⟨m,y,rfl⟩
 ·simp[G3]
 ·rw[Kr];split<;>simp
theorem Sf:∀(l out:List Span),(l.foldl E2 out).length<=out.length+l.length
 |[],out=>by simp
 |x::l,out=>by
  have h1:=Sf l (E2 out x);have h2:=ZO out x;simp only[List.foldl_cons,List.length_cons];omega
def Ks(s:Span):Span:=⟨max s.lo (-1073741824),min s.hi 1073741824⟩
def inN(l:List Span):List Span:=(l.map Ks).filter λs=>decide (s.lo<=s.hi)
theorem z4k{l:List Span}{x:Int}:memL (inN l) x↔memL l x/\-1073741824<=x/\x<=1073741824:=by
 constructor
 ·rintro⟨s,hs,h1,h2⟩
  simp only[inN,Bn,Ax] at hs;obtain⟨⟨t,ht,rfl⟩,_⟩:=hs;simp only[Ks] at h1 h2;exact⟨⟨t,ht,by omega,by omega⟩,by omega,by omega⟩
 ·rintro⟨⟨t,ht,h1,h2⟩,h3,h4⟩
  refine⟨Ks t,?_,by simp only[Ks];omega,by simp only[Ks];omega⟩;simp only[inN,Bn,Ax,Ah];exact⟨⟨t,ht,rfl⟩,by simp only[Ks];omega⟩
theorem Ya{l:List Span}:∀s∈inN l,s.lo<=s.hi:=λs hs=>by
 simp only[inN,Bn,Ah] at hs;exact hs.2
theorem OG{l m:List Span}(h:l.Perm m)(x:Int):memL l x↔memL m x :=
 ⟨λ⟨s,hs,hx⟩=>⟨s,h.mem_iff.1 hs,hx⟩,λ⟨s,hs,hx⟩=>⟨s,h.mem_iff.2 hs,hx⟩⟩
def B4(l:List Span):List Span:=((inN l).mergeSort λa b=>decide (a.lo<=b.lo)).foldl E2 []
theorem zb5{l m:List Span}(hp:m.Perm (inN l))(hs:m.Pairwise λa b=>a.lo<=b.lo):m.foldl E2 []=B4 l:=by
 have hq:((inN l).mergeSort λa b=>decide (a.lo<=b.lo)).Perm (inN l):=List.mergeSort_perm _ _
 have hs':((inN l).mergeSort λa b=>decide (a.lo<=b.lo)).Pairwise λa b=>a.lo<=b.lo:=by
  have:=List.pairwise_mergeSort (le:=λa b:Span=>decide (a.lo<=b.lo)) (λa b c h1 h2=>by simp at *;omega) (λa b=>by simp;omega) (inN l);simpa using this
 obtain⟨a1,a2⟩:=HW m [] ⟨by simp,by simp⟩ (λs h=>Ya s (hp.mem_iff.1 h)) hs (λs _ t ht=>by cases ht);obtain⟨b1,b2⟩:=HW _ [] ⟨by simp,by simp⟩ (λs h=>Ya s (hq.mem_iff.1 h)) hs' (λs _ t ht=>by cases ht);refine Hk a1 b1 λx=>?_;rw[B4,a2 x,b2 x,OG hp x,OG hq x]
theorem B5(l:List Span):Plain (B4 l)/\∀x,memL (B4 l) x↔memL l x/\-1073741824<=x/\x<=1073741824:=by
 have hq:((inN l).mergeSort λa b=>decide (a.lo<=b.lo)).Perm (inN l):=List.mergeSort_perm _ _
 have hs':((inN l).mergeSort λa b=>decide (a.lo<=b.lo)).Pairwise λa b=>a.lo<=b.lo:=by
  have:=List.pairwise_mergeSort (le:=λa b:Span=>decide (a.lo<=b.lo)) (λa b c h1 h2=>by simp at *;omega) (λa b=>by simp;omega) (inN l);simpa using this
 obtain⟨b1,b2⟩:=HW _ [] ⟨by simp,by simp⟩ (λs h=>Ya s (hq.mem_iff.1 h)) hs' (λs _ t ht=>by cases ht);refine⟨b1,λx=>?_⟩;rw[B4,b2 x,OG hq x,z4k];simp only[Cc,Bm]
theorem Wc(l:List Span):(inN l).length<=l.length:=by
 have:=BI (λs:Span=>decide (s.lo<=s.hi)) (l.map Ks);simpa [inN] using this
theorem E3(l:List Span):(B4 l).length<=l.length:=by
 have h1:=Sf ((inN l).mergeSort λa b=>decide (a.lo<=b.lo)) [];have h2:=Wc l;rw[List.length_mergeSort] at h1;simp only[List.length_nil] at h1;rw[B4];omega
end Go.Proofs.YtflibbceibjddaaGreat
namespace Go.Proofs.YtflibbceibjddaaGreat.Abs
section
variable {P:Program}{n b:Nat}{S:MS}{H:A5}
theorem put_defers(a:Act)(d:Option Nat)(v:Value):(a.put d v).defers=a.defers:=by cases d<;>rfl
theorem znl(hS:SRel S H){env:Env}{a:Act}(hF:FRel S n env a){o:Oper}{q:AOp}{ops:Array Oper}(h:Cs P n ops o=some q){K:AV->A5->Prop}(hst:AF P q.k H (q.vals env) K)
 {N:Act->World->Prop} {Q:Exit->Act->World->Prop} (hN:∀S' H' x a',Evo S S'->SRel S' H'->FRel S' n (env.put q.dst x) a'->a'.defers=a.defers->K x H'->N a' S'.w) (r:Option Nat) (m:Nat):o.wpIn (fen r) m P a S.w N Q:=by
 obtain⟨h1,h2,h3,h4,_⟩:=Cb h;have hargs:=Jt hF h2;have h1':=Ik h1 λe=>by rw[e] at hst;simp[AF] at hst
 have hsem:o.semAt (fen r).round a.eval=execOp a.eval o:=Oper.semAt_eq _ _ _ λc hc=>by rw[hc] at h1';cases h1'
 rcases PW hS o h1 (ρ:=a.eval) hargs hst with⟨v,S',x,H',hr,e,hS',hv,hK⟩|⟨f,cargs,hr,hc⟩
 ·have hN':=λv' (hv':VRel S' x v')=>hN S' H' x (a.put o.dst v') e hS' (by rw[h3];exact (hF.mono e).put h4 hv') (put_defers _ _ _) hK
  refine⟨λ_ _=>trivial,?_⟩;rw[hsem];rcases hr with hr|⟨hr,rfl⟩<;>rw[hr]
  ·exact hN' v hv
  ·exact hN' undef hv
 ·refine⟨λ_ _=>trivial,?_⟩
  rw[hsem,hr,Oper.uponIn_enter];refine⟨λh=>(by cases h),NH (hc.mono λe w' hh=>?_)⟩;obtain⟨v,S',x,H',rfl,rfl,ev,hS',hv,hK⟩:=hh;exact hN S' H' x (a.put o.dst v) ev hS' (by rw[h3];exact (hF.mono ev).put h4 hv) (put_defers _ _ _) hK
theorem HX{ops:Array Oper}{Q:Exit->Act->World->Prop}{rd:Option Nat}{m:Nat}(tl:List Nat):∀(l:List Oper)(l':List AOp)(k:Nat),(∀j,j<l.length->l[j]? = ops[k+j]?)->l.mapM (Cs P n ops)=some l'->∀{S:MS}{H:A5}{env:Env}{a:Act}{K:Env->A5->Prop},
 SRel S H->FRel S n env a->runK P l' env H K->(∀S' H' env' a',Evo S S'->SRel S' H'->FRel S' n env' a'->a'.defers=a.defers->K env' H'->wpOpsIn (fen rd) m P ops Q tl a' S'.w)->wpOpsIn (fen rd) m P ops Q (List.range' k l.length++tl) a S.w
 |[],l',k,_,hm,S,H,env,a,K,hS,hF,hr,hQ=>by
  simp at hm;subst hm;exact hQ S H env a (.refl S) hS hF rfl hr
 |o::l,l',k,hl,hm,S,H,env,a,K,hS,hF,hr,hQ=>by
  rw[BL] at hm;simp only[Option.bind_eq_bind,B0,Option.pure_def,Aq] at hm;obtain⟨q,hq,r,hrr,rfl⟩:=hm;have h0:ops[k]? = some o:=by simpa using (hl 0 (by simp)).symm
  have hl':∀j,j<l.length->l[j]? = ops[k+1+j]? := λj hj=>by have:=hl (j+1) (by simp;omega);simpa [Bo,Ci 1 j] using this
  have hg:=NG hq hF hr;rw[show List.range' k (o::l).length++tl=k::(List.range' (k+1) l.length++tl) from rfl];simp only[wpOpsIn,h0];cases hw:Region.wanted o (yielded ops a.tmps)
  ·rw[hw] at hg
   simp only[A8,Bt] at hg ⊢;obtain⟨_,_,h3,h4,_⟩:=Cb hq;exact⟨λ_ _=>trivial,HX tl l r (k+1) hl' hrr hS (by rw[h3];exact hF.put h4 IM) hg (λS' H' env' a' e hS' hF' hd=>hQ S' H' env' a' e hS' hF' (hd.trans (put_defers _ _ _)))⟩
  ·rw[hw] at hg
   simp only[Bi] at hg ⊢;refine znl hS hF hq hg (λS' H' x a' e hS' hF' hd hK=>?_) rd m;exact HX tl l r (k+1) hl' hrr hS' hF' hK (λS2 H2 env2 a2 e2 hS2 hF2 hd2 hK2=>hQ S2 H2 env2 a2 (e.trans e2) hS2 hF2 (hd2.trans hd) hK2)
end
structure Itr where
 P:Program
 l:Nat
 m:Nat
 rows:List (List AV)
 S0:MS
 J:Nat->(Nat->Prop)->World->Prop
 Jx:Nat->(Nat->Prop)->World->Prop
 cJ:Clo J
 cx:Clo Jx
 fact:∀k O W,J k O W\/Jx k O W->(∀b,S0.im b->¬O b/\W.heap[b]? = S0.w.heap[b]?)/\(W.os=S0.w.os/\JW W S0.w/\W.output=S0.w.output)/\S0.w.heap.size<=W.heap.size/\∀b,O b->S0.w.heap.size<=b/\b<W.heap.size
 round:∀k row O W,rows[k]? = some row->J k O W->YieldAt Fence.wide m P l (encI row) W λe W'=>W.heap.size<=W'.heap.size/\(∀b,O b->W'.heap[b]? = W.heap[b]?)/\(e=.returned (.bool true)/\J (k+1) O W'\/e=.returned (.bool false)/\Jx (k+1) O W')
namespace Itr
def at_(I:Itr):Option Nat->(Nat->Prop)->World->Prop
 |some k,O,W=>I.J k O W
 |none,O,W=>∃k,I.Jx k O W
structure Now(I:Itr)(s:Option Nat)(X:Nat->Prop)(S:MS)(H:A5):Prop where
 rel:SRel S H
 base:S.base<=S.w.heap.size
 keep:∀b,X b->S.keep b
 im:∀b,I.S0.im b->S.im b
 apart:∀b,S.im b->I.S0.im b\/¬X b
 st:I.at_ s (λb=>b<S.w.heap.size/\¬X b/\¬I.S0.im b) S.w
theorem Now.on{I:Itr}{s:Option Nat}{X:Nat->Prop}{S S':MS}{H H':A5}(h:I.Now s X S H)(e:Evo S S')(hr:SRel S' H'):I.Now s X S' H':=by
 have hX:∀b,X b->b<S.w.heap.size:=λb hb=>h.rel.im b (.inr (h.keep b hb));have hi0:∀b,I.S0.im b->b<S.w.heap.size:=λb hb=>h.rel.im b (.inl (h.im b hb));refine⟨hr,by rw[e.base];exact AJ h.base e.size,λb hb=>e.keep b (h.keep b hb),λb hb=>e.im b (h.im b hb),λb hb=>?_,?_⟩
 ·rcases e.fresh b hb with hh|hh
  ·exact h.apart b hh
  ·exact .inr λhx=>hh (h.keep b hx)
 ·have ho:(λb=>b<S'.w.heap.size/\¬X b/\¬I.S0.im b)=λb=>(b<S.w.heap.size/\¬X b/\¬I.S0.im b)\/(S.w.heap.size<=b/\b<S'.w.heap.size):=by
   funext b;refine propext ⟨λ⟨h1,h2,h3⟩=>?_,λhh=>?_⟩
   ·rcases Ak b S.w.heap.size with hl|hl
    ·exact .inl ⟨hl,h2,h3⟩
    ·exact .inr ⟨hl,h1⟩
   ·rcases hh with⟨h1,h2,h3⟩|⟨h1,h2⟩
    ·exact⟨AX h1 e.size,h2,h3⟩
    ·exact⟨h2,λhx=>by have:=hX b hx;omega,λhx=>by have:=hi0 b hx;omega⟩
  rw[ho]
  have hk:∀b,b<S.w.heap.size->¬(b<S.w.heap.size/\¬X b/\¬I.S0.im b)->S'.w.heap[b]? = S.w.heap[b]? := λb hb hn=>by
   by_cases hx:X b
   ·exact e.kept b (.inr (h.keep b hx))
   ·by_cases hi:I.S0.im b
    ·exact e.kept b (.inl (h.im b hi))
    ·exact absurd ⟨hb,hx,hi⟩ hn
  cases s with
  |some k=>exact I.cJ k _ _ _ h.st e.os e.tape e.output e.size hk
  |none=>obtain⟨k,hj⟩:=h.st;exact⟨k,I.cx k _ _ _ hj e.os e.tape e.output e.size hk⟩
theorem Now.round{I:Itr}{k:Nat}{X:Nat->Prop}{S:MS}{H:A5}(h:I.Now (some k) X S H){W':World}{s':Option Nat}(hsz:S.w.heap.size<=W'.heap.size)(ho:∀b,b<S.w.heap.size/\¬X b/\¬I.S0.im b->W'.heap[b]? = S.w.heap[b]?)
 (hi:∀b,I.S0.im b->W'.heap[b]? = S.w.heap[b]?) (hst:I.at_ s' (λb=>b<S.w.heap.size/\¬X b/\¬I.S0.im b) W') :
 ∃S',S'.w=W'/\I.Now s' (λb=>X b\/(S.w.heap.size<=b/\b<W'.heap.size)) S' H/\Evi S S':=by
 obtain⟨S',hd⟩:∃S':MS,S'={ S with w:=W',keep:=λb=>S.keep b\/(S.w.heap.size<=b/\b<W'.heap.size) }:=⟨_,rfl⟩;have hX:∀b,X b->b<S.w.heap.size:=λb hb=>h.rel.im b (.inr (h.keep b hb));have him:∀b,S.im b->b<S.w.heap.size:=λb hb=>h.rel.im b (.inl hb);have hi0:∀b,I.S0.im b->b<S.w.heap.size:=λb hb=>him b (h.im b hb)
 have hw:∀b,S.im b->W'.heap[b]? = S.w.heap[b]? := λb hb=>by
  by_cases h0:I.S0.im b
  ·exact hi b h0
  ·exact ho b ⟨him b hb,(h.apart b hb).resolve_left h0,h0⟩
 refine⟨S',by rw[hd],⟨?_,?_,?_,?_,?_,?_⟩,?_⟩
 ·subst hd
  exact h.rel.turn2 hw rfl rfl rfl rfl rfl rfl (λb hb=>hb.imp id And.left) (λb hb=>hb.elim (λhh=>AX (h.rel.im b (.inr hh)) hsz) And.right)
   (λb hb hl=>ho b ⟨hl,λhx=>hb (.inr (h.keep b hx)),λhx=>hb (.inl (h.im b hx))⟩) hsz
 ·subst hd;exact AJ h.base hsz
 ·subst hd;exact λb hb=>hb.imp (h.keep b) id
 ·subst hd;exact h.im
 ·subst hd
  intro b hb;rcases h.apart b hb with hh|hh
  ·exact .inl hh
  ·exact .inr λhx=>hx.elim hh λhx=>by have:=him b hb;omega
 ·subst hd
  have e:(λb=>b<W'.heap.size/\¬(X b\/(S.w.heap.size<=b/\b<W'.heap.size))/\¬I.S0.im b)=λb=>b<S.w.heap.size/\¬X b/\¬I.S0.im b:=by
   funext b;refine propext ⟨λ⟨h1,h2,h3⟩=>⟨?_,λhx=>h2 (.inl hx),h3⟩,λ⟨h1,h2,h3⟩=>⟨by omega,λhx=>hx.elim h2 (λhh=>by omega),h3⟩⟩;rcases Ak b S.w.heap.size with hl|hl
   ·exact hl
   ·exact absurd (.inr ⟨hl,h1⟩) h2
  show I.at_ s' _ W';rw[e];exact hst
 ·subst hd
  exact Evi.of hw rfl rfl rfl rfl rfl rfl
end Itr
def KY(I:Itr)(n:Nat)(Q:Option Nat->Ex->Env->A5->Prop)(e:Exit)(a:Act)(w:World):Prop :=
 ∃S' env H' x s X,S'.w=w/\I.Now s X S' H'/\FRel S' n env a/\a.defers=[]/\e=Ex.up x/\Q s x env H'
def TI(I:Itr)(n:Nat)(c:AC)(s:Option Nat)(env:Env)(H:A5)(Q:Option Nat->Ex->Env->A5->Prop):Prop :=
 ∀code,E0 I.P n code=some c->∀S a X,I.Now s X S H->FRel S n env a->a.defers=[]->code.wpIn (fen none) (I.m+1) I.P (KY I n Q) a S.w
section
variable {I:Itr}{n:Nat}{s:Option Nat}{env:Env}{H:A5}{Q:Option Nat->Ex->Env->A5->Prop}
theorem zb6{F:Fence}{mm:Nat}{c:Code}{a:Act}{w:World}(h:c.wpIn F mm I.P (KY I n Q) a w):(Code.scope c).wpIn F mm I.P (KY I n Q) a w:=by
 refine Hf (wpIn_mono h λe a w hh=>?_);obtain⟨S2,env,H',y,s,X,h1,h2,h3,h4,h5,h6⟩:=hh;subst h5;cases y<;>exact⟨S2,env,H',_,s,X,h1,h2,h3,h4,rfl,h6⟩
theorem Sg{c:AC}(h:∀code,E0 I.P n code=some c->(∀d,code≠.scope d)->∀S a X,I.Now s X S H->FRel S n env a->a.defers=[]->code.wpIn (fen none) (I.m+1) I.P (KY I n Q) a S.w):TI I n c s env H Q:=by
 intro code
 induction code with
 |scope d ih=>exact λhc S a X hN hF hd=>zb6 (ih (by simpa [E0] using hc) S a X hN hF hd)
 |skip=>exact λhc=>h _ hc (by simp)
 |region=>exact λhc=>h _ hc (by simp)
 |seq=>exact λhc=>h _ hc (by simp)
 |cond=>exact λhc=>h _ hc (by simp)
 |block=>exact λhc=>h _ hc (by simp)
 |loop=>exact λhc=>h _ hc (by simp)
 |rangeFunc=>exact λhc=>h _ hc (by simp)
 |exit=>exact λhc=>h _ hc (by simp)
 |label=>exact λhc=>h _ hc (by simp)
 |goto=>exact λhc=>h _ hc (by simp)
 |ret=>exact λhc=>h _ hc (by simp)
 |refuse=>exact λhc=>h _ hc (by simp)
theorem zix(h:Q s .normal env H):TI I n .skip s env H Q:=Sg λcode hc hs S a X hN hF hd=>by
 have hA:KY I n Q .normal a S.w:=⟨S,env,H,.normal,s,X,rfl,hN,hF,hd,rfl,h⟩;cases code<;>simp only[E0,reduceCtorEq,Aq] at hc
 case skip=>exact wpIn_skip hA
 case label=>exact wpIn_label hA
 case region=>exact absurd hc Dj
 case seq=>split at hc<;>cases hc
 case cond=>split at hc<;>cases hc
 case block=>obtain⟨_,_,h⟩:=Ag.1 hc;cases h
 case loop=>obtain⟨_,_,h⟩:=Ag.1 hc;cases h
 case rangeFunc=>split at hc<;>cases hc
 case scope d=>exact absurd rfl (hs d)
theorem ziy{id:Nat}(h:Q s (.exit id) env H):TI I n (.exit id) s env H Q:=Sg λcode hc hs S a X hN hF hd=>by
 cases code<;>simp only[E0,reduceCtorEq,Aq] at hc
 case exit k=>cases hc;exact wpIn_exit ⟨S,env,H,.exit id,s,X,rfl,hN,hF,hd,rfl,h⟩
 case region=>exact absurd hc Dj
 case seq=>split at hc<;>cases hc
 case cond=>split at hc<;>cases hc
 case block=>obtain⟨_,_,h⟩:=Ag.1 hc;cases h
 case loop=>obtain⟨_,_,h⟩:=Ag.1 hc;cases h
 case rangeFunc=>split at hc<;>cases hc
 case scope d=>exact absurd rfl (hs d)
theorem znm(h:Q s .ret env H):TI I n .ret s env H Q:=Sg λcode hc hs S a X hN hF hd=>by
 cases code<;>simp only[E0,reduceCtorEq,Aq] at hc
 case ret=>exact wpIn_ret ⟨S,env,H,.ret,s,X,rfl,hN,hF,hd,rfl,h⟩
 case region=>exact absurd hc Dj
 case seq=>split at hc<;>cases hc
 case cond=>split at hc<;>cases hc
 case block=>obtain⟨_,_,h⟩:=Ag.1 hc;cases h
 case loop=>obtain⟨_,_,h⟩:=Ag.1 hc;cases h
 case rangeFunc=>split at hc<;>cases hc
 case scope d=>exact absurd rfl (hs d)
def Ex.thenI(K:Option Nat->Env->A5->Prop)(Q:Option Nat->Ex->Env->A5->Prop):Option Nat->Ex->Env->A5->Prop
 |s,.normal,env,H=>K s env H
 |s,x,env,H=>Q s x env H
theorem Hw{x y:AC}(h:TI I n x s env H (Ex.thenI (λs' env' H'=>TI I n y s' env' H' Q) Q)):TI I n (.seq x y) s env H Q:=Sg λcode hc hs S a X hN hF hd=>by
 cases code<;>simp only[E0,reduceCtorEq,Aq] at hc
 case seq c d =>
  split at hc
  ·rename_i x' y' hx hy
   cases hc;refine wpIn_seq (wpIn_mono (h c hx S a X hN hF hd) λe a' w' hh=>?_);obtain⟨S2,env2,H2,z,s2,X2,rfl,hN2,hF2,hd2,rfl,hq⟩:=hh;cases z with
   |normal=>exact hq d hy S2 a' X2 hN2 hF2 hd2
   |exit id=>exact⟨S2,env2,H2,.exit id,s2,X2,rfl,hN2,hF2,hd2,rfl,hq⟩
   |ret=>exact⟨S2,env2,H2,.ret,s2,X2,rfl,hN2,hF2,hd2,rfl,hq⟩
  ·cases hc
 case region=>exact absurd hc Dj
 case cond=>split at hc<;>cases hc
 case block=>obtain⟨_,_,h⟩:=Ag.1 hc;cases h
 case loop=>obtain⟨_,_,h⟩:=Ag.1 hc;cases h
 case rangeFunc=>split at hc<;>cases hc
 case scope d=>exact absurd rfl (hs d)
theorem ziz{c:AArg}{x y:AC}{q:Bool}(hc:c.eval env=.bool q)(ht:q=true->TI I n x s env H Q)(hf:q=false->TI I n y s env H Q):TI I n (.cond c x y) s env H Q:=Sg λcode hcc hs S a X hN hF hd=>by
 cases code<;>simp only[E0,reduceCtorEq,Aq] at hcc
 case cond z p q' =>
  split at hcc
  ·rename_i z' p2 q2 hz hp hq
   cases hcc;have hv:=R4 hF hz;rw[hc] at hv;exact wpIn_cond_split (t:=q) hv (λhbb=>ht hbb p hp S a X hN hF hd) (λhbb=>hf hbb q' hq S a X hN hF hd)
  ·cases hcc
 case region=>exact absurd hcc Dj
 case seq=>split at hcc<;>cases hcc
 case block=>obtain⟨_,_,h⟩:=Ag.1 hcc;cases h
 case loop=>obtain⟨_,_,h⟩:=Ag.1 hcc;cases h
 case rangeFunc=>split at hcc<;>cases hcc
 case scope d=>exact absurd rfl (hs d)
def Ex.inBlockI(id:Nat)(Q:Option Nat->Ex->Env->A5->Prop):Option Nat->Ex->Env->A5->Prop
 |s,.exit k,env,H=>if k=id then Q s .normal env H else Q s (.exit k) env H
 |s,x,env,H=>Q s x env H
theorem Iu{id:Nat}{c:AC}(h:TI I n c s env H (Ex.inBlockI id Q)):TI I n (.block id c) s env H Q:=Sg λcode hc hs S a X hN hF hd=>by
 cases code<;>simp only[E0,reduceCtorEq,Aq] at hc
 case block k d =>
  obtain⟨x,hx,hh⟩:=Ag.1 hc;cases hh;refine wpIn_block (wpIn_mono (h d hx S a X hN hF hd) λe a' w' hh=>?_);obtain⟨S2,env2,H2,z,s2,X2,h1,hN2,hF2,hd2,rfl,hq⟩:=hh;cases z with
  |normal=>exact⟨S2,env2,H2,.normal,s2,X2,h1,hN2,hF2,hd2,rfl,hq⟩
  |exit j =>
   simp only[Ex.up,Exit.inBlock];simp only[Ex.inBlockI] at hq;split
   ·rename_i hj;rw[Ae hj] at hq;exact⟨S2,env2,H2,.normal,s2,X2,h1,hN2,hF2,hd2,rfl,hq⟩
   ·rename_i hj;rw[Ab hj] at hq;exact⟨S2,env2,H2,.exit j,s2,X2,h1,hN2,hF2,hd2,rfl,hq⟩
  |ret=>exact⟨S2,env2,H2,.ret,s2,X2,h1,hN2,hF2,hd2,rfl,hq⟩
 case region=>exact absurd hc Dj
 case seq=>split at hc<;>cases hc
 case cond=>split at hc<;>cases hc
 case loop=>obtain⟨_,_,h⟩:=Ag.1 hc;cases h
 case rangeFunc=>split at hc<;>cases hc
 case scope d=>exact absurd rfl (hs d)
theorem We{σ:Type}(Inv:σ->Option Nat->Env->A5->Prop)(μ:σ->Nat){c:AC}(s0:σ)(h0:Inv s0 s env H)
 (round:∀t s env H,Inv t s env H->TI I n c s env H (Ex.thenI (λs' env' H'=>∃t',Inv t' s' env' H'/\μ t'<μ t) Q)):TI I n (.loop c) s env H Q:=Sg λcode hc hs S a X hN hF hd=>by
 cases code<;>simp only[E0,reduceCtorEq,Aq] at hc
 case loop d =>
  obtain⟨x,hx,hh⟩:=Ag.1 hc;cases hh;refine wpIn_loop_ghost (λk a w=>∃S' t s env H X,S'.w=w/\I.Now s X S' H/\FRel S' n env a/\a.defers=[]/\Inv t s env H/\μ t=k) (μ s0) ⟨S,s0,s,env,H,X,rfl,hN,hF,hd,h0,rfl⟩ ?_;rintro k a w ⟨S1,t,s1,env1,H1,X1,rfl,hN1,hF1,hd1,hI,rfl⟩;refine wpIn_mono (round t s1 env1 H1 hI d hx S1 a X1 hN1 hF1 hd1) λe a' w' hh=>?_;obtain⟨S2,env2,H2,z,s2,X2,rfl,hN2,hF2,hd2,rfl,hq⟩:=hh;cases z with
  |normal =>
   obtain⟨t',h1,h2⟩:=hq;exact⟨μ t',h2,S2,t',s2,env2,H2,X2,rfl,hN2,hF2,hd2,h1,rfl⟩
  |exit id=>exact⟨S2,env2,H2,.exit id,s2,X2,rfl,hN2,hF2,hd2,rfl,hq⟩
  |ret=>exact⟨S2,env2,H2,.ret,s2,X2,rfl,hN2,hF2,hd2,rfl,hq⟩
 case region=>exact absurd hc Dj
 case seq=>split at hc<;>cases hc
 case cond=>split at hc<;>cases hc
 case block=>obtain⟨_,_,h⟩:=Ag.1 hc;cases h
 case rangeFunc=>split at hc<;>cases hc
 case scope d=>exact absurd rfl (hs d)
theorem znn{ops:List AOp}(h:runK I.P ops env H λenv' H'=>Q s .normal env' H'):TI I n (.reg ops) s env H Q:=Sg λcode hc hs S a X hN hF hd=>by
 cases code<;>simp only[E0,reduceCtorEq,Aq] at hc
 case region id l draw =>
  split at hc
  ·rename_i r hr
   obtain⟨hd',rfl⟩:=Ke hc;subst hd';refine wpIn_region ?_;have:=HX (ops:=l) (rd:=none) (m:=I.m+1) (Q:=KY I n Q) [] l.toList ops 0 (by simp) hr hN.rel hF h (λS' H' env' a' e hS' hF' hdd hK=>⟨S',env',H',.normal,s,X,rfl,hN.on e hS',hF',hdd.trans hd,rfl,hK⟩);rw[EO];simpa using this
  ·cases hc
 case seq=>split at hc<;>cases hc
 case cond=>split at hc<;>cases hc
 case block=>obtain⟨_,_,h⟩:=Ag.1 hc;cases h
 case loop=>obtain⟨_,_,h⟩:=Ag.1 hc;cases h
 case rangeFunc=>split at hc<;>cases hc
 case scope d=>exact absurd rfl (hs d)
theorem Q1{α β:Type}{f:α->Option β}:∀(p:List β){l:List α}{y:β}{q:List β},l.mapM f=some (p++y::q)->∃l1 o l2,l=l1++o::l2/\l1.mapM f=some p/\f o=some y/\l2.mapM f=some q
 |[],l,y,q,h=>by
  cases l with
  |nil=>simp at h
  |cons o l =>
   rw[BL] at h;simp only[Option.bind_eq_bind,B0,Option.pure_def,Aq,List.nil_append,DZ] at h;obtain⟨y',hy,r,hr,rfl,rfl⟩:=h;exact⟨[],o,l,rfl,rfl,hy,hr⟩
 |z::p,l,y,q,h=>by
  cases l with
  |nil=>simp at h
  |cons o l =>
   rw[BL] at h;simp only[Option.bind_eq_bind,B0,Option.pure_def,Aq,List.cons_append,DZ] at h;obtain⟨z',hz,r,hr,rfl,rfl⟩:=h;obtain⟨l1,o',l2,rfl,h1,h2,h3⟩:=Q1 p hr;exact⟨o::l1,o',l2,rfl,by rw[BL,hz,h1];rfl,h2,h3⟩
theorem ZP{P:Program}{op:Op}(h:Cu P op=some .call):∃g args argTypes,op=.call { callee:=.value g,args,argTypes }:=by
 replace h:=Ik h (by simp);cases op
 case call c =>
  obtain⟨callee,args,argTypes⟩:=c;cases callee<;>simp only[ES,EZ,reduceCtorEq] at h
  case value g=>exact⟨g,args,argTypes,rfl⟩
  case builtin b =>
   repeat' split at h
   all_goals first
    |(cases h;done)
    |(simp at h;done)
 all_goals simp only[ES,reduceCtorEq] at h
 all_goals repeat' split at h
 all_goals first
  |contradiction
  |(cases h;done)
  |(obtain⟨⟨_,_⟩,_,h⟩:=Ag.1 h;cases h;done)
  |(obtain⟨_,_,h⟩:=Ag.1 h;cases h;done)
  |(simp at h;done)
def zno(x:AV):Prop:=∀S v,VRel S x v->v=valOf x
theorem Q2{S:MS}:∀{xs:List AV}{vs:List Value},(∀x∈xs,zno x)->AB S xs vs->vs=xs.map valOf
 |[],vs,_,h=>h
 |x::xs,vs,hf,⟨v,r,hv,h1,h2⟩=>by
  rw[hv,hf x (by simp) S v h1,Q2 (λy hy=>hf y (by simp[hy])) h2];rfl
theorem Yb{pre post:List AOp}{y:AOp}{k:Nat}(hk:y.k=.call)(hg:y.guard=none)
 (h:runK I.P pre env H λenv1 H1=>∃row,y.vals env1=.yld I.l::row/\(∀x∈row,zno x)/\I.rows[k]? = some row /\
  runK I.P post (env1.put y.dst (.bool true)) H1 (λenv2 H2=>Q (some (k+1)) .normal env2 H2)/\runK I.P post (env1.put y.dst (.bool false)) H1 (λenv2 H2=>Q none .normal env2 H2)) :
 TI I n (.reg (pre++y::post)) (some k) env H Q:=Sg λcode hc hs S a X hN hF hd=>by
 cases code<;>simp only[E0,reduceCtorEq,Aq] at hc
 case region id l draw =>
  split at hc
  ·rename_i r hr
   obtain⟨hd',hrr⟩:=Ke hc;subst hrr;subst hd';refine wpIn_region ?_;obtain⟨l1,o,l2,hl,h1,h2,h3⟩:=Q1 pre hr;have hsz:l.size=l1.length+(l2.length+1):=by rw[<-Array.length_toList,hl];simp
   rw[EO,hsz,List.range'_append_1 |>.symm];have hat:∀j:Nat,l[j]? = (l1++o::l2)[j]? := λj=>by rw[<-hl,E9]
   refine HX (ops:=l) (rd:=none) (m:=I.m+1) (Q:=KY I n Q) _ l1 pre 0 (λj hj=>by rw[Bb,hat,A9 hj]) h1 hN.rel hF h (λS1 H1 env1 a1 e1 hS1 hF1 hd1 hK=>?_);obtain⟨row,hv,hfx,hrow,ht,hff⟩:=hK;have hN1:=hN.on e1 hS1;have ho:l[l1.length]? = some o:=by rw[hat];simp
   rw[show List.range' (0+l1.length) (l2.length+1)=l1.length::List.range' (l1.length+1) l2.length from by rw[Bb];rfl];simp only[wpOpsIn,ho];obtain⟨c1,c2,c3,c4,c5⟩:=Cb h2
   have hw:Region.wanted o (yielded l a1.tmps)=true:=by
    rcases c5 with⟨g1,_⟩|⟨j,want,d,g1,g2,_⟩
    ·simp[Region.wanted,g1]
    ·rw[hg] at g2;cases g2
   rw[hw];simp only[Bi];have hargs:=Jt hF1 c2;rw[show y.args.map (·.eval env1)=y.vals env1 from rfl,hv] at hargs
   rw[hk] at c1;obtain⟨g,args,argTypes,hop⟩:=ZP c1;obtain⟨fn,tm,asg,bd,hy,hR⟩:=I.round k row _ _ hrow hN1.st
   have hrun:(o.semAt (fen none).round a1.eval).run I.P S1.w=.ok (.round I.l fn tm asg bd) S1.w:=by
    rw[show (fen none).round=none from rfl,Oper.semAt_none];rw[hop] at hargs;have hargs':AB S1 (.yld I.l::row) (a1.eval g::args.toList.map a1.eval):=by simpa [Op.operands,Call.operands] using hargs
    obtain⟨v,vs,hvv,hv1,hv2⟩:=hargs';cases hvv;have hvs:=Q2 hfx hv2;have hv1':a1.eval g=.func (.yield I.l) #[] #[]:=hv1;have e:args.map a1.eval=encI row:=by apply E7;simp[hvs]
    have hex:execOp a1.eval o=(do let d <-Deferred.ofValue (a1.eval g) (args.map a1.eval);invoke d.target d.args:Sem Next):=by
     cases o;simp only at hop;subst hop;rfl
    rw[hex,e,hv1'];simp only[Deferred.ofValue,Sem.run_bind,Sem.run_pure,Result.andThen_ok,invoke];simpa using hy
   refine⟨λ_ _=>trivial,?_⟩;rw[hrun,Oper.uponIn_round];refine⟨λh=>(by cases h),?_⟩;refine RoundIn.mono (F:=fen none) (n:=I.m) hR λe W' hh=>?_;obtain⟨hsz',ho',hcase⟩:=hh;have hf0:=(I.fact k _ _ (.inl hN1.st)).1;have hdef:a1.defers=[]:=hd1.trans hd
   have hgo:∀(bv:Bool)(s':Option Nat),I.at_ s' (λb=>b<S1.w.heap.size/\¬X b/\¬I.S0.im b) W'->(∀b,I.S0.im b->W'.heap[b]? = I.S0.w.heap[b]?) ->
    runK I.P post (env1.put y.dst (.bool bv)) H1 (λenv2 H2=>Q s' .normal env2 H2)->wpOpsIn (fen none) (I.m+1) I.P l (KY I n Q) (List.range' (l1.length+1) l2.length) (a1.put o.dst (.bool bv)) W':=λbv s' hst him hrk=>by
    obtain⟨S2,hw2,hN2,ev2⟩:=hN1.round hsz' ho' (λb hb=>(him b hb).trans ((hf0 b hb).2).symm) hst;have hF2:FRel S2 n env1 a1:=⟨hF1.size,by rw[hdef];exact Marks.nil hN2.base,λi hi=>VRel.moni ev2 _ (hF1.val i hi)⟩;have hF3:=hF2.put (dst:=y.dst) (by rw[c3];exact c4) (x:=.bool bv) (v:=.bool bv) rfl;rw[c3] at hF3;rw[c3] at hrk;rw[<-hw2]
    have:=HX (ops:=l) (rd:=none) (m:=I.m+1) (Q:=KY I n Q) [] l2 post (l1.length+1) (λj hj=>by rw[hat,AD (by omega),show l1.length+1+j-l1.length=j+1 from by omega];rfl) h3 hN2.rel hF3 hrk
     (λS' H' env' a' e hS' hF' hdd hK=>⟨S',env',H',.normal,s',_,rfl,hN2.on e hS',hF',hdd.trans ((put_defers _ _ _).trans hdef),rfl,hK⟩)
    simpa using this
   rcases hcase with⟨rfl,hj⟩|⟨rfl,hj⟩
   ·exact hgo true (some (k+1)) hj (λb hb=>((I.fact _ _ _ (.inl hj)).1 b hb).2) ht
   ·exact hgo false none ⟨_,hj⟩ (λb hb=>((I.fact _ _ _ (.inr hj)).1 b hb).2) hff
  ·cases hc
 case seq=>split at hc<;>cases hc
 case cond=>split at hc<;>cases hc
 case block=>obtain⟨_,_,h⟩:=Ag.1 hc;cases h
 case loop=>obtain⟨_,_,h⟩:=Ag.1 hc;cases h
 case rangeFunc=>split at hc<;>cases hc
 case scope d=>exact absurd rfl (hs d)
theorem z4l{P:Program}{gf:Nat}{caps:List AV}{rows:List (List AV)}{fn:AFn}(hf:Bj P gf (caps.length+1)=some fn)
 (h:∀I:Itr,I.P=P->I.rows=rows->TI I fn.n fn.body (some 0) (entry (.yld I.l::caps)) A5.nil (λs x env H=>Ret P fn.res (λ_ _=>True) x env H/\(s=some rows.length\/s=none))):TG P gf caps rows:=by
 refine⟨enters_of hf,λm l S0 lb J Jx hS0 hx0 cJ cx hj fact round=>?_⟩;obtain⟨F,c,hF,hb,hn,hc,hr,hnp,_⟩:=Kf hf;obtain⟨S,hSd⟩:∃S:MS,S={ S0 with base:=S0.w.heap.size,keep:=λb=>b<S0.w.heap.size/\¬S0.im b }:=⟨_,rfl⟩;have ev0:Evi S0 S:=by subst hSd;exact Evi.of (λ_ _=>rfl) rfl rfl rfl rfl rfl rfl
 have hw0:S.w=S0.w:=by rw[hSd]
 have hS:SRel S A5.nil:=by
  subst hSd;exact⟨hS0.n,λg hg=>absurd hg (Ba _),λg _ hg=>absurd hg (Ba _),λb hb=>hb.elim (λh=>hS0.im b (.inl h)) And.left⟩
 have hx:AB S caps lb:=AB.moni ev0 _ hx0;have hlen:=hx.length
 let I:Itr:=⟨P,l,m,rows,S0,J,Jx,cJ,cx,fact,round⟩
 have hN:I.Now (some 0) (λb=>b<S0.w.heap.size/\¬S0.im b) S A5.nil:=by
  refine⟨hS,by rw[hSd];exact Ad _,λb hb=>by rw[hSd];exact hb,λb hb=>by rw[hSd];exact hb,λb hb=>.inl (by rw[hSd] at hb;exact hb),?_⟩
  have e:(λb=>b<S.w.heap.size/\¬(b<S0.w.heap.size/\¬S0.im b)/\¬I.S0.im b)=λ_=>False:=by
   funext b;refine propext ⟨λ⟨h1,h2,h3⟩=>h2 ⟨by rw[hw0] at h1;exact h1,h3⟩,False.elim⟩
  rw[e,hw0];exact hj
 refine callsIn_of_wp_marks (F:=Fence.wide) (n:=m+1) hF hb trivial ?_
 have hfr:FRel S fn.n (entry (.yld l::caps)) { tmps:=(#[Value.func (.yield l) #[] #[]]++lb.toArray)++Array.replicate (F.ntmps-(#[Value.func (.yield l) #[] #[]]++lb.toArray).size) undef,defers:=[] }:=by
  have hx':AB S (.yld l::caps) (.func (.yield l) #[] #[]::lb):=⟨_,_,rfl,rfl,hx⟩;refine⟨by simp;omega,Marks.nil hN.base,λi hi=>?_⟩;by_cases hlt:i<(AV.yld l::caps).length
  ·obtain⟨v,hv,hr⟩:=hx'.get (Al hlt)
   have e1:entry (.yld l::caps) i=(AV.yld l::caps)[i]:=by simp[entry,List.getD,Al hlt]
   have e2:((#[Value.func (.yield l) #[] #[]]++lb.toArray)++Array.replicate (F.ntmps-(#[Value.func (.yield l) #[] #[]]++lb.toArray).size) undef).getD i undef=v:=by
    have hsz:i<(#[Value.func (.yield l) #[] #[]]++lb.toArray).size:=by simp at hlt ⊢;omega
    rw[Dn,BH hsz];have:(#[Value.func (.yield l) #[] #[]]++lb.toArray)[i]? = (Value.func (.yield l) #[] #[]::lb)[i]? := by simp
    rw[this,hv];rfl
   rw[e1,e2];exact hr
  ·have e1:entry (.yld l::caps) i=.any:=by simp[entry,List.getD,B9 (FL hlt)]
   rw[e1];trivial
 rw[<-hw0];refine wpIn_mono (h I rfl rfl c hc S _ _ hN hfr rfl) λe a w' hh=>?_;obtain⟨S2,env2,H2,z,s2,X2,rfl,hN2,hF2,hd2,rfl,⟨hq,hres⟩,hst⟩:=hh
 have fin:LeavesInM Fence.wide (m+1) P F a.tmps (λe W'=>(∃v,e=.returned v)/\((∃O,J rows.length O W')\/∃k O,Jx k O W')) a.defers .returning S2.w:=by
  rw[hd2];refine IR [] S2.w Dc (λD hd=>by cases hd) ?_;obtain⟨vs,ys,h1,h2,h3⟩:=Jv hN2.rel hF2 hr hres;refine⟨if h:vs.toArray.size=1 then vs.toArray[0] else .tuple vs.toArray,?_,⟨_,rfl⟩,?_⟩
  ·have e:results F a.tmps=(do let vs <-F.results.mapM (Qf a.tmps);pure (if h:vs.size=1 then vs[0] else .tuple vs)):=by
    unfold results;congr
   rw[e,DJ];show Sem.run P _ S2.w=_;simp only[Sem.run_bind,Sem.run_map,h1,Result.andThen_ok,Sem.run_pure];rfl
  ·have:=hN2.st
   rcases hst with rfl|rfl
   ·exact .inl ⟨_,this⟩
   ·obtain⟨k,hk⟩:=this;exact .inr ⟨k,_,hk⟩
 cases z with
 |normal=>exact fin
 |exit id=>exact hq.elim
 |ret=>exact fin
end
end Go.Proofs.YtflibbceibjddaaGreat.Abs
namespace Go.Proofs.YtflibbceibjddaaGreat
open Abs O1 O2 O3
def domL(s:Int):List Span:=if s=1 then [⟨0,255⟩] else if s=2 then [⟨0,55295⟩,⟨57344,1114111⟩] else []
theorem GY(a:Int):PC Tryz.prog 129 [.int .i64 a] (Ga ⟨a,0,21,0⟩):=by
 refine Cf Uq ?_;unfold MD;(with_reducible repeat'(first|simp(disch:=omega)only[push_cast,↓zz,seval]|refine sp_ ?_ ?_<;>try(intro hc;push_cast at hc)|omega|intro _))
def Gd(p:Part):Bool:=decide (0<=p.drop/\p.drop<21/\1<=p.take/\p.take<=21/\0<=p.up/\p.up<21/\(p.up=0\/p.take<=6))
theorem HZ(p:Part):PC Tryz.prog 155 [Ga p] (.bool (Gd p)):=by
 refine Cf VW ?_;unfold O9;(with_reducible repeat'(first|simp(disch:=omega)only[push_cast,↓zz,seval]|refine sp_ ?_ ?_<;>try(intro hc;push_cast at hc)|omega|intro _))
 all_goals (unfold Gd;first|(refine X5 ?_;omega)|(refine X6 ?_;omega)|(refine NO ?_;omega))
def E4(p:Part)(n:Int):Bool:=decide (0<=p.at_/\p.at_<n)&&Gd p
theorem GZ(p:Part)(n:Int):PC Tryz.prog 135 [Ga p,.int .i64 n] (.bool (E4 p n)):=by
 refine Cf Ut ?_;unfold MF;(with_reducible repeat'(first|simp(disch:=omega)only[push_cast,↓zz,seval]|refine sp_ ?_ ?_<;>try(intro hc;push_cast at hc)|(have q_:=HZ p;refine ee q_ ?_;clear q_)|(have q_:=HZ p;refine cc q_ ?_;clear q_;simp(disch:=omega)only[push_cast,↓zz,seval];fail_if_success change False)|omega|intro _))
 all_goals (simp[E4, *]<;>omega)
def valP(p:Part)(x:Int):Int:=x / 2 ^ p.drop.toNat % 2 ^ p.take.toNat * 2 ^ p.up.toNat
def valB(p:Part)(x:Int):Bool:=Gd p&&decide (0<=x/\x<=2097151)
def val1(p:Part)(x:Int):Int:=if valB p x then valP p x else 0
abbrev valV(p:Part)(x:Int):AV:=.tup [.int .i64 (val1 p x),.bool (valB p x)]
theorem KZ{p:Part}:Gd p=true↔(0<=p.drop/\p.drop<21/\1<=p.take/\p.take<=21/\0<=p.up/\p.up<21/\(p.up=0\/p.take<=6)):=by simp[Gd]
theorem Nl(d:Nat)(h:d<=21):(1:Int)<=2 ^ d/\(2:Int) ^ d<=2097152 :=
 ⟨EN (by decide),by have:=C1 (n:=2) (by decide) h;have e:((2 ^ d:Nat):Int)=2 ^ d:=(by simp);rw[<-e];omega⟩
theorem zb7{p:Part}{x:Int}(hb:Gd p=true)(hx:0<=x/\x<=2097151):
 IntKind.i64.wrap (JE .and .i64 (x.fdiv (2 ^ min p.drop.toNat IntKind.i64.bits)) (IntKind.i64.wrap (IntKind.i64.wrap (1 * 2 ^ min p.take.toNat IntKind.i64.bits)-1)) * 2 ^ min p.up.toNat IntKind.i64.bits)=valP p x:=by
 rw[KZ] at hb;have e1:min p.drop.toNat IntKind.i64.bits=p.drop.toNat:=Co (by show _<=64;omega);have e2:min p.take.toNat IntKind.i64.bits=p.take.toNat:=Co (by show _<=64;omega);have e3:min p.up.toNat IntKind.i64.bits=p.up.toNat:=Co (by show _<=64;omega);rw[e1,e2,e3];have hd:=Nl p.drop.toNat (by omega);have ht:=Nl p.take.toNat (by omega);have hu:=Nl p.up.toNat (by omega);rw[Int.one_mul,IntWalk.i64_in (2 ^ p.take.toNat) (by omega),IntWalk.i64_in (2 ^ p.take.toNat-1) (by omega),z2a _ _ (by omega)];have q0:0<=x / 2 ^ p.drop.toNat:=FX hx.1 (by omega);have q1:x / 2 ^ p.drop.toNat<=x:=Int.ediv_le_self _ hx.1;have m0:=BM (x / 2 ^ p.drop.toNat) (b:=2 ^ p.take.toNat) (by omega);have m1:=BB (x / 2 ^ p.drop.toNat) (b:=2 ^ p.take.toNat) (by omega);rw[z2b p.take.toNat ⟨q0,by show _<(2:Int) ^ 64;omega⟩ (by show _<=64;omega) (IntWalk.i64_in _ (by omega))];refine IntWalk.i64_in _ ?_;have:x / 2 ^ p.drop.toNat % 2 ^ p.take.toNat * 2 ^ p.up.toNat<=2097152 * 2097152:=Int.mul_le_mul (by omega) (by omega) (by omega) (by omega);have:0<=x / 2 ^ p.drop.toNat % 2 ^ p.take.toNat * 2 ^ p.up.toNat:=Fs (by omega) (by omega);omega
theorem LW{p:Part}{x:Int}(hb:Gd p=true)(hx:0<=x/\x<=2097151):valB p x=true/\val1 p x=valP p x:=by
 have:valB p x=true:=by simp only[valB,hb,AO,Ah];exact hx
 exact⟨this,by rw[val1,this];rfl⟩
theorem znp{p:Part}{x:Int}(h:Gd p=false\/x<0\/2097151<x):valB p x=false/\val1 p x=0:=by
 have:valB p x=false:=by
  simp only[valB,Bool.and_eq_false_iff,AQ];rcases h with h|h
  ·exact .inl h
  ·exact .inr (by omega)
 exact⟨this,by rw[val1,this];rfl⟩
theorem z4m{p:Part}{x:Int}(h:Gd p=false\/x<0\/2097151<x):valV p x=.tup [.int .i64 0,.bool false]:=by
 obtain⟨h1,h2⟩:=znp h;simp only[valV,h1,h2]
theorem zj0{p:Part}{x:Int}(hb:Gd p=true)(hx:0<=x/\x<=2097151):valV p x=.tup [.int .i64 (valP p x),.bool true]:=by
 obtain⟨h1,h2⟩:=LW hb hx;simp only[valV,h1,h2]
theorem Ia(p:Part)(x:Int):PC Tryz.prog 136 [Ga p,.int .i64 x] (valV p x):=by
 refine Cf Uu ?_;unfold MG;(with_reducible repeat'(first|simp(disch:=omega)only[push_cast,↓zz,seval]|refine sp_ ?_ ?_<;>try(intro hc;push_cast at hc)|(have q_:=HZ p;refine ee q_ ?_;clear q_)|(have q_:=HZ p;refine cc q_ ?_;clear q_;simp(disch:=omega)only[push_cast,↓zz,seval];fail_if_success change False)|omega|intro _))
 all_goals first|(have hb:=KZ.1 ‹Gd p=true›;omega)|(rw[z4m (.inl ‹_›)];(repeat'(first|(simp(disch:=omega)only[push_cast,↓zz,seval,D3])|omega|(with_reducible refine Aa ?_ ?_)));done)|(rw[z4m (.inr (by omega))];(repeat'(first|(simp(disch:=omega)only[push_cast,↓zz,seval,D3])|omega|(with_reducible refine Aa ?_ ?_)));done)|(rw[zj0 ‹_› (by omega)];(repeat'(first|(simp(disch:=omega)only[push_cast,↓zz,seval,D3])|omega|(with_reducible refine Aa ?_ ?_)));exact zb7 ‹_› (by omega))
theorem ED(s:Int):PC Tryz.prog 83 [.int .i64 s] (Bg (domL s)):=by
 refine Cf RV ?_;unfold KO;(with_reducible repeat'(first|simp(disch:=omega)only[push_cast,↓zz,seval]|refine sp_ ?_ ?_<;>try(intro hc;push_cast at hc)|omega|intro _))
 all_goals (simp only[domL, *];rfl)
abbrev Term.outer(t:Term):Part:=⟨0,t.drop,t.take,t.up⟩
theorem G4(t:Term):PC Tryz.prog 137 [G0 t] (Ga t.outer):=by
 refine Cf Uv ?_;unfold MH;(with_reducible repeat'(first|simp(disch:=omega)only[push_cast,↓zz,seval]|refine sp_ ?_ ?_<;>try(intro hc;push_cast at hc)|omega|intro _))
def Q3(t:Term):Bool:=decide (t.base=0/\t.drop=0/\t.take=21/\t.up=0)
def ID(p:Part):Bool:=decide (p.drop=0/\p.take=21/\p.up=0)
theorem Q4(t:Term):PC Tryz.prog 187 [G0 t] (.bool (Q3 t)):=by
 refine Cf U1 ?_;unfold MN;(with_reducible repeat'(first|simp(disch:=omega)only[push_cast,↓zz,seval]|refine sp_ ?_ ?_<;>try(intro hc;push_cast at hc)|(have q_:=G4 t;refine ee q_ ?_;clear q_)|(have q_:=GY 0;refine ee q_ ?_;clear q_)|(have q_:=G4 t;refine cc q_ ?_;clear q_;simp(disch:=omega)only[push_cast,↓zz,seval];fail_if_success change False)|(have q_:=GY 0;refine cc q_ ?_;clear q_;simp(disch:=omega)only[push_cast,↓zz,seval];fail_if_success change False)|omega|intro _))
 all_goals (simp[Q3,ID,Term.outer, *])
def Gr(x:Int):Bool:=decide (-1114111<=x/\x<=1114111)
theorem J2(x:Int):PC Tryz.prog 199 [.int .i64 x] (.bool (Gr x)):=by
 refine Cf U3 ?_;unfold MQ;(with_reducible repeat'(first|simp(disch:=omega)only[push_cast,↓zz,seval]|refine sp_ ?_ ?_<;>try(intro hc;push_cast at hc)|omega|intro _))
 all_goals (unfold Gr;first|(refine X5 ?_;omega)|(refine X6 ?_;omega)|(refine NO ?_;omega))
def JO:List Part->Bool
 |p::q::l=>decide (p.up<q.up)&&JO (q::l)
 |_=>true
theorem Si:∀{l:List Part}{i:Nat},i+1<l.length->JO (l.drop i)=(decide ((nth l i).up<(nth l (i+1)).up)&&JO (l.drop (i+1)))
 |[],i,h=>by simp at h
 |[p],i,h=>by simp at h
 |p::q::l,0,_=>rfl
 |p::q::l,i+1,h=>by
  exact Si (l:=q::l) (i:=i) (by simpa using h)
theorem z4n{l:List Part}{i:Nat}(h:l.length<=i+1):JO (l.drop i)=true:=by
 match hl:l.drop i with
 |[]=>rfl
 |[p]=>rfl
 |p::q::r=>have:=Dl List.length hl;simp at this;omega
theorem OH(l:List Part)(hl:l.length<1000000000000):PC Tryz.prog 206 [GF l] (.bool (JO l&&decide (l.length<=4))):=by
 refine Cf Sc ?_;unfold KW;(with_reducible repeat'(first|simp(disch:=omega)only[push_cast,↓zz,seval]|refine sp_ ?_ ?_<;>try(intro hc;push_cast at hc)|omega|intro _));refine Br (Bs (λ(i:Nat)=>i<=l.length/\JO l=JO (l.drop (i-1))) (λi=>l.length-i) (λi=>[(0,GF l),(5,GF l),(6,.int .i64 l.length),(7,.int .i64 i)]) (λ_=>[]) (λ_ _=>[]) 0 (by simp) ?_ ?_)
 ·(with_reducible repeat'(first|simp(disch:=omega)only[push_cast,↓zz,seval]|refine sp_ ?_ ?_<;>try(intro hc;push_cast at hc)|omega|intro _))
 rintro i ⟨hi,hr⟩;refine W_T ?_;(with_reducible repeat'(first|simp(disch:=omega)only[push_cast,↓zz,seval]|refine sp_ ?_ ?_<;>try(intro hc;push_cast at hc)|omega|intro _))
 ·rename_i h1 h2
  rw[hr,Si (i:=i-1) (by omega),show i-1+1=i by omega];have:¬(nth l (i-1)).up<(nth l i).up:=by omega
  simp[this]
 ·refine⟨i+1,?_⟩
  (with_reducible repeat'(first|simp(disch:=omega)only[push_cast,↓zz,seval]|refine sp_ ?_ ?_<;>try(intro hc;push_cast at hc)|omega|intro _));rw[hr,Si (i:=i-1) (by omega),show i-1+1=i by omega];have:(nth l (i-1)).up<(nth l i).up:=by omega
  simp[this]
 ·refine⟨i+1,?_⟩
  (with_reducible repeat'(first|simp(disch:=omega)only[push_cast,↓zz,seval]|refine sp_ ?_ ?_<;>try(intro hc;push_cast at hc)|omega|intro _));obtain rfl:i=0:=by omega
  exact hr
 ·rw[hr,z4n (i:=i-1) (by omega),AO]
  exact NO (by omega)
def DF(t:Term):Bool:=Gr t.base&&Gr t.sum&&Gd t.outer&&(JO t.parts&&decide (t.parts.length<=4))
theorem Wg(t:Term):E4 t.outer 1=Gd t.outer:=by simp[E4]
theorem OI(t:Term):PC Tryz.prog 135 [Ga t.outer,.int .i64 1] (.bool (Gd t.outer)):=by rw[<-Wg];exact GZ t.outer 1
theorem Jd(t:Term)(hl:t.parts.length<1000000000000):PC Tryz.prog 186 [G0 t] (.bool (DF t)):=by
 refine Cf PM ?_;unfold JM;(with_reducible repeat'(first|simp(disch:=omega)only[push_cast,↓zz,seval]|refine sp_ ?_ ?_<;>try(intro hc;push_cast at hc)|(have q_:=J2 t.base;refine ee q_ ?_;clear q_)|(have q_:=J2 t.sum;refine ee q_ ?_;clear q_)|(have q_:=G4 t;refine ee q_ ?_;clear q_)|(have q_:=OI t;refine ee q_ ?_;clear q_)|(have q_:=OH t.parts hl;refine ee q_ ?_;clear q_)|(have q_:=J2 t.base;refine cc q_ ?_;clear q_;simp(disch:=omega)only[push_cast,↓zz,seval];fail_if_success change False)|(have q_:=J2 t.sum;refine cc q_ ?_;clear q_;simp(disch:=omega)only[push_cast,↓zz,seval];fail_if_success change False)|(have q_:=G4 t;refine cc q_ ?_;clear q_;simp(disch:=omega)only[push_cast,↓zz,seval];fail_if_success change False)|(have q_:=OI t;refine cc q_ ?_;clear q_;simp(disch:=omega)only[push_cast,↓zz,seval];fail_if_success change False)|(have q_:=OH t.parts hl;refine cc q_ ?_;clear q_;simp(disch:=omega)only[push_cast,↓zz,seval];fail_if_success change False)|omega|intro _))
 all_goals (simp[DF, *])
def ZQ(s:Int):Bool:=decide (s=1\/s=2)
def G5(i n:Int)(l:List Part):Bool:=l.all λp=>E4 p n&&(decide (i≠2)||ID p)
def Ib(t:Term)(i o n:Int):Bool:=ZQ i&&ZQ o&&DF t&&G5 i n t.parts&&(decide (i≠2)||decide (t.parts.length<=1))&&(decide (o≠2)||Q3 t)
theorem Sj(s:Int):decide (((domL s).length:Int)=0)=!ZQ s:=by
 unfold domL ZQ;split
 ·subst_vars;decide
 ·split
  ·subst_vars;decide
  ·simp[*]
theorem znq(l:List Part):(l.length<=1)=((l.length:Int)<=1):=by simp only[eq_iff_iff];omega
theorem ZR(t:Term)(i o n:Int)(hl:t.parts.length<1000000000000):PC Tryz.prog 167 [G0 t,.int .i64 i,.int .i64 o,.int .i64 n] (.bool (Ib t i o n)):=by
 refine Cf Uz ?_;unfold ML;(with_reducible repeat'(first|simp(disch:=omega)only[push_cast,↓zz,seval,Sj]|refine sp_ ?_ ?_<;>try(intro hc;push_cast at hc)|(have q_:=ED i;refine ee q_ ?_;clear q_)|(have q_:=ED o;refine ee q_ ?_;clear q_)|(have q_:=Jd t hl;refine ee q_ ?_;clear q_)|(have q_:=ED i;refine cc q_ ?_;clear q_;simp(disch:=omega)only[push_cast,↓zz,seval,Sj];fail_if_success change False)|(have q_:=ED o;refine cc q_ ?_;clear q_;simp(disch:=omega)only[push_cast,↓zz,seval,Sj];fail_if_success change False)|(have q_:=Jd t hl;refine cc q_ ?_;clear q_;simp(disch:=omega)only[push_cast,↓zz,seval,Sj];fail_if_success change False)|omega|intro _))
 ·simp[Ib, *]
 ·have hn:Ib t i o n=(G5 i n t.parts&&(decide (i≠2)||decide ((t.parts.length:Int)<=1))&&(decide (o≠2)||Q3 t)):=by simp[Ib,znq, *]
  rw[hn];refine Br (Bs (λ(k:Nat)=>k<=t.parts.length/\G5 i n t.parts=G5 i n (t.parts.drop k)) (λk=>t.parts.length-k) (λk=>[(1,.int .i64 i),(2,.int .i64 o),(3,.int .i64 n),(4,.ptr 0 1 0 0),(27,GF t.parts),(28,.int .i64 t.parts.length),(29,.int .i64 k)]) (λ_=>[⟨6,1,true,[G0 t]⟩]) (λenv _=>[C7 0 (env 4)]) 0 (by simp) ?_ ?_)
  ·(with_reducible repeat'(first|simp(disch:=omega)only[push_cast,↓zz,seval]|refine sp_ ?_ ?_<;>try(intro hc;push_cast at hc)|omega|intro _))
  rintro k ⟨hi,hr⟩;refine W_T ?_;(with_reducible repeat'(first|simp(disch:=omega)only[push_cast,↓zz,seval]|refine sp_ ?_ ?_<;>try(intro hc;push_cast at hc)|(have q_:=GZ (nth t.parts k) n;refine ee q_ ?_;clear q_)|(have q_:=GY (nth t.parts k).at_;refine ee q_ ?_;clear q_)|(have q_:=Q4 t;refine ee q_ ?_;clear q_)|(have q_:=GZ (nth t.parts k) n;refine cc q_ ?_;clear q_;simp(disch:=omega)only[push_cast,↓zz,seval];fail_if_success change False)|(have q_:=GY (nth t.parts k).at_;refine cc q_ ?_;clear q_;simp(disch:=omega)only[push_cast,↓zz,seval];fail_if_success change False)|(have q_:=Q4 t;refine cc q_ ?_;clear q_;simp(disch:=omega)only[push_cast,↓zz,seval];fail_if_success change False)|omega|intro _))
  all_goals (first|(refine⟨k+1,?_⟩;(with_reducible repeat'(first|simp(disch:=omega)only[push_cast,↓zz,seval]|refine sp_ ?_ ?_<;>try(intro hc;push_cast at hc)|omega|intro _));(try (first|(rw[hr,drop_at (by omega)];simp[G5,ID, *];done)|(rw[hr,An (by omega)];simp[G5,ID, *];done)|(simp[G5,ID, *];done)));done)|(first|(rw[hr,drop_at (by omega)];simp[G5,ID, *];done)|(rw[hr,An (by omega)];simp[G5,ID, *];done)|(simp[G5,ID, *];done)))
 all_goals (simp[Ib, *])
theorem ZS(x:Int):PC Tryz.prog 130 [.int .i32 x] (G0 ⟨0,0,21,0,IntKind.i64.wrap x,[]⟩):=by
 refine Cf Ur ?_;unfold ME;(with_reducible repeat'(first|simp(disch:=omega)only[push_cast,↓zz,seval]|refine sp_ ?_ ?_<;>try(intro hc;push_cast at hc)|omega|intro _))
theorem z4o(a x:Int):PC Tryz.prog 84 [.int .i64 a,.int .i64 x] (G0 ⟨0,0,21,0,x,[⟨a,0,21,0⟩]⟩):=by
 refine Cf VL ?_;unfold Ou;(with_reducible repeat'(first|simp(disch:=omega)only[push_cast,↓zz,seval]|refine sp_ ?_ ?_<;>try(intro hc;push_cast at hc)|(have q_:=GY a;refine ee q_ ?_;clear q_)|(have q_:=GY a;refine cc q_ ?_;clear q_;simp(disch:=omega)only[push_cast,↓zz,seval];fail_if_success change False)|omega|intro _))
def sumP(w:List Int):List Part->Int->Option Int
 |[],a=>some a
 |p::l,a=>if E4 p w.length then sumP w l (IntKind.i64.wrap (a+val1 p (nth w p.at_.toNat))) else none
def symB(x:Int):Bool:=decide (0<=x/\x<=1114111)
def EH(t:Term)(w:List Int):Option Int :=
 if w.all symB then
  match sumP w t.parts t.sum with
  |some x=>if valB t.outer x&&decide (x<=1114111) then some (IntKind.i64.wrap (t.base+valP t.outer x)) else none
  |none=>none
 else none
abbrev optV(o:Option Int):AV:=.tup [.int .i64 (o.getD 0),.bool o.isSome]
theorem znr{w:List Int}{l:List Part}{k:Nat}{a:Int}(h:k<l.length):sumP w (l.drop k) a=if E4 (nth l k) w.length then sumP w (l.drop (k+1)) (IntKind.i64.wrap (a+val1 (nth l k) (nth w (nth l k).at_.toNat))) else none:=by
 rw[drop_at h,sumP]
theorem Iv{p:Part}{n:Int}(h:E4 p n=true):0<=p.at_/\p.at_<n:=by
 simp only[E4,Ac,Ah] at h;exact h.1
theorem z4p{w:List Int}{k:Nat}(h:k<w.length):(w.drop k).all symB=(symB (nth w k)&&(w.drop (k+1)).all symB):=by rw[drop_at h,List.all_cons]
theorem ZT(t:Term)(w:List Int)(hl:t.parts.length<=1000000000000)(hw:w.length<=1000000000000)(h32:∀x∈w,-2147483648<=x/\x<=2147483647):PC Tryz.prog 100 [G0 t,A6 w] (optV (EH t w)):=by
 refine Cf Un ?_;unfold MA;(with_reducible repeat'(first|simp(disch:=omega)only[push_cast,↓zz,seval]|refine sp_ ?_ ?_<;>try(intro hc;push_cast at hc)|omega|intro _));refine Br (Bs (λ(k:Nat)=>k<=w.length/\w.all symB=(w.drop k).all symB) (λk=>w.length-k) (λk=>[(1,A6 w),(2,.ptr 0 1 0 0),(15,A6 w),(16,.int .i64 w.length),(17,.int .i64 k)]) (λ_=>[⟨6,1,true,[G0 t]⟩]) (λenv _=>[C7 0 (env 2)]) 0 (by simp) ?_ ?_)
 ·(with_reducible repeat'(first|simp(disch:=omega)only[push_cast,↓zz,seval]|refine sp_ ?_ ?_<;>try(intro hc;push_cast at hc)|omega|intro _))
 rintro k ⟨hk,hr⟩;refine W_T ?_;(with_reducible repeat'(first|simp(disch:=omega)only[push_cast,↓zz,seval]|refine sp_ ?_ ?_<;>try(intro hc;push_cast at hc)|omega|intro _))
 ·have e:EH t w=none:=by
   rw[z4p (by omega)] at hr;have:symB (nth w k)=false:=by simp[symB];omega
   simp[EH,hr,this]
  rw[e];(repeat'(first|(simp(disch:=omega)only[push_cast,↓zz,seval,D3])|omega|(with_reducible refine Aa ?_ ?_)))
 ·refine⟨k+1,?_⟩
  (with_reducible repeat'(first|simp(disch:=omega)only[push_cast,↓zz,seval]|refine sp_ ?_ ?_<;>try(intro hc;push_cast at hc)|omega|intro _));rw[hr,z4p (by omega)];have:symB (nth w k)=true:=by simp[symB];omega
  simp[this]
 ·have e:EH t w=none:=by
   rw[z4p (by omega)] at hr;have:symB (nth w k)=false:=by simp[symB];omega
   simp[EH,hr,this]
  rw[e];(repeat'(first|(simp(disch:=omega)only[push_cast,↓zz,seval,D3])|omega|(with_reducible refine Aa ?_ ?_)))
 ·have hall:w.all symB=true:=by rw[hr,An (by omega)];rfl
  clear hr;have hw32:∀j,j<w.length->IntKind.i64.wrap (nth w j)=nth w j:=λj hj=>by have:=h32 _ (AS hj);exact IntWalk.i64_in _ (by omega)
  refine Br (Bs (λ(s:Nat × Int)=>s.1<=t.parts.length/\sumP w t.parts t.sum=sumP w (t.parts.drop s.1) s.2) (λs=>t.parts.length-s.1) (λs=>[(1,A6 w),(2,.ptr 0 1 0 0),(8,.int .i64 s.2),(31,GF t.parts),(32,.int .i64 t.parts.length),(33,.int .i64 s.1)]) (λ_=>[⟨6,1,true,[G0 t]⟩]) (λenv _=>[C7 0 (env 2)]) (0,t.sum) (by simp) ?_ ?_)
  ·(with_reducible repeat'(first|simp(disch:=omega)only[push_cast,↓zz,seval]|refine sp_ ?_ ?_<;>try(intro hc;push_cast at hc)|omega|intro _))
  rintro⟨k,a⟩ ⟨hk,hr2⟩;simp only at hk hr2;refine W_T ?_;(with_reducible repeat'(first|simp(disch:=omega)only[push_cast,↓zz,seval,hw32]|apply Aa|refine sp_ ?_ ?_<;>intro hc<;>push_cast at hc<;>(try have hk:=Iv hc)|(have q_:=GZ (nth t.parts k) w.length;refine ee q_ ?_;clear q_)|(have q_:=Ia (nth t.parts k) (nth w (nth t.parts k).at_.toNat);refine ee q_ ?_;clear q_)|(have q_:=G4 t;refine ee q_ ?_;clear q_)|(have q_:=Ia t.outer a;refine ee q_ ?_;clear q_)|(have q_:=GZ (nth t.parts k) w.length;refine cc q_ ?_;clear q_;simp(disch:=omega)only[push_cast,↓zz,seval,hw32];fail_if_success change False)|(have q_:=Ia (nth t.parts k) (nth w (nth t.parts k).at_.toNat);refine cc q_ ?_;clear q_;simp(disch:=omega)only[push_cast,↓zz,seval,hw32];fail_if_success change False)|(have q_:=G4 t;refine cc q_ ?_;clear q_;simp(disch:=omega)only[push_cast,↓zz,seval,hw32];fail_if_success change False)|(have q_:=Ia t.outer a;refine cc q_ ?_;clear q_;simp(disch:=omega)only[push_cast,↓zz,seval,hw32];fail_if_success change False)|omega|intro _))
  all_goals first
   |(rw[znr (by omega)] at hr2
     first
     |(have e:EH t w=none:=by simp[EH, *]
       rw[e];(repeat'(first|(simp(disch:=omega)only[push_cast,↓zz,seval,D3])|omega|(with_reducible refine Aa ?_ ?_)));done)
     |(refine⟨(k+1,IntKind.i64.wrap (a+val1 (nth t.parts k) (nth w (nth t.parts k).at_.toNat))),?_⟩
       (with_reducible repeat'(first|simp(disch:=omega)only[push_cast,↓zz,seval]|refine sp_ ?_ ?_<;>try(intro hc;push_cast at hc)|omega|intro _))
       rw[hr2];simp[‹E4 (nth t.parts k) w.length=true›];done))
   |(rw[An (by omega)] at hr2
     (have hs:sumP w t.parts t.sum=some a:=hr2)
     (have hv:EH t w=if valB t.outer a&&decide (a<=1114111) then some (IntKind.i64.wrap (t.base+valP t.outer a)) else none:=by simp only[EH,hall,hs,Bi])
     first
     |(rw[hv,Ab (by simp only[Ac,Ah,not_and];intro h;first|omega|(rw[‹valB t.outer a=false›] at h;cases h))];(repeat'(first|(simp(disch:=omega)only[push_cast,↓zz,seval,D3])|omega|(with_reducible refine Aa ?_ ?_)));done)
     |((have hv1:val1 t.outer a=valP t.outer a:=by simp only[val1,‹valB t.outer a=true›,Bi])
       rw[hv,Ae (by simp only[Ac,Ah];exact⟨‹_›,by omega⟩),hv1];(repeat'(first|(simp(disch:=omega)only[push_cast,↓zz,seval,D3])|omega|(with_reducible refine Aa ?_ ?_)));done))
theorem z4q{x:Int}:Gr x=true ↔ -1114111<=x/\x<=1114111:=by simp[Gr]
theorem GR{x:Int}(h:Gr x=true):-1114111<=x/\x<=1114111:=z4q.1 h
theorem Q5{l m:List Part}{k:Nat}(h1:k<l.length)(h2:k<m.length):decide (l.drop k=m.drop k)=(decide (nth l k=nth m k)&&decide (l.drop (k+1)=m.drop (k+1))):=by
 rw[drop_at h1,drop_at h2];simp
theorem Wh(p q:Part):(decide (p.at_=q.at_)&&(decide (p.drop=q.drop)&&(decide (p.take=q.take)&&decide (p.up=q.up))))=decide (p=q):=by
 cases p;cases q;simp
theorem Yc(a b:Term)(hl:a.parts.length<=1000000000000):PC Tryz.prog 93 [G0 a,G0 b] (.bool (decide (a=b))):=by
 refine Cf Um ?_;unfold M9;(with_reducible repeat'(first|simp(disch:=omega)only[push_cast,↓zz,seval]|refine sp_ ?_ ?_<;>try(intro hc;push_cast at hc)|omega|intro _))
 all_goals first
  |(have:a≠b:=by intro h;subst h;first|omega|simp_all
    simp[this];done)
  |skip
 have hab:decide (a=b)=decide (a.parts=b.parts):=by cases a;cases b;simp_all
 rw[hab]
 refine Br (Bs (λ(k:Nat)=>k<=a.parts.length/\decide (a.parts=b.parts)=decide (a.parts.drop k=b.parts.drop k)) (λk=>a.parts.length-k)
  (λk=>[(2,.ptr 0 1 0 0),(3,.ptr 1 1 0 0),(5,.int .i64 k)])
  (λs=>[⟨6,1,true,[G0 a]⟩,⟨6,1,true,[G0 b]⟩])
  (λenv _=>[C7 0 (env 2),C7 0 (env 3)]) 0 (by simp) ?_ ?_)
 ·(with_reducible repeat'(first|simp(disch:=omega)only[push_cast,↓zz,seval]|refine sp_ ?_ ?_<;>try(intro hc;push_cast at hc)|omega|intro _))
 rintro k ⟨hk,hr⟩;refine W_T ?_;(with_reducible repeat'(first|simp(disch:=omega)only[push_cast,↓zz,seval,Wh]|refine sp_ ?_ ?_<;>try(intro hc;push_cast at hc)|omega|intro _))
 ·rw[hr,Q5 (by omega) (by omega)];simp[*]
 ·refine⟨k+1,?_⟩
  (with_reducible repeat'(first|simp(disch:=omega)only[push_cast,↓zz,seval]|refine sp_ ?_ ?_<;>try(intro hc;push_cast at hc)|omega|intro _));rw[hr,Q5 (by omega) (by omega)];simp[*]
 ·rw[hr,An (by omega),An (by omega)];simp
abbrev wr(n:Int):Int:=IntKind.i64.wrap n
theorem z4r(n:Int):wr n=(n+9223372036854775808) % 18446744073709551616-9223372036854775808:=by
 show IntKind.i64.wrap n=_;rw[IntWalk.i64_left];unfold RowKit.wrap64;rfl
theorem zj1{n:Int}(h:-9223372036854775808<=n/\n<=9223372036854775807):wr n=n:=by rw[z4r];omega
theorem wr_wr(a b:Int):wr (wr a+b)=wr (a+b):=by rw[z4r,z4r a,z4r (a+b)];omega
theorem wr_bd(a:Int):-9223372036854775808<=wr a/\wr a<=9223372036854775807:=by rw[z4r];omega
def totP(w:List Int):List Part->Int
 |[]=>0
 |p::l=>val1 p (nth w p.at_.toNat)+totP w l
def LX(w:List Int)(l:List Part):Bool:=l.all λp=>E4 p w.length
theorem z4s(w:List Int):∀(l:List Part)(a:Int),wr a=a->sumP w l a=if LX w l then some (wr (a+totP w l)) else none
 |[],a,h=>by simp[sumP,LX,totP,h]
 |p::l,a,h=>by
  rw[sumP];cases hp:E4 p w.length
  ·simp[LX,hp]
  ·have ih:=z4s w l (wr (a+val1 p (nth w p.at_.toNat))) (by rw[zj1 (wr_bd _)])
   rw[Ae rfl];have e:wr (wr (a+val1 p (nth w p.at_.toNat))+totP w l)=wr (a+totP w (p::l)):=by rw[wr_wr,totP];congr 1;omega
   rw[e] at ih;simp only[LX,List.all_cons,hp,AO] at ih ⊢;exact ih
theorem Je{p:Part}{x:Int}(h:ID p=true)(hx:0<=x/\x<=2097151):Gd p=true/\valB p x=true/\valP p x=x:=by
 simp only[ID,Ah] at h;obtain⟨h1,h2,h3⟩:=h;have hb:Gd p=true:=by simp[Gd,h1,h2,h3]
 refine⟨hb,(LW hb hx).1,?_⟩;rw[valP,h1,h2,h3];show x / 2 ^ 0 % 2 ^ 21 * 2 ^ 0=x;omega
end Go.Proofs.YtflibbceibjddaaGreat
namespace Go.Proofs.YtflibbceibjddaaGreat
open Abs O1 O2 O3 Go.RowKit
abbrev shI:Sh:=.int .i64
abbrev z4t:Sh:=.sl true [shI,shI]
abbrev Sk:Sh:=.sl false [.int .i32]
theorem wf_i32{n:Int}(h:(Lit.int .i32 n).wf=true):-2147483648<=n/\n<=2147483647:=by
 simpa [Lit.wf,IntKind.min,IntKind.max,IntKind.signed,IntKind.bits] using h
theorem z4u{α:Type}{agg:Bool}{fs:List Sh}{x:AV}(f:α->AV)(Q:α->Prop)(hp:∀l:List α,Bh (l.map f)=true)(hpos:0<fs.length)
 (he:∀cs,IsL fs cs->∃a,AV.le (if agg then .agg cs else cs.headD .any) (f a)/\Q a) (h:Is (.sl agg fs) x):∃l:List α,AV.le x (.lst fs.length (l.map f))/\l.length<=maxLen/\∀a∈l,Q a:=by
 rcases h with rfl|⟨xs,rfl,hl,hx⟩
 ·exact⟨[],AV.le_nilS hpos,Au _,λ_ h=>by cases h⟩
 ·have key:∀xs:List AV,(∀y∈xs,∃cs,y=(if agg then AV.agg cs else cs.headD .any)/\IsL fs cs)->∃l:List α,l.length=xs.length/\leL xs (l.map f)/\∀a∈l,Q a:=by
   intro xs
   induction xs with
   |nil=>intro _;exact⟨[],rfl,D2,λ_ h=>by cases h⟩
   |cons y r ih =>
    intro hy;obtain⟨l,h1,h2,h3⟩:=ih λz hz=>hy z (List.mem_cons_of_mem _ hz);obtain⟨cs,rfl,hcs⟩:=hy y (List.mem_cons_self ..);obtain⟨a,h4,h5⟩:=he cs hcs;refine⟨a::l,by simp[h1],AW h4 h2,λb hb=>?_⟩;rcases Af.1 hb with rfl|hb
    ·exact h5
    ·exact h3 b hb
  obtain⟨l,h1,h2,h3⟩:=key xs hx;exact⟨l,AV.le_lst (by simp[h1]) (hp l) h2,by rw[h1];exact hl,h3⟩
def i64s(l:List Int):Prop:=∀n∈l,(Lit.int .i64 n).wf=true
theorem z4v{k:IntKind}{x:AV}(h:Is (.sl false [.int k]) x):∃l:List Int,AV.le x (.lst 1 (l.map (AV.int k)))/\l.length<=maxLen/\∀n∈l,(Lit.int k n).wf=true :=
 z4u (fs:=[.int k]) (AV.int k) (λn=>(Lit.int k n).wf=true) (D9 k) (by simp) (λcs h=>by
  obtain⟨_,_,rfl,⟨n,rfl,h3⟩,_⟩:=h
  exact⟨n,AV.le_refl _,h3⟩) h
def Yd(s:Span):Prop:=i64s [s.lo,s.hi]
theorem Ye{x:AV}(h:Is z4t x):∃l:List Span,AV.le x (Bg l)/\l.length<=maxLen/\∀s∈l,Yd s :=
 z4u C2 Yd Cd (by decide) (λcs h=>by
  obtain⟨_,_,rfl,⟨a,rfl,ha⟩,_,_,rfl,⟨b,rfl,hb⟩,rfl⟩:=h
  exact⟨⟨a,b⟩,AV.le_refl _,by simp[Yd,i64s,ha,hb]⟩) h
theorem zb8{o:Option Int}(h:o.isSome=true):o=some (o.getD 0):=by cases o<;>simp_all
def Dk(r:Rule):Bool:=decide ((r.guards.length:Int)=0)
def toD(l:List Rule)(i:Nat):List Int:=(l.filter λr=>Dk r&&decide (r.from_=i)).map (·.to_)
def inD(l:List Rule)(j:Nat):Int:=((l.filter λr=>Dk r&&decide (r.to_=j)).length:Int)
def cntE(l:List Rule)(P:List Int)(j:Nat):Int:=((l.filter λr=>Dk r&&(decide (r.to_=j)&&!decide (r.from_∈P))).length:Int)
theorem Sl(l:List Rule)(j:Nat):cntE l [] j=inD l j:=by simp[cntE,inD]
theorem zj2(l:List Rule)(P:List Int)(j:Nat):0<=cntE l P j:=by simp only[cntE];omega
theorem zj3(l:List Rule)(P:List Int)(j:Nat):cntE l P j<=cntE l [] j:=by
 simp only[cntE]
 have:(l.filter λr=>Dk r&&(decide (r.to_=j)&&!decide (r.from_∈P))).length<=(l.filter λr=>Dk r&&(decide (r.to_=j)&&!decide (r.from_∈([]:List Int)))).length:=by
  induction l with
  |nil=>simp
  |cons r l ih =>
   simp only[Cg];cases Dk r<;>cases decide (r.to_=(j:Int))<;>cases decide (r.from_∈P)<;>simp at ih ⊢<;>omega
 omega
theorem Sm{s j:Nat}{P:List Int}(hs:(s:Int)∉P):∀l:List Rule,cntE l (P++[(s:Int)]) j+((toD l s).count (j:Int):Int)=cntE l P j
 |[]=>by simp[cntE,toD]
 |r::l=>by
  have ih:=Sm (j:=j) hs l;simp only[cntE,toD,Cg] at ih ⊢;cases he:Dk r
  ·simpa using ih
  ·simp only[AO]
   by_cases ht:r.to_=j
   ·by_cases hf:r.from_=s
    ·have h1:r.from_∈P++[(s:Int)]:=by simp[hf]
     have h2:r.from_∉P:=by rw[hf];exact hs
     simp only[ht,hf] at h1 h2 ⊢;simp only[Bu,h1,h2,Be,FA,Ev,CX,Do,Bi,A8,Bt,List.length_cons,AR,List.count_cons_self,ht]
     push_cast
     omega
    ·have h1:(r.from_∈P++[(s:Int)])↔r.from_∈P:=by simp[hf]
     by_cases h2:r.from_∈P
     ·simp only[ht,hf,h1,h2,Bu,Be,FA,CX,A8,Bt]
      exact ih
     ·simp only[ht,hf,h1,h2,Bu,Be,Ev,Do,Bi,A8,Bt,List.length_cons]
      push_cast
      omega
   ·by_cases hf:r.from_=s
    ·simp only[ht,hf,Be,Bu,Bp,A8,Bt,Bi,AR]
     rw[List.count_cons_of_ne ht];exact ih
    ·simp only[ht,hf,Be,Bp,A8,Bt]
     exact ih
theorem J3:∀{a b:List Int},a.Nodup->(∀x∈a,x∈b)->a.length<=b.length
 |[],b,_,_=>Au _
 |x::a,b,hn,h=>by
  obtain⟨h1,h2⟩:=BN.1 hn;have hx:=h x (by simp);have:=J3 (a:=a) (b:=b.erase x) h2 λy hy=>(List.mem_erase_of_ne (λ(e:y=x)=>h1 (by rw[<-e];exact hy))).2 (h y (by simp[hy]));rw[List.length_erase_of_mem hx] at this;have:=Er hx;simp only[List.length_cons];omega
def idsN(n:Nat):List Int:=(List.range n).map λ(i:Nat)=>(i:Int)
theorem z4w(n:Nat):(idsN n).Nodup:=by
 rw[idsN,CE,Fz];exact (CE.1 (DT)).imp λh e=>h (by omega)
theorem Sn{n:Nat}{x:Int}:x∈idsN n↔0<=x/\x<n:=by
 simp only[idsN,Ax,Bq];constructor
 ·rintro⟨i,hi,rfl⟩;omega
 ·rintro⟨h1,h2⟩;exact⟨x.toNat,by omega,by omega⟩
def Yf(l:List Rule)(n:Nat)(C:Int->Prop):Prop:=∀j,C j->(0<=j/\j<n)/\∃r∈l,Dk r=true/\r.to_=j/\C r.from_
def cycP(l:List Rule)(n:Nat):Prop:=∃C,Yf l n C/\∃j,C j
structure KInv(l:List Rule)(n:Nat)(D:List Int)(I:Nat->Int):Prop where
 nodup:D.Nodup
 range:∀x∈D,0<=x/\x<n
 zero:∀j,j<n->((j:Int)∈D↔I j=0)
 apart:∀C,Yf l n C->∀x∈D,¬C x
theorem KInv.len{l:List Rule}{n:Nat}{D:List Int}{I:Nat->Int}(h:KInv l n D I):D.length<=n:=by
 have:=J3 h.nodup λx hx=>Sn.2 (h.range x hx);simpa [idsN] using this
def Kt(f:Nat->Int)(k:Nat):List Int:=((List.range k).filter λj=>decide (f j=0)).map λ(j:Nat)=>(j:Int)
theorem ZU(f:Nat->Int)(k:Nat):Kt f (k+1)=if f k=0 then Kt f k++[(k:Int)] else Kt f k:=by
 rw[Kt,FY,CF,Aw];split
 ·rename_i h;simp[Kt,h]
 ·rename_i h;simp[Kt,h]
theorem z4x(f:Nat->Int)(k:Nat):(Kt f k).length<=k:=by
 have:=BI (λj=>decide (f j=0)) (List.range k);simpa [Kt] using this
theorem zj4{l:List Rule}{r:Rule}{j:Nat}(hr:r∈l)(he:Dk r=true)(ht:r.to_=j):0<inD l j:=by
 have:0<(l.filter λr=>Dk r&&decide (r.to_=j)).length:=Er (Bn.2 ⟨hr,by simp[he,ht]⟩);simp only[inD];omega
theorem zb9{l:List Rule}{P:List Int}{r:Rule}{j:Nat}(hr:r∈l)(he:Dk r=true)(ht:r.to_=j)(hf:r.from_∉P):0<cntE l P j:=by
 have:0<(l.filter λr=>Dk r&&(decide (r.to_=j)&&!decide (r.from_∈P))).length:=Er (Bn.2 ⟨hr,by simp[he,ht,hf]⟩);simp only[cntE];omega
theorem ZV(l:List Rule)(n:Nat):KInv l n (Kt (inD l) n) (cntE l []) where
 nodup:=by
  rw[Kt,CE,Fz];exact ((CE.1 (DT)).filter _).imp λh e=>h (by omega)
 range x hx:=by
  obtain⟨i,hi,rfl⟩:=Ax.1 hx;have:=(Bn.1 hi).1;simp at this;omega
 zero j hj:=by
  rw[Sl];simp only[Kt,Ax,Bn,Bq,Ah];constructor
  ·rintro⟨i,⟨h1,h2⟩,e⟩
   obtain rfl:i=j:=by omega
   exact h2
  ·intro h;exact⟨j,⟨hj,h⟩,rfl⟩
 apart C hC x hx hCx:=by
  obtain⟨i,hi,rfl⟩:=Ax.1 hx;have h0:=(Bn.1 hi).2;simp only[Ah] at h0;obtain⟨_,r,hr,he,ht,_⟩:=hC _ hCx;have:=zj4 hr he ht;omega
def Gj(l:List Rule)(P:List Int)(s m:Nat)(j:Nat):Int:=cntE l P j-(((toD l s).take m).count (j:Int):Int)
theorem Q6(l:List Rule)(P:List Int)(s:Nat):Gj l P s 0=cntE l P:=by funext j;simp[Gj]
theorem z4y{l:List Rule}{P:List Int}{s:Nat}(hs:(s:Int)∉P):Gj l P s (toD l s).length=cntE l (P++[(s:Int)]):=by
 funext j;have:=Sm (j:=j) hs l;rw[Gj,A7];omega
theorem Yg{l:List Rule}{P:List Int}{s m j:Nat}(hs:(s:Int)∉P):cntE l (P++[(s:Int)]) j<=Gj l P s m j:=by
 have h1:=Sm (j:=j) hs l;have h2:=(F0 m (toD l s)).count_le (j:Int);rw[Gj];omega
theorem LY{l:List Rule}{P:List Int}{s m t:Nat}(hm:m<(toD l s).length)(ht:nth (toD l s) m=t):Gj l P s (m+1)=λj=>if j=t then Gj l P s m t-1 else Gj l P s m j:=by
 funext j;rw[Gj,take_at hm,List.count_append,ht];by_cases e:j=t
 ·subst e;simp[Gj];omega
 ·have h0:List.count (j:Int) [(t:Int)]=0:=List.count_eq_zero.2 (by simp;omega)
  rw[Ab e,h0,Gj];omega
theorem U5{l:List Rule}{P:List Int}{s m t:Nat}(hs:(s:Int)∉P)(hm:m<(toD l s).length)(ht:nth (toD l s) m=t):0<Gj l P s m t:=by
 have h1:=Yg (l:=l) (m:=m+1) (j:=t) hs;have h2:=zj2 l (P++[(s:Int)]) t;rw[LY hm ht] at h1;simp only[Bi] at h1;omega
theorem z4z{l:List Rule}{n:Nat}{P td:List Int}{s m t:Nat}(hs:(s:Int)∉P)(hm:m<(toD l s).length)(ht:nth (toD l s) m=t)(htn:t<n)(h:KInv l n (P++[(s:Int)]++td) (Gj l P s m)):
 KInv l n (P++[(s:Int)]++if Gj l P s m t-1=0 then td++[(t:Int)] else td) (Gj l P s (m+1)):=by
 have hp:=U5 hs hm ht
 have hno:(t:Int)∉P++[(s:Int)]++td:=λhh=>by
  have:=(h.zero t htn).1 hh;omega
 have hst:=LY (P:=P) hm ht;split
 ·rename_i h0
  rw[<-A3];refine⟨CQ.2 ⟨h.nodup,by simp,λa ha b hb=>?_⟩,λx hx=>?_,λj hj=>?_,λC hC x hx hCx=>?_⟩
  ·simp only[Am] at hb
   subst hb;exact λe=>hno (e ▸ ha)
  ·rcases Ao.1 hx with hx|hx
   ·exact h.range x hx
   ·simp only[Am] at hx;omega
  ·rw[hst,Ao,Am]
   by_cases e:j=t
   ·subst e;simp[h0]
   ·simp only[Ab e]
    rw[<-h.zero j hj];exact⟨λhh=>hh.elim id λhh=>absurd hh (by omega),.inl⟩
  ·rcases Ao.1 hx with hx|hx
   ·exact h.apart C hC x hx hCx
   ·simp only[Am] at hx
    subst hx;obtain⟨_,r,hr,he,hrt,hrf⟩:=hC _ hCx;have hf:r.from_∉P++[(s:Int)]:=λhh=>h.apart C hC _ (Ao.2 (.inl hh)) hrf;have h1:=zb9 hr he hrt hf;have h2:=Yg (l:=l) (m:=m+1) (j:=t) hs;rw[hst] at h2;simp only[Bi] at h2;omega
 ·rename_i h0
  refine⟨h.nodup,h.range,λj hj=>?_,h.apart⟩;rw[hst];by_cases e:j=t
  ·subst e;simp only[Bi];exact⟨λhh=>absurd hh hno,λhh=>absurd hh h0⟩
  ·simp only[Ab e];exact h.zero j hj
theorem z51{l:List Rule}{n:Nat}{P:List Int}(hl:∀r∈l,0<=r.from_/\r.from_<n)(h:KInv l n P (cntE l P)):P.length<n↔cycP l n:=by
 constructor
 ·intro hlt
  refine⟨λj=>(0<=j/\j<n)/\j∉P,λj hj=>⟨hj.1,?_⟩,?_⟩
  ·have h0:cntE l P j.toNat≠0:=λh0=>hj.2 (by
    have:=(h.zero j.toNat (by omega)).2 h0
    rwa [show ((j.toNat:Nat):Int)=j by omega] at this)
   have:0<(l.filter λr=>Dk r&&(decide (r.to_=(j.toNat:Nat))&&!decide (r.from_∈P))).length:=by
    simp only[cntE] at h0;omega
   obtain⟨r,hr⟩:=List.exists_mem_of_length_pos this;obtain⟨h1,h2⟩:=Bn.1 hr;simp only[Ac,Ah,AA,AQ] at h2;exact⟨r,h1,h2.1,by rw[h2.2.1];omega,hl r h1,h2.2.2⟩
  ·refine AN λhno=>?_
   have:=J3 (z4w n) λx hx=>AN λhp=>hno ⟨x,Sn.1 hx,hp⟩;simp[idsN] at this;omega
 ·rintro⟨C,hC,j,hj⟩
  have hr:=(hC j hj).1;have hjP:j∉P:=λhh=>h.apart C hC j hh hj
  have:=J3 (a:=j::P) (b:=idsN n) (BN.2 ⟨hjP,h.nodup⟩) λx hx=>by
   rcases Af.1 hx with rfl|hx
   ·exact Sn.2 hr
   ·exact Sn.2 (h.range x hx)
  simp[idsN] at this;omega
def onF(l:List Rule)(on:Nat->Bool)(j:Nat):Bool:=l.any λr=>Dk r&&(on r.from_.toNat&&decide (r.to_=j))
def onK(l:List Rule):Nat->Nat->Bool
 |0=>λ_=>true
 |k+1=>onF l (onK l k)
def ZW(l:List Rule)(on:Nat->Bool):Bool:=l.any λr=>Dk r&&on r.from_.toNat
def cycR(l:List Rule)(n:Nat):Bool:=(List.range (n+1)).all λk=>ZW l (onK l k)
theorem zba{l:List Rule}{p q:Nat->Bool}(h:∀j,p j=true->q j=true)(j:Nat):onF l p j=true->onF l q j=true:=by
 simp only[onF,Cl,Ac,Ah];rintro⟨r,hr,h1,h2,h3⟩;exact⟨r,hr,h1,h _ h2,h3⟩
theorem So(l:List Rule):∀(k j:Nat),onK l (k+1) j=true->onK l k j=true
 |0,j,_=>rfl
 |k+1,j,h=>zba (λj=>So l k j) j h
theorem filter_lt{p q:Nat->Bool}(h:∀j,p j=true->q j=true):∀{l:List Nat}{x:Nat},x∈l->q x=true->p x=false->(l.filter p).length<(l.filter q).length
 |[],_,hx,_,_=>by cases hx
 |y::l,x,hx,hq,hp=>by
  have hle:∀l:List Nat,(l.filter p).length<=(l.filter q).length:=λl=>by
   induction l with
   |nil=>simp
   |cons a l ih =>
    simp only[Cg];have:=h a;cases hpa:p a<;>cases hqa:q a<;>simp_all<;>omega
  simp only[Cg];rcases Af.1 hx with rfl|hx
  ·have:=hle l
   simp only[hp,hq,A8,Bt,Bi,List.length_cons];omega
  ·have ih:=filter_lt h hx hq hp
   have:=h y;cases hpa:p y<;>cases hqa:q y<;>simp_all<;>omega
theorem zbb{l:List Rule}{n:Nat}(hl:∀r∈l,(0<=r.from_/\r.from_<n)/\0<=r.to_/\r.to_<n):cycR l n=true↔cycP l n:=by
 rw[cycR,AP];constructor
 ·intro h
  have hex:∃k,k<=n/\∀j,j<n->onK l k j=true->onK l (k+1) j=true:=by
   refine AN λhno=>?_
   have hstep:∀k,k<=n->∃j,j<n/\onK l k j=true/\onK l (k+1) j=false:=λk hk=>AN λhc=>hno ⟨k,hk,λj hj h1=>by
    cases h2:onK l (k+1) j
    ·exact absurd ⟨j,hj,h1,h2⟩ hc
    ·rfl⟩
   have key:∀k,k<=n+1->((List.range n).filter (onK l k)).length+k<=n:=λk=>by
    induction k with
    |zero =>
     intro _;have:=BI (onK l 0) (List.range n);simpa using this
    |succ k ih =>
     intro hk;obtain⟨j,hj,h1,h2⟩:=hstep k (by omega);have:=filter_lt (λj=>So l k j) (Bq.2 hj) h1 h2;have:=ih (by omega);omega
   have:=key (n+1) (Ad _);omega
  obtain⟨k,hk,hs⟩:=hex;refine⟨λj=>0<=j/\j<n/\onK l k j.toNat=true,λj hj=>⟨⟨hj.1,hj.2.1⟩,?_⟩,?_⟩
  ·have h1:=hs j.toNat (by omega) hj.2.2
   simp only[onK,onF,Cl,Ac,Ah] at h1;obtain⟨r,hr,he,hf,ht⟩:=h1;have hb:=hl r hr;exact⟨r,hr,he,by omega,by omega,by omega,hf⟩
  ·have h1:=h k (by simp;omega)
   simp only[ZW,Cl,Ac] at h1;obtain⟨r,hr,_,hf⟩:=h1;have hb:=hl r hr;exact⟨r.from_,by omega,by omega,hf⟩
 ·rintro⟨C,hC,j,hj⟩ k _
  have key:∀k i,C i->onK l k i.toNat=true:=λk=>by
   induction k with
   |zero=>exact λ_ _=>rfl
   |succ k ih =>
    intro i hi;obtain⟨h1,r,hr,he,ht,hf⟩:=hC i hi;simp only[onK,onF,Cl,Ac,Ah];exact⟨r,hr,he,ih _ hf,by omega⟩
  obtain⟨_,r,hr,he,_,hf⟩:=hC j hj;simp only[ZW,Cl,Ac];exact⟨r,hr,he,key k _ hf⟩
end Go.Proofs.YtflibbceibjddaaGreat
