/-
  Parts of the proof that the law holds whatever the input; without conditions.
-/
import Derived.Test.YtbcjoeadpjfcfaaGreatProg
import Derived.KernelRfl
import Derived.Test.YtbcjoeadpjfcfaaGreatRM2
import Derived.Test.YtbcjoeadpjfcfaaGreatRM3
set_option linter.unusedSimpArgs false
set_option linter.unusedVariables false
set_option linter.unusedSectionVars false
set_option maxRecDepth 100000
namespace Go.Proofs.YtbcjoeadpjfcfaaGreat
open Abs
abbrev s_(n:Nat):AArg:=.slot n
abbrev k_(x:AV):AArg:=.const x
abbrev h_(a:List AArg)(k:AK):AOp:=⟨none,a,none,k⟩
abbrev m_(d:Nat)(a:List AArg)(k:AK):AOp:=⟨some d,a,none,k⟩
abbrev g_(d g:Nat)(w:Bool)(a:List AArg)(k:AK):AOp:=⟨some d,a,some (g,w),k⟩
abbrev ld:AK:=.load false 1
abbrev ln:AK:=.len false
abbrev l6:AK:=.load true 6
abbrev nt:AK:=.un .not
abbrev st:AK:=.store 1
abbrev f0_:AK:=.faddr false 0 1
abbrev f1_:AK:=.faddr false 1 1
abbrev f2_:AK:=.faddr false 2 1
abbrev f3_:AK:=.faddr false 3 1
abbrev f4_:AK:=.faddr false 4 1
abbrev f5_:AK:=.faddr false 5 1
abbrev bad_:AK:=.bin .add
abbrev bls_:AK:=.bin .lss
abbrev beq_:AK:=.bin .eql
abbrev bgt_:AK:=.bin .gtr
abbrev bsu_:AK:=.bin .sub
abbrev ble_:AK:=.bin .leq
abbrev bne_:AK:=.bin .neq
abbrev bge_:AK:=.bin .geq
abbrev a1_:AK:=.iaddr 1
abbrev a2_:AK:=.iaddr 2
abbrev a3_:AK:=.iaddr 3
abbrev a4_:AK:=.iaddr 4
abbrev a5_:AK:=.iaddr 5
abbrev a6_:AK:=.iaddr 6
abbrev v_(d a:Nat):AOp:=⟨some d,[.slot a],none,.mv⟩
abbrev z_(d:Nat):AOp:=⟨some d,[.const (.int .i64 0)],none,.mv⟩
abbrev i1_(d a:Nat):AOp:=⟨some d,[.slot a,.const (.int .i64 1)],none,.bin .add⟩
abbrev bf_(d:Nat):AOp:=⟨some d,[.const (.bool false)],none,.mv⟩
abbrev bt_(d:Nat):AOp:=⟨some d,[.const (.bool true)],none,.mv⟩
abbrev ns_(d:Nat):AOp:=⟨some d,[.const .nilS],none,.mv⟩
abbrev ex_(s e:Nat):AC:=.cond (.slot s) .skip (.exit e)
abbrev i_(s:Nat)(a b:AC):AC:=.cond (.slot s) a b
abbrev sr_(l:List AOp)(c:AC):AC:=.seq (.reg l) c
def JH:AC:=(sr_ [o1 1 0 .box,bf_ 2] (sr_ [z_ 3] (.seq (sr_ [o1 6 1 f4_,o1 7 6 ld,o1 8 7 ln,c2 9 8 (.int .i64 80) bgt_,v_ 10 9,g_ 11 10 false [s_ 1] f5_,g_ 12 10 false [s_ 11] ld,g_ 13 10 false [s_ 12] ln,g_ 14 10 false [s_ 13,k_ (.int .i64 80)] bgt_,m_ 15 [s_ 10,k_ (.bool true),s_ 14] .pick] (i_ 15 (sr_ [bf_ 2] .ret) .skip)) (.seq (sr_ [z_ 4] (.block 0 (.loop (.seq (sr_ [v_ 16 4,o1 17 1 f4_,o1 18 17 ld,o1 19 18 ln,o2 20 16 19 bls_] (ex_ 20 0)) (.seq (.block 1 (.dreg [v_ 23 3,o1 24 1 f4_,o1 25 24 ld,v_ 26 4,o2 27 25 26 a5_,o1 28 27 f2_,o1 29 28 ld,o1 30 1 f4_,o1 31 30 ld,v_ 32 4,o2 33 31 32 a5_,o1 34 33 f4_,o1 35 34 ld,k2 36 43 29 35,o2 37 23 36 bad_,v_ 3 37])) (.reg [v_ 21 4,i1_ 22 21,v_ 4 22])))))) (.seq (sr_ [z_ 5] (.block 2 (.loop (.seq (sr_ [v_ 38 5,o1 39 1 f5_,o1 40 39 ld,o1 41 40 ln,o2 42 38 41 bls_] (ex_ 42 2)) (.seq (.block 3 (.dreg [v_ 45 3,o1 46 1 f5_,o1 47 46 ld,v_ 48 5,o2 49 47 48 a3_,o1 50 49 f1_,o1 51 50 ld,o1 52 1 f5_,o1 53 52 ld,v_ 54 5,o2 55 53 54 a3_,o1 56 55 f2_,o1 57 56 ld,k2 58 43 51 57,o2 59 45 58 bad_,v_ 3 59])) (.reg [v_ 43 5,i1_ 44 43,v_ 5 44])))))) (sr_ [v_ 60 3,c2 61 60 (.int .i64 1500) ble_,v_ 2 61] .ret))))))
theorem OY:Bp Tryz.prog 15 1=some ⟨62,1,[(.slot 2)],JH⟩:=by kernel_rfl
def JI:AC:=(sr_ [o1 2 0 .box,bf_ 4] (sr_ [o1 5 2 l6,k1 6 15 5,o1 7 6 nt,v_ 8 7,g_ 9 8 false [s_ 1] .mv,g_ 10 8 false [s_ 9] ln,g_ 11 8 false [s_ 10,k_ (.int .i64 12)] bgt_,g_ 12 8 false [s_ 11] .mv,g1 13 12 1 .mv,g1 14 12 13 ln,g_ 15 12 true [s_ 14,k_ (.int .i64 1024)] ble_,g_ 16 8 false [s_ 12,s_ 15,k_ (.bool false)] .pick,m_ 17 [s_ 8,k_ (.bool true),s_ 16] .pick,v_ 4 17] .ret))
theorem OZ:Bp Tryz.prog 23 2=some ⟨18,2,[(.slot 4)],JI⟩:=by kernel_rfl
def JJ:AC:=(sr_ [bf_ 0] (sr_ [m_ 7 [k_ (.int .i64 97),k_ (.int .i64 97)] (.build [(.int .i64 0),(.int .i64 0)] [(0,1),(1,1)] [0,1]),o1 8 7 (.bslice 2 1 (.agg [(.int .i64 0),(.int .i64 0)]) [0]),o1 9 8 (.bslice 1 1 .nilS [0]),v_ 1 9] (sr_ [o0 10 (.build [(.int .i64 0),.nilS,.nilS] [(0,1),(1,1),(2,1)] []),o1 11 10 (.bslice 3 1 (.agg [(.int .i64 0),.nilS,.nilS]) [0]),v_ 12 1,m_ 13 [k_ (.int .i64 21),k_ (.int .i64 120)] (.build [(.int .i64 0),(.int .i64 0),(.int .i64 0),(.int .i64 0),(.int .i64 0),.nilS] [(0,1),(1,1),(2,1),(3,1),(4,1),(5,1)] [2,4]),o1 14 13 (.bslice 6 1 (.agg [(.int .i64 0),(.int .i64 0),(.int .i64 0),(.int .i64 0),(.int .i64 0),.nilS]) [0]),m_ 15 [s_ 12,k_ (.int .i64 1),s_ 14] (.build [(.int .i64 0),(.int .i64 0),.nilS,(.int .i64 0),.nilS] [(0,1),(1,1),(2,1),(3,1),(4,1)] [2,3,4]),v_ 16 1,m_ 17 [k_ (.int .i64 21),k_ (.int .i64 121)] (.build [(.int .i64 0),(.int .i64 0),(.int .i64 0),(.int .i64 0),(.int .i64 0),.nilS] [(0,1),(1,1),(2,1),(3,1),(4,1),(5,1)] [2,4]),o1 18 17 (.bslice 6 1 (.agg [(.int .i64 0),(.int .i64 0),(.int .i64 0),(.int .i64 0),(.int .i64 0),.nilS]) [0]),m_ 19 [s_ 16,k_ (.int .i64 1),s_ 18] (.build [(.int .i64 0),(.int .i64 0),.nilS,(.int .i64 0),.nilS] [(0,1),(1,1),(2,1),(3,1),(4,1)] [2,3,4]),o2 20 15 19 (.bslice 5 2 (.agg [(.int .i64 0),(.int .i64 0),.nilS,(.int .i64 0),.nilS]) [0,1]),m_ 21 [k_ (.int .i64 1),k_ (.int .i64 1),k_ (.int .i64 1),s_ 11,s_ 20] (.build [(.int .i64 0),(.int .i64 0),(.int .i64 0),(.int .i64 0),.nilS,.nilS] [(0,1),(1,1),(2,1),(3,1),(4,1),(5,1)] [0,1,2,5,4]),o0 2 (.alloc (.agg [(.int .i64 0),(.int .i64 0),(.int .i64 0),(.int .i64 0),.nilS,.nilS]) 6),n2 2 21 (.store 6)] (sr_ [o1 23 2 l6,m_ 24 [k_ (.int .i32 97),k_ (.int .i32 97)] (.bslice 1 2 (.int .i32 0) [0,1]),m_ 25 [k_ (.fn 26 []),s_ 23,s_ 24,k_ (.int .i64 4)] .call,v_ 22 25,o1 26 22 (.extract 0),o1 27 22 (.extract 1),v_ 3 26,v_ 4 27] (sr_ [o1 29 2 l6,m_ 30 [k_ (.int .i32 97),k_ (.int .i32 97)] (.bslice 1 2 (.int .i32 0) [0,1]),m_ 31 [k_ (.fn 26 []),s_ 29,s_ 30,k_ (.int .i64 3)] .call,v_ 28 31,o1 32 28 (.extract 0),o1 33 28 (.extract 1),v_ 5 32,v_ 6 33] (sr_ [v_ 34 4,c2 35 34 (.int .i64 0) beq_,v_ 36 35,g1 37 36 3 .mv,g1 38 36 37 ln,g_ 39 36 true [s_ 38,k_ (.int .i64 4)] beq_,m_ 40 [s_ 36,s_ 39,k_ (.bool false)] .pick,v_ 41 40,g1 42 41 3 .mv,g_ 43 41 true [s_ 42,k_ (.int .i64 1)] a1_,g1 44 41 43 ld,g1 45 41 44 .runStr,g_ 46 41 true [s_ 45,k_ (.str [120,121])] beq_,m_ 47 [s_ 41,s_ 46,k_ (.bool false)] .pick,v_ 48 47,g1 49 48 6 .mv,g_ 50 48 true [s_ 49,k_ (.int .i64 5)] beq_,m_ 51 [s_ 48,s_ 50,k_ (.bool false)] .pick,v_ 0 51] .ret))))))
theorem Pa:Bp Tryz.prog 24 0=some ⟨52,0,[(.slot 0)],JJ⟩:=by kernel_rfl
def Gm:AC:=(sr_ [o1 3 0 .box,o1 5 2 .box,ns_ 6,z_ 7] (.seq (sr_ [o1 12 3 l6,v_ 13 1,k2 14 59 12 13,v_ 8 14] (sr_ [v_ 15 8,c2 16 15 (.int .i64 0) bne_] (i_ 16 (sr_ [v_ 17 8,ns_ 6,v_ 7 17] .ret) .skip))) (.seq (sr_ [o1 18 5 ld,c2 19 18 (.int .i64 1) bls_] (i_ 19 (sr_ [ns_ 6,c1 7 (.int .i64 1) .mv] .ret) .skip)) (sr_ [o1 20 3 l6,v_ 21 1,k2 22 60 20 21,o0 9 (.alloc .nilP 1),n2 9 22 st] (sr_ [o1 23 9 ld,o1 24 23 .nilCheck,o1 25 24 (.faddr false 10 1),o1 26 25 ld,o1 27 26 ln,o2 28 27 27 (.mkSlice 1 24 .nilS),o0 10 (.alloc .nilS 1),n2 10 28 st] (sr_ [o0 11 (.alloc (.bool false) 1),h_ [s_ 11,k_ (.bool false)] st] (sr_ [o1 29 9 ld,m_ 30 [s_ 11,s_ 9,s_ 3,s_ 10,s_ 5] (.mkFunc 62),k2 31 61 29 30] (.seq (sr_ [o1 32 11 ld] (i_ 32 (sr_ [ns_ 6,c1 7 (.int .i64 5) .mv] .ret) .skip)) (sr_ [o1 33 10 ld,o1 34 3 f3_,o1 35 34 ld,o2 36 33 35 a1_,o1 37 36 ld,v_ 6 37,z_ 7] .ret)))))))))
theorem H0:Bp Tryz.prog 26 3=some ⟨38,3,[(.slot 6),(.slot 7)],Gm⟩:=by kernel_rfl
def H5:AC:=(sr_ [o1 3 0 .box,o1 5 2 .box,bf_ 6,z_ 7] (.seq (sr_ [o1 11 3 l6,v_ 12 1,k2 13 59 11 12,v_ 8 13] (sr_ [v_ 14 8,c2 15 14 (.int .i64 0) bne_] (i_ 15 (sr_ [v_ 16 8,bf_ 6,v_ 7 16] .ret) .skip))) (sr_ [o1 17 3 l6,v_ 18 1,k2 19 60 17 18,o0 9 (.alloc .nilP 1),n2 9 19 st] (sr_ [o1 20 9 ld,o1 21 20 .nilCheck,o1 22 21 (.faddr false 10 1),o1 23 22 ld,o1 24 23 ln,o2 25 24 24 (.mkSlice 1 24 .nilS),o0 10 (.alloc .nilS 1),n2 10 25 st] (sr_ [o1 26 9 ld,m_ 27 [s_ 5,s_ 9,s_ 3,s_ 10] (.mkFunc 80),k2 28 61 26 27] (.seq (.dreg [o1 29 10 ld,o1 30 3 f3_,o1 31 30 ld,o2 32 29 31 a1_,o1 33 32 ld,o1 34 5 ld,o1 35 34 ln,o2 36 33 35 a1_,o1 37 36 ld,v_ 6 37,z_ 7]) .ret))))))
theorem JK:Bp Tryz.prog 37 3=some ⟨38,3,[(.slot 6),(.slot 7)],H5⟩:=by kernel_rfl
def KD:AC:=(sr_ [o1 1 0 .box,z_ 2] (.seq (sr_ [o1 6 1 l6,k1 7 82 6,v_ 5 7,o1 8 5 (.extract 0),o1 9 5 (.extract 1),v_ 3 8,v_ 4 9] (sr_ [v_ 10 3,c2 11 10 (.int .i64 0) bne_] (i_ 11 (sr_ [c1 2 (.int .i64 2) .mv] .ret) .skip))) (sr_ [z_ 2] .ret)))
theorem QN:Bp Tryz.prog 39 1=some ⟨12,1,[(.slot 2)],KD⟩:=by kernel_rfl
def KE:AC:=(sr_ [z_ 4] (.seq (sr_ [v_ 8 0,o1 9 8 ln,c2 10 9 (.int .i64 100) bgt_,v_ 11 10,g_ 12 11 false [s_ 1] .mv,g_ 13 11 false [s_ 12] ln,g_ 14 11 false [s_ 13,k_ (.int .i64 200)] bgt_,m_ 15 [s_ 11,k_ (.bool true),s_ 14] .pick] (i_ 15 (sr_ [c1 4 (.int .i64 4000) .mv] .ret) .skip)) (sr_ [c1 5 (.int .i64 1) .mv] (.seq (sr_ [z_ 6] (.block 0 (.loop (.seq (sr_ [v_ 16 6,v_ 17 0,o1 18 17 ln,o2 19 16 18 bls_] (ex_ 19 0)) (.seq (.block 1 (.reg [v_ 22 5,v_ 23 0,v_ 24 6,o2 25 23 24 a1_,o1 26 25 ld,o1 27 26 ln,c2 28 27 (.int .i64 4000) .min,o2 29 22 28 bad_,v_ 5 29])) (.reg [v_ 20 6,i1_ 21 20,v_ 6 21])))))) (.seq (sr_ [z_ 7] (.block 2 (.loop (.seq (sr_ [v_ 30 7,v_ 31 1,o1 32 31 ln,o2 33 30 32 bls_] (ex_ 33 2)) (.seq (.block 3 (.reg [v_ 36 5,i1_ 37 36,v_ 38 1,v_ 39 7,o2 40 38 39 a6_,o1 41 40 f5_,o1 42 41 ld,o1 43 42 ln,c2 44 43 (.int .i64 4000) .min,o2 45 37 44 bad_,v_ 5 45])) (.reg [v_ 34 7,i1_ 35 34,v_ 7 35])))))) (sr_ [v_ 46 5,v_ 4 46] .ret))))))
theorem QO:Bp Tryz.prog 43 2=some ⟨47,2,[(.slot 4)],KE⟩:=by kernel_rfl
def Ma:AC:=(sr_ [o1 2 0 .box,z_ 4] (.seq (.block 0 (sr_ [o1 6 2 l6,k1 7 39 6,c2 8 7 (.int .i64 0) bne_,v_ 5 8] (i_ 5 (sr_ [c1 4 (.int .i64 2) .mv] .ret) (sr_ [v_ 10 1,o1 11 10 ln,c2 12 11 (.int .i64 1024) bgt_,v_ 9 12] (i_ 9 (sr_ [c1 4 (.int .i64 4) .mv] .ret) (sr_ [o1 14 2 f0_,o1 15 14 ld,v_ 16 1,k2 17 100 15 16,o1 18 17 nt,v_ 13 18] (i_ 13 (sr_ [c1 4 (.int .i64 1) .mv] .ret) .skip))))))) (sr_ [z_ 4] .ret)))
theorem S6:Bp Tryz.prog 59 2=some ⟨19,2,[(.slot 4)],Ma⟩:=by kernel_rfl
def Mb:AC:=(sr_ [o1 2 0 .box,c1 4 .nilP .mv] (.seq (.gry [true,false,true,true,false,true,true,false,false,false,false,false] [m_ 18 [s_ 2] l6,m_ 19 [s_ 1] .mv,m_ 20 [s_ 2] f2_,m_ 21 [s_ 20] ld,m_ 22 [s_ 21,s_ 21] (.mkSlice 1 24 .nilS),m_ 23 [s_ 2] f2_,m_ 24 [s_ 23] ld,m_ 25 [s_ 24,s_ 24] (.mkSlice 1 24 .nilS),m_ 26 [s_ 18,s_ 19,s_ 22,s_ 25] (.build [(.int .i64 0),(.int .i64 0),(.int .i64 0),(.int .i64 0),.nilS,.nilS,.nilS,.nilS,.nilS,.nilS,.nilS] [(0,6),(6,1),(7,1),(8,1),(9,1),(10,1)] [0,1,2,3]),m_ 27 [s_ 26] .box,m_ 5 [] (.alloc .nilP 1),h_ [s_ 5,s_ 27] st]) (.seq (sr_ [o1 28 2 f4_,o1 29 28 ld,o1 30 29 ln,z_ 31] (.block 0 (.loop (sr_ [o2 32 31 30 bls_] (.seq (ex_ 32 0) (.seq (.block 1 (sr_ [v_ 33 31,o2 34 29 31 a5_,o1 35 34 (.load true 5),o0 7 (.alloc (.agg [(.int .i64 0),(.int .i64 0),.nilS,(.int .i64 0),.nilS]) 5),v_ 6 33,n2 7 35 (.store 5)] (.grx [true,false,true,true,true,true,true,false,true,true,true,true,true,false,false,false,false,false,false] [m_ 36 [s_ 5] ld,m_ 37 [s_ 36] .nilCheck,m_ 38 [s_ 37] (.faddr false 7 1),m_ 39 [s_ 38] ld,m_ 40 [s_ 7] f0_,m_ 41 [s_ 40] ld,m_ 42 [s_ 5] ld,m_ 43 [s_ 42] .nilCheck,m_ 44 [s_ 43] (.faddr false 7 1),m_ 45 [s_ 44] ld,m_ 46 [s_ 7] f0_,m_ 47 [s_ 46] ld,m_ 48 [s_ 45,s_ 47] a1_,m_ 49 [s_ 48] ld,m_ 50 [s_ 6] .mv,m_ 51 [s_ 50] (.bslice 1 1 (.int .i64 0) [0]),m_ 52 [s_ 49,s_ 51] (.app 1 8 (.int .i64 0)),m_ 53 [s_ 39,s_ 41] a1_,h_ [s_ 53,s_ 52] st]))) (.reg [i1_ 54 31,v_ 31 54]))))))) (.seq (sr_ [o1 55 2 f5_,o1 56 55 ld,o1 57 56 ln,z_ 58] (.block 2 (.loop (sr_ [o2 59 58 57 bls_] (.seq (ex_ 59 2) (.seq (.block 3 (sr_ [v_ 60 58,o2 61 56 58 a3_,o1 62 61 (.load true 3),o0 9 (.alloc (.agg [(.int .i64 0),.nilS,.nilS]) 3),v_ 8 60,n2 9 62 (.store 3)] (.grx [true,false,true,true,true,true,true,false,true,true,true,true,true,false,false,false,false,false,false] [m_ 63 [s_ 5] ld,m_ 64 [s_ 63] .nilCheck,m_ 65 [s_ 64] (.faddr false 8 1),m_ 66 [s_ 65] ld,m_ 67 [s_ 9] f0_,m_ 68 [s_ 67] ld,m_ 69 [s_ 5] ld,m_ 70 [s_ 69] .nilCheck,m_ 71 [s_ 70] (.faddr false 8 1),m_ 72 [s_ 71] ld,m_ 73 [s_ 9] f0_,m_ 74 [s_ 73] ld,m_ 75 [s_ 72,s_ 74] a1_,m_ 76 [s_ 75] ld,m_ 77 [s_ 8] .mv,m_ 78 [s_ 77] (.bslice 1 1 (.int .i64 0) [0]),m_ 79 [s_ 76,s_ 78] (.app 1 8 (.int .i64 0)),m_ 80 [s_ 66,s_ 68] a1_,h_ [s_ 80,s_ 79] st]))) (.reg [i1_ 81 58,v_ 58 81]))))))) (sr_ [o1 82 2 f2_,o1 83 82 ld,o2 84 83 83 (.mkSlice 1 1 (.bool false)),v_ 10 84] (.seq (sr_ [o1 85 2 f2_,o1 86 85 ld,z_ 87] (.block 4 (.loop (sr_ [o2 88 87 86 bls_] (.seq (ex_ 88 4) (.seq (.block 5 (sr_ [v_ 89 87,v_ 11 89] (.reg [o1 90 5 ld,v_ 91 11,v_ 92 10,k3 93 101 90 91 92]))) (.reg [i1_ 94 87,v_ 87 94]))))))) (.seq (.greg [o1 95 5 ld,v_ 96 1,o1 97 96 ln,i1_ 98 97,o1 99 2 f2_,o1 100 99 ld,o2 101 98 100 (.bin .mul),o2 102 101 101 (.mkSlice 1 1 (.bool false)),o1 103 95 .nilCheck,o1 104 103 (.faddr false 10 1),n2 104 102 st]) (.seq (.dtl [o1 105 5 ld,o1 106 105 .nilCheck,o1 107 106 (.faddr false 10 1),o1 108 107 ld,o1 109 2 f3_,o1 110 109 ld,o2 111 108 110 a1_] [h_ [s_ 111,k_ (.bool true)] st]) (.seq (sr_ [o0 12 (.alloc (.int .i64 0) 1),h_ [s_ 12,k_ (.int .i64 0)] st] (.block 6 (.loop (.seq (sr_ [o1 112 12 ld,v_ 113 1,o1 114 113 ln,o2 115 112 114 ble_] (ex_ 115 6)) (.seq (.block 7 (sr_ [o1 118 5 ld,o1 119 118 .nilCheck,o1 120 119 (.faddr false 9 1),o1 121 120 ld,k1 122 102 121] (.block 8 (.rng (.slot 122) [123,124] (.reg [v_ 14 124]) (.block 9 (.seq (.seq (.dreg [o1 125 5 ld,o1 126 125 .nilCheck,o1 127 126 (.faddr false 10 1),o1 128 127 ld,o1 129 12 ld,o1 130 2 f2_,o1 131 130 ld,o2 132 129 131 (.bin .mul),v_ 133 14,o2 134 132 133 bad_,o2 135 128 134 a1_,o1 136 135 ld,o1 137 136 nt]) (i_ 137 (.exit 9) .skip)) (sr_ [o1 138 5 ld,o1 139 138 .nilCheck,o1 140 139 (.faddr false 7 1),o1 141 140 ld,v_ 142 14,o2 143 141 142 a1_,o1 144 143 ld,o1 145 144 ln,z_ 146] (.block 10 (.loop (sr_ [o2 147 146 145 bls_] (.seq (ex_ 147 10) (.seq (.block 11 (sr_ [o2 148 144 146 a1_,o1 149 148 ld,v_ 16 149] (sr_ [o1 150 2 f4_,o1 151 150 ld,v_ 152 16,o2 153 151 152 a5_,o1 154 153 (.load true 5),o0 17 (.alloc (.agg [(.int .i64 0),(.int .i64 0),.nilS,(.int .i64 0),.nilS]) 5),n2 17 154 (.store 5)] (sr_ [o1 155 5 ld,o1 156 17 f2_,o1 157 156 ld,o1 158 12 ld,k3 159 65 155 157 158] (i_ 159 (.dtl [o1 160 5 ld,o1 161 160 .nilCheck,o1 162 161 (.faddr false 10 1),o1 163 162 ld,o1 164 12 ld,o1 165 17 f3_,o1 166 165 ld,o2 167 164 166 bad_,o1 168 2 f2_,o1 169 168 ld,o2 170 167 169 (.bin .mul),o1 171 17 f1_,o1 172 171 ld,o2 173 170 172 bad_,o2 174 163 173 a1_] [h_ [s_ 174,k_ (.bool true)] st]) .skip))))) (.reg [i1_ 175 146,v_ 146 175]))))))))))))) (.seq (sr_ [o1 176 12 ld] (.reg [o0 12 (.alloc (.int .i64 0) 1),n2 12 176 st])) (.reg [o1 116 12 ld,i1_ 117 116,n2 12 117 st]))))))) (sr_ [o1 177 5 ld,v_ 4 177] .ret))))))))))
theorem S7:Bp Tryz.prog 60 2=some ⟨178,2,[(.slot 4)],Mb⟩:=by kernel_rfl
def Hc:AC:=(sr_ [v_ 7 0,o1 8 7 .nilCheck,o1 9 8 (.faddr false 6 1),o1 10 9 ld,o1 11 10 ln,v_ 4 11] (.block 0 (.loop (.seq (sr_ [v_ 12 4,c2 13 12 (.int .i64 0) bge_] (ex_ 13 0)) (.seq (.block 1 (sr_ [v_ 16 0,o1 17 16 .nilCheck,o1 18 17 (.faddr false 9 1),o1 19 18 ld,o1 20 19 ln,z_ 21] (.block 2 (.loop (sr_ [o2 22 21 20 bls_] (.seq (ex_ 22 2) (.seq (.block 3 (sr_ [o2 23 19 21 a1_,o1 24 23 ld,v_ 6 24] (.seq (.dreg [v_ 25 0,o1 26 25 .nilCheck,o1 27 26 (.faddr false 10 1),o1 28 27 ld,v_ 29 4,v_ 30 0,o1 31 30 .nilCheck,o1 32 31 (.faddr true 0 6),o1 33 32 f2_,o1 34 33 ld,o2 35 29 34 (.bin .mul),v_ 36 6,o2 37 35 36 bad_,o2 38 28 37 a1_,o1 39 38 ld]) (i_ 39 (.reg [v_ 40 1,v_ 41 4,v_ 42 6,o3 43 40 41 42 .call]) .skip)))) (.reg [i1_ 44 21,v_ 21 44])))))))) (.reg [v_ 14 4,c2 15 14 (.int .i64 1) bsu_,v_ 4 15]))))))
theorem Kq:Bp Tryz.prog 61 2=some ⟨45,2,[],Hc⟩:=by kernel_rfl
def Ib:AC:=(.seq (sr_ [o1 19 2 ld] (i_ 19 .ret .skip)) (sr_ [ns_ 9] (.seq (sr_ [o1 20 3 ld,o1 21 20 .nilCheck,o1 22 21 (.faddr false 8 1),o1 23 22 ld,v_ 24 1,o2 25 23 24 a1_,o1 26 25 ld,o1 27 26 ln,z_ 28] (.block 0 (.loop (sr_ [o2 29 28 27 bls_] (.seq (ex_ 29 0) (.seq (.block 1 (sr_ [o2 30 26 28 a1_,o1 31 30 ld,v_ 11 31] (sr_ [o1 32 4 f5_,o1 33 32 ld,v_ 34 11,o2 35 33 34 a3_,o1 36 35 (.load true 3),o0 12 (.alloc (.agg [(.int .i64 0),.nilS,.nilS]) 3),n2 12 36 (.store 3)] (sr_ [o1 37 3 ld,o1 38 12 (.load true 3),v_ 39 0,k3 40 63 37 38 39] (i_ 40 (.reg [v_ 41 9,o1 42 3 ld,o1 43 12 f2_,o1 44 43 ld,v_ 45 0,o1 46 12 f1_,o1 47 46 ld,o1 48 47 ln,m_ 49 [k_ (.fn 64 []),s_ 42,s_ 44,s_ 45,s_ 48] .call,o1 50 49 (.bslice 1 1 .nilS [0]),o2 51 41 50 (.app 1 24 .nilS),v_ 9 51]) .skip))))) (.reg [i1_ 52 28,v_ 28 52]))))))) (.seq (sr_ [o1 53 3 ld,o1 54 53 .nilCheck,o1 55 54 (.faddr false 7 1),o1 56 55 ld,v_ 57 1,o2 58 56 57 a1_,o1 59 58 ld,o1 60 59 ln,z_ 61] (.block 2 (.loop (sr_ [o2 62 61 60 bls_] (.seq (ex_ 62 2) (.seq (.block 3 (sr_ [o2 63 59 61 a1_,o1 64 63 ld,v_ 14 64] (sr_ [o1 65 4 f4_,o1 66 65 ld,v_ 67 14,o2 68 66 67 a5_,o1 69 68 (.load true 5),o0 15 (.alloc (.agg [(.int .i64 0),(.int .i64 0),.nilS,(.int .i64 0),.nilS]) 5),n2 15 69 (.store 5)] (.seq (sr_ [o1 70 3 ld,o1 71 15 f2_,o1 72 71 ld,v_ 73 0,k3 74 65 70 72 73,o1 75 74 nt] (i_ 75 (.exit 3) .skip)) (sr_ [o1 76 3 ld,o1 77 15 f4_,o1 78 77 ld,v_ 79 0,o1 80 15 f2_,o1 81 80 ld,o1 82 81 ln,m_ 83 [k_ (.fn 64 []),s_ 76,s_ 78,s_ 79,s_ 82] .call,v_ 16 83] (sr_ [o1 84 5 ld,v_ 85 0,o1 86 15 f3_,o1 87 86 ld,o2 88 85 87 bad_,o1 89 4 f2_,o1 90 89 ld,o2 91 88 90 (.bin .mul),o1 92 15 f1_,o1 93 92 ld,o2 94 91 93 bad_,o2 95 84 94 a1_,o1 96 95 ld,o1 97 96 ln,z_ 98] (.block 4 (.loop (sr_ [o2 99 98 97 bls_] (.seq (ex_ 99 4) (.seq (.block 5 (sr_ [o2 100 96 98 a1_,o1 101 100 ld,v_ 18 101] (.reg [v_ 102 9,v_ 103 16,v_ 104 18,o2 105 103 104 (.bslice 1 2 .nilS [0,1]),k1 106 66 105,o1 107 106 (.bslice 1 1 .nilS [0]),o2 108 102 107 (.app 1 24 .nilS),v_ 9 108]))) (.reg [i1_ 109 98,v_ 98 109])))))))))))) (.reg [i1_ 110 61,v_ 61 110]))))))) (sr_ [v_ 111 9,k1 112 67 111,v_ 9 112] (sr_ [v_ 113 9,o1 114 113 ln,o1 115 6 ld,o2 116 114 115 bgt_,n2 2 116 st] (.reg [o1 117 5 ld,v_ 118 0,o1 119 4 f2_,o1 120 119 ld,o2 121 118 120 (.bin .mul),v_ 122 1,o2 123 121 122 bad_,v_ 124 9,o2 125 117 123 a1_,n2 125 124 st])))))))
theorem Mc:Bp Tryz.prog 62 7=some ⟨126,7,[],Ib⟩:=by kernel_rfl
def Hd:AC:=(sr_ [o1 4 1 .box,bf_ 6] (.seq (.dtl [o1 7 4 f1_,o1 8 7 ld,o1 9 8 ln,v_ 10 0,o1 11 10 .nilCheck,o1 12 11 (.faddr false 6 1),o1 13 12 ld,o1 14 13 ln,v_ 15 2,o2 16 14 15 bsu_,o2 17 9 16 beq_,v_ 18 17,g1 19 18 0 .mv,g1 20 18 4 f1_,g1 21 18 20 ld,g1 22 18 2 .mv] [g_ 23 18 true [k_ (.fn 65 []),s_ 19,s_ 21,s_ 22] .call,m_ 24 [s_ 18,s_ 23,k_ (.bool false)] .pick,v_ 6 24]) .ret))
theorem Kr:Bp Tryz.prog 63 3=some ⟨25,3,[(.slot 6)],Hd⟩:=by kernel_rfl
def G3:AC:=(sr_ [ns_ 8] (sr_ [ns_ 9] (.seq (sr_ [v_ 14 1,o1 15 14 ln,z_ 16] (.block 0 (.loop (sr_ [o2 17 16 15 bls_] (.seq (ex_ 17 0) (.seq (.block 1 (sr_ [o2 18 14 16 a6_,o1 19 18 l6,o0 11 (.alloc (.agg [(.int .i64 0),(.int .i64 0),(.int .i64 0),(.int .i64 0),(.int .i64 0),.nilS]) 6),n2 11 19 (.store 6)] (.seq (.dreg [o1 21 11 l6,v_ 22 0,o1 23 22 .nilCheck,o1 24 23 (.faddr false 6 1),o1 25 24 ld,v_ 26 2,v_ 27 2,v_ 28 3,o2 29 27 28 bad_,o3 30 25 26 29 (.slice 1 true true false),k2 31 103 21 30,v_ 20 31,o1 32 20 (.extract 0),o1 33 20 (.extract 1),v_ 12 32,v_ 13 33]) (.reg [v_ 34 9,v_ 35 12,o1 36 35 (.conv .i32),o1 37 36 (.bslice 1 1 (.int .i32 0) [0]),o2 38 34 37 (.app 1 4 (.int .i32 0)),v_ 9 38])))) (.reg [i1_ 39 16,v_ 16 39]))))))) (sr_ [v_ 40 9,v_ 8 40] .ret))))
theorem Jw:Bp Tryz.prog 64 4=some ⟨41,4,[(.slot 8)],G3⟩:=by kernel_rfl
def He:AC:=(sr_ [bf_ 6] (.seq (sr_ [v_ 9 1,o1 10 9 ln,v_ 11 0,o1 12 11 .nilCheck,o1 13 12 (.faddr false 6 1),o1 14 13 ld,o1 15 14 ln,v_ 16 2,o2 17 15 16 bsu_,o2 18 10 17 bgt_] (i_ 18 (sr_ [bf_ 6] .ret) .skip)) (.seq (sr_ [v_ 19 1,o1 20 19 ln,z_ 21] (.block 0 (.loop (sr_ [o2 22 21 20 bls_] (.seq (ex_ 22 0) (.seq (.block 1 (sr_ [v_ 23 21,o2 24 19 21 a1_,o1 25 24 ld,v_ 7 23,v_ 8 25] (sr_ [v_ 26 8,v_ 27 0,o1 28 27 .nilCheck,o1 29 28 (.faddr false 6 1),o1 30 29 ld,v_ 31 2,v_ 32 7,o2 33 31 32 bad_,o2 34 30 33 a1_,o1 35 34 ld,o1 36 35 (.conv .i64),k2 37 104 26 36,o1 38 37 nt] (i_ 38 (sr_ [bf_ 6] .ret) .skip)))) (.reg [i1_ 39 21,v_ 21 39]))))))) (sr_ [bt_ 6] .ret))))
theorem Ks:Bp Tryz.prog 65 3=some ⟨40,3,[(.slot 6)],He⟩:=by kernel_rfl
def Eo:AC:=(sr_ [ns_ 2] (sr_ [z_ 3] (.seq (sr_ [v_ 9 0,o1 10 9 ln,z_ 11] (.block 0 (.loop (sr_ [o2 12 11 10 bls_] (.seq (ex_ 12 0) (.seq (.block 1 (sr_ [o2 13 9 11 a1_,o1 14 13 ld,v_ 5 14] (sr_ [v_ 15 3,v_ 16 5,o1 17 16 ln,o2 18 15 17 bad_,v_ 3 18] (sr_ [v_ 19 3,c2 20 19 (.int .i64 0) bls_] (i_ 20 (.reg [c1 21 (.str [108,101,110,32,111,117,116,32,111,102,32,114,97,110,103,101]) .no,h_ [s_ 21] .no]) .skip))))) (.reg [i1_ 22 11,v_ 11 22]))))))) (sr_ [v_ 23 3,m_ 24 [k_ (.fn 105 []),k_ .nilS,s_ 23] .call,v_ 6 24] (.seq (sr_ [v_ 25 0,o1 26 25 ln,z_ 27] (.block 2 (.loop (sr_ [o2 28 27 26 bls_] (.seq (ex_ 28 2) (.seq (.block 3 (sr_ [o2 29 25 27 a1_,o1 30 29 ld,v_ 8 30] (.reg [v_ 31 6,v_ 32 8,o2 33 31 32 (.app 1 4 (.int .i32 0)),v_ 6 33]))) (.reg [i1_ 34 27,v_ 27 34]))))))) (sr_ [v_ 35 6,v_ 2 35] .ret))))))
theorem Fu:Bp Tryz.prog 66 1=some ⟨36,1,[(.slot 2)],Eo⟩:=by kernel_rfl
def Md:AC:=(sr_ [ns_ 2] (sr_ [v_ 6 0,o1 7 6 ln,o2 8 7 7 (.mkSlice 1 24 .nilS),v_ 3 8] (.seq (sr_ [v_ 9 0,o1 10 9 ln,z_ 11] (.block 0 (.loop (sr_ [o2 12 11 10 bls_] (.seq (ex_ 12 0) (.seq (.block 1 (sr_ [v_ 13 11,o2 14 9 11 a1_,o1 15 14 ld,v_ 4 13,v_ 5 15] (.reg [v_ 16 3,v_ 17 4,v_ 18 5,k1 19 106 18,o2 20 16 17 a1_,n2 20 19 st]))) (.reg [i1_ 21 11,v_ 11 21]))))))) (sr_ [v_ 22 3,m_ 23 [k_ (.fn 107 []),s_ 22,k_ (.fn 77 [])] .call] (sr_ [v_ 24 3,m_ 25 [k_ (.fn 108 []),s_ 24,k_ (.fn 109 [])] .call,v_ 2 25] .ret)))))
theorem S8:Bp Tryz.prog 67 1=some ⟨26,1,[(.slot 2)],Md⟩:=by kernel_rfl
def JL:AC:=(sr_ [ns_ 2] (.seq (sr_ [v_ 3 0] (.block 0 (sr_ [c2 5 3 (.int .i64 1) beq_,v_ 4 5] (i_ 4 (sr_ [m_ 6 [k_ (.int .i64 0),k_ (.int .i64 255)] (.build [(.int .i64 0),(.int .i64 0)] [(0,1),(1,1)] [0,1]),o1 7 6 (.bslice 2 1 (.agg [(.int .i64 0),(.int .i64 0)]) [0]),v_ 2 7] .ret) (sr_ [c2 9 3 (.int .i64 2) beq_,v_ 8 9] (i_ 8 (sr_ [m_ 10 [k_ (.int .i64 0),k_ (.int .i64 55295)] (.build [(.int .i64 0),(.int .i64 0)] [(0,1),(1,1)] [0,1]),m_ 11 [k_ (.int .i64 57344),k_ (.int .i64 1114111)] (.build [(.int .i64 0),(.int .i64 0)] [(0,1),(1,1)] [0,1]),o2 12 10 11 (.bslice 2 2 (.agg [(.int .i64 0),(.int .i64 0)]) [0,1]),v_ 2 12] .ret) .skip)))))) (sr_ [ns_ 2] .ret)))
theorem Pb:Bp Tryz.prog 72 1=some ⟨13,1,[(.slot 2)],JL⟩:=by kernel_rfl
def IY:AC:=(sr_ [z_ 4] (sr_ [v_ 6 0,v_ 7 1,k2 8 114 6 7,v_ 5 8] (.seq (.block 0 (sr_ [v_ 10 5,v_ 11 0,o1 12 11 ln,o2 13 10 12 beq_,v_ 14 13,g1 15 14 5 .mv,g1 16 14 1 .mv,g1 17 14 16 ln,g2 18 14 15 17 beq_,m_ 19 [s_ 14,s_ 18,k_ (.bool false)] .pick,v_ 9 19] (i_ 9 (sr_ [z_ 4] .ret) (sr_ [v_ 21 5,v_ 22 0,o1 23 22 ln,o2 24 21 23 beq_,v_ 20 24] (i_ 20 (sr_ [c1 4 (.int .i64 (-1)) .mv] .ret) (sr_ [v_ 26 5,v_ 27 1,o1 28 27 ln,o2 29 26 28 beq_,v_ 25 29] (i_ 25 (sr_ [c1 4 (.int .i64 1) .mv] .ret) .skip))))))) (.seq (.dtl [v_ 30 0,v_ 31 5,o2 32 30 31 a1_,o1 33 32 ld,v_ 34 1,v_ 35 5,o2 36 34 35 a1_,o1 37 36 ld] [k2 38 115 33 37,v_ 4 38]) .ret))))
theorem Nm:Bp Tryz.prog 77 2=some ⟨39,2,[(.slot 4)],IY⟩:=by kernel_rfl
def Ic:AC:=(sr_ [o1 15 2 ld,o1 16 15 ln,i1_ 17 16,o2 18 17 17 (.mkSlice 1 1 (.bool false)),v_ 8 18] (.seq (sr_ [o1 19 3 ld,o1 20 19 .nilCheck,o1 21 20 (.faddr false 8 1),o1 22 21 ld,v_ 23 1,o2 24 22 23 a1_,o1 25 24 ld,o1 26 25 ln,z_ 27] (.block 0 (.loop (sr_ [o2 28 27 26 bls_] (.seq (ex_ 28 0) (.seq (.block 1 (sr_ [o2 29 25 27 a1_,o1 30 29 ld,v_ 10 30] (sr_ [o1 31 4 f5_,o1 32 31 ld,v_ 33 10,o2 34 32 33 a3_,o1 35 34 (.load true 3),o0 11 (.alloc (.agg [(.int .i64 0),.nilS,.nilS]) 3),n2 11 35 (.store 3)] (sr_ [o1 36 3 ld,o1 37 11 (.load true 3),v_ 38 0,k3 39 63 36 37 38] (i_ 39 (.dtl [v_ 40 8,o1 41 2 ld,o1 42 3 ld,o1 43 11 f2_,o1 44 43 ld,v_ 45 0,o1 46 11 f1_,o1 47 46 ld,o1 48 47 ln,m_ 49 [k_ (.fn 64 []),s_ 42,s_ 44,s_ 45,s_ 48] .call] [m_ 50 [k_ (.fn 81 []),s_ 40,s_ 41,s_ 49,k_ .nilS] .call]) .skip))))) (.reg [i1_ 51 27,v_ 27 51]))))))) (.seq (sr_ [o1 52 3 ld,o1 53 52 .nilCheck,o1 54 53 (.faddr false 7 1),o1 55 54 ld,v_ 56 1,o2 57 55 56 a1_,o1 58 57 ld,o1 59 58 ln,z_ 60] (.block 2 (.loop (sr_ [o2 61 60 59 bls_] (.seq (ex_ 61 2) (.seq (.block 3 (sr_ [o2 62 58 60 a1_,o1 63 62 ld,v_ 13 63] (sr_ [o1 64 4 f4_,o1 65 64 ld,v_ 66 13,o2 67 65 66 a5_,o1 68 67 (.load true 5),o0 14 (.alloc (.agg [(.int .i64 0),(.int .i64 0),.nilS,(.int .i64 0),.nilS]) 5),n2 14 68 (.store 5)] (sr_ [o1 69 3 ld,o1 70 14 f2_,o1 71 70 ld,v_ 72 0,k3 73 65 69 71 72] (i_ 73 (.dtl [v_ 74 8,o1 75 2 ld,o1 76 3 ld,o1 77 14 f4_,o1 78 77 ld,v_ 79 0,o1 80 14 f2_,o1 81 80 ld,o1 82 81 ln,m_ 83 [k_ (.fn 64 []),s_ 76,s_ 78,s_ 79,s_ 82] .call,o1 84 5 ld,v_ 85 0,o1 86 14 f3_,o1 87 86 ld,o2 88 85 87 bad_,o1 89 4 f2_,o1 90 89 ld,o2 91 88 90 (.bin .mul),o1 92 14 f1_,o1 93 92 ld,o2 94 91 93 bad_,o2 95 84 94 a1_,o1 96 95 ld] [m_ 97 [k_ (.fn 81 []),s_ 74,s_ 75,s_ 83,s_ 96] .call]) .skip))))) (.reg [i1_ 98 60,v_ 60 98]))))))) (.reg [o1 99 5 ld,v_ 100 0,o1 101 4 f2_,o1 102 101 ld,o2 103 100 102 (.bin .mul),v_ 104 1,o2 105 103 104 bad_,v_ 106 8,o2 107 99 105 a1_,n2 107 106 st]))))
theorem Me:Bp Tryz.prog 80 6=some ⟨108,6,[],Ic⟩:=by kernel_rfl
def NO:AC:=(sr_ [v_ 10 0,o1 11 10 ln,z_ 12] (.block 0 (.loop (sr_ [o2 13 12 11 bls_] (.seq (ex_ 13 0) (.seq (.block 1 (sr_ [v_ 14 12,v_ 8 14] (.seq (sr_ [v_ 15 8,v_ 16 2,o1 17 16 ln,o2 18 15 17 bls_,v_ 19 18,g_ 20 19 false [s_ 1] .mv,g_ 21 19 false [s_ 1] .mv,g_ 22 19 false [s_ 21] ln,g_ 23 19 false [s_ 8] .mv,g_ 24 19 false [s_ 22,s_ 23] bsu_,g_ 25 19 false [s_ 1] .mv,g_ 26 19 false [s_ 25] ln,g_ 27 19 false [s_ 8] .mv,g_ 28 19 false [s_ 26,s_ 27] bsu_,g_ 29 19 false [s_ 2] .mv,g_ 30 19 false [s_ 29] ln,g_ 31 19 false [s_ 28,s_ 30] bad_,g_ 32 19 false [s_ 20,s_ 24,s_ 31] (.slice 1 true true false),g_ 33 19 false [s_ 2] .mv,g_ 34 19 false [k_ (.fn 116 []),s_ 32,s_ 33] .call,g_ 35 19 false [s_ 34] nt,m_ 36 [s_ 19,k_ (.bool true),s_ 35] .pick] (i_ 36 (.exit 1) .skip)) (sr_ [v_ 37 8,v_ 38 2,o1 39 38 ln,o2 40 37 39 bsu_,v_ 9 40] (sr_ [v_ 41 3,c2 42 41 .nilS (.eqn false),v_ 43 42,g1 44 43 9 .mv,g_ 45 43 true [s_ 44,k_ (.int .i64 0)] beq_,m_ 46 [s_ 43,s_ 45,k_ (.bool false)] .pick,v_ 47 46,g_ 48 47 false [s_ 3] .mv,g_ 49 47 false [s_ 48,k_ .nilS] (.eqn true),g_ 50 47 false [s_ 49] .mv,g1 51 50 3 .mv,g1 52 50 9 .mv,g2 53 50 51 52 a1_,g1 54 50 53 ld,g_ 55 47 false [s_ 50,s_ 54,k_ (.bool false)] .pick,m_ 56 [s_ 47,k_ (.bool true),s_ 55] .pick] (i_ 56 (.reg [v_ 57 0,v_ 58 8,o2 59 57 58 a1_,h_ [s_ 59,k_ (.bool true)] st]) .skip)))))) (.reg [i1_ 60 12,v_ 12 60])))))))
theorem Wg:Bp Tryz.prog 81 4=some ⟨61,4,[],NO⟩:=by kernel_rfl
def KF:AC:=(sr_ [o1 1 0 .box,z_ 2,z_ 3] (.seq (sr_ [o1 8 1 l6,k1 9 117 8,o1 10 9 nt] (i_ 10 (sr_ [c1 2 (.int .i64 1) .mv,z_ 3] .ret) .skip)) (.seq (sr_ [o1 11 1 f4_,o1 12 11 ld,o1 13 12 ln,z_ 14] (.block 0 (.loop (sr_ [o2 15 14 13 bls_] (.seq (ex_ 15 0) (.seq (.block 1 (sr_ [v_ 16 14,o2 17 12 14 a5_,o1 18 17 (.load true 5),o0 5 (.alloc (.agg [(.int .i64 0),(.int .i64 0),.nilS,(.int .i64 0),.nilS]) 5),v_ 4 16,n2 5 18 (.store 5)] (sr_ [o1 19 1 l6,o1 20 5 (.load true 5),k2 21 118 19 20,o1 22 21 nt] (i_ 22 (sr_ [v_ 23 4,c1 2 (.int .i64 2) .mv,v_ 3 23] .ret) .skip)))) (.reg [i1_ 24 14,v_ 14 24]))))))) (.seq (sr_ [o1 25 1 f5_,o1 26 25 ld,o1 27 26 ln,z_ 28] (.block 2 (.loop (sr_ [o2 29 28 27 bls_] (.seq (ex_ 29 2) (.seq (.block 3 (sr_ [v_ 30 28,o2 31 26 28 a3_,o1 32 31 (.load true 3),o0 7 (.alloc (.agg [(.int .i64 0),.nilS,.nilS]) 3),v_ 6 30,n2 7 32 (.store 3)] (sr_ [o1 33 1 l6,o1 34 7 f0_,o1 35 34 ld,k2 36 119 33 35,o1 37 36 nt,v_ 38 37,g_ 39 38 false [s_ 1] f0_,g_ 40 38 false [s_ 39] ld,g_ 41 38 false [s_ 7] f1_,g_ 42 38 false [s_ 41] ld,g_ 43 38 false [k_ (.fn 120 []),s_ 40,s_ 42] .call,g_ 44 38 false [s_ 43] nt,m_ 45 [s_ 38,k_ (.bool true),s_ 44] .pick,v_ 46 45,g_ 47 46 false [s_ 1] l6,g_ 48 46 false [s_ 7] f2_,g_ 49 46 false [s_ 48] ld,g_ 50 46 false [s_ 7] f1_,g_ 51 46 false [s_ 50] ld,g_ 52 46 false [k_ (.fn 121 []),s_ 47,s_ 49,s_ 51] .call,g_ 53 46 false [s_ 52] nt,m_ 54 [s_ 46,k_ (.bool true),s_ 53] .pick] (i_ 54 (sr_ [v_ 55 6,c1 2 (.int .i64 3) .mv,v_ 3 55] .ret) .skip)))) (.reg [i1_ 56 28,v_ 28 56]))))))) (.seq (sr_ [o1 57 1 l6,k1 58 122 57] (i_ 58 (sr_ [c1 2 (.int .i64 4) .mv,z_ 3] .ret) .skip)) (sr_ [z_ 2,z_ 3] .ret))))))
theorem QP:Bp Tryz.prog 82 1=some ⟨59,1,[(.slot 2),(.slot 3)],KF⟩:=by kernel_rfl
set_option maxRecDepth 100000
def Mf:AC:=(sr_ [bf_ 4] (.seq (sr_ [v_ 7 1,o1 8 7 ln,z_ 9] (.block 0 (.loop (sr_ [o2 10 9 8 bls_] (.seq (ex_ 10 0) (.seq (.block 1 (sr_ [o2 11 7 9 a1_,o1 12 11 ld,v_ 6 12] (sr_ [v_ 13 0,v_ 14 6,k2 15 133 13 14,o1 16 15 nt] (i_ 16 (sr_ [bf_ 4] .ret) .skip)))) (.reg [i1_ 17 9,v_ 9 17]))))))) (sr_ [bt_ 4] .ret)))
theorem SA:Bp Tryz.prog 100 2=some ⟨18,2,[(.slot 4)],Mf⟩:=by kernel_rfl
def Hf:AC:=(.seq (sr_ [v_ 9 2,v_ 10 1,o2 11 9 10 a1_,o1 12 11 ld] (i_ 12 .ret .skip)) (sr_ [v_ 13 2,v_ 14 1,o2 15 13 14 a1_,h_ [s_ 15,k_ (.bool true)] st] (.seq (sr_ [v_ 16 0,o1 17 16 .nilCheck,o1 18 17 (.faddr false 7 1),o1 19 18 ld,v_ 20 1,o2 21 19 20 a1_,o1 22 21 ld,o1 23 22 ln,z_ 24] (.block 0 (.loop (sr_ [o2 25 24 23 bls_] (.seq (ex_ 25 0) (.seq (.block 1 (sr_ [o2 26 22 24 a1_,o1 27 26 ld,v_ 7 27] (sr_ [v_ 28 0,o1 29 28 .nilCheck,o1 30 29 (.faddr true 0 6),o1 31 30 f4_,o1 32 31 ld,v_ 33 7,o2 34 32 33 a5_,o1 35 34 (.load true 5),o0 8 (.alloc (.agg [(.int .i64 0),(.int .i64 0),.nilS,(.int .i64 0),.nilS]) 5),n2 8 35 (.store 5)] (sr_ [o1 36 8 f2_,o1 37 36 ld,o1 38 37 ln,c2 39 38 (.int .i64 0) beq_] (i_ 39 (.reg [v_ 40 0,o1 41 8 f1_,o1 42 41 ld,v_ 43 2,k3 44 101 40 42 43]) .skip))))) (.reg [i1_ 45 24,v_ 24 45]))))))) (.reg [v_ 46 0,v_ 47 0,o1 48 47 .nilCheck,o1 49 48 (.faddr false 9 1),o1 50 49 ld,v_ 51 1,o1 52 51 (.bslice 1 1 (.int .i64 0) [0]),o2 53 50 52 (.app 1 8 (.int .i64 0)),o1 54 46 .nilCheck,o1 55 54 (.faddr false 9 1),n2 55 53 st]))))
theorem Kt:Bp Tryz.prog 101 3=some ⟨56,3,[],Hf⟩:=by kernel_rfl
def Fv:AC:=(sr_ [o1 1 0 .box,c1 2 .nilF .mv] (sr_ [o1 3 1 (.mkFunc 134),v_ 2 3] .ret))
theorem GP:Bp Tryz.prog 102 1=some ⟨4,1,[(.slot 2)],Fv⟩:=by kernel_rfl
def KG:AC:=(sr_ [o1 2 0 .box,z_ 4,bf_ 5] (.seq (sr_ [v_ 15 1,o1 16 15 ln,z_ 17] (.block 0 (.loop (sr_ [o2 18 17 16 bls_] (.seq (ex_ 18 0) (.seq (.block 1 (sr_ [o2 19 15 17 a1_,o1 20 19 ld,v_ 7 20] (sr_ [v_ 21 7,c2 22 21 (.int .i32 0) bls_,v_ 23 22,g_ 24 23 false [s_ 7] .mv,g_ 25 23 false [s_ 24,k_ (.int .i32 1114111)] bgt_,m_ 26 [s_ 23,k_ (.bool true),s_ 25] .pick] (i_ 26 (sr_ [z_ 4,bf_ 5] .ret) .skip)))) (.reg [i1_ 27 17,v_ 17 27]))))))) (sr_ [o1 28 2 f4_,o1 29 28 ld,v_ 8 29] (.seq (sr_ [o1 30 2 f5_,o1 31 30 ld,o1 32 31 ln,z_ 33] (.block 2 (.loop (sr_ [o2 34 33 32 bls_] (.seq (ex_ 34 2) (.seq (.block 3 (sr_ [o2 35 31 33 a4_,o1 36 35 (.load true 4),o0 10 (.alloc (.agg [(.int .i64 0),(.int .i64 0),(.int .i64 0),(.int .i64 0)]) 4),n2 10 36 (.store 4)] (.seq (sr_ [o1 37 10 (.load true 4),v_ 38 1,o1 39 38 ln,k2 40 135 37 39,o1 41 40 nt] (i_ 41 (sr_ [z_ 4,bf_ 5] .ret) .skip)) (.seq (.dreg [o1 43 10 (.load true 4),v_ 44 1,o1 45 10 f0_,o1 46 45 ld,o2 47 44 46 a1_,o1 48 47 ld,o1 49 48 (.conv .i64),k2 50 136 43 49,v_ 42 50,o1 51 42 (.extract 0),o1 52 42 (.extract 1),v_ 11 51,v_ 12 52]) (.reg [v_ 53 8,v_ 54 11,o2 55 53 54 bad_,v_ 8 55]))))) (.reg [i1_ 56 33,v_ 33 56]))))))) (.seq (sr_ [v_ 57 8,c2 58 57 (.int .i64 1114111) bgt_] (i_ 58 (sr_ [z_ 4,bf_ 5] .ret) .skip)) (sr_ [o1 60 2 l6,k1 61 137 60,v_ 62 8,k2 63 136 61 62,v_ 59 63,o1 64 59 (.extract 0),o1 65 59 (.extract 1),v_ 13 64,v_ 14 65] (.seq (sr_ [v_ 66 14,o1 67 66 nt] (i_ 67 (sr_ [z_ 4,bf_ 5] .ret) .skip)) (sr_ [o1 68 2 f0_,o1 69 68 ld,v_ 70 13,o2 71 69 70 bad_,v_ 4 71,bt_ 5] .ret))))))))
theorem QQ:Bp Tryz.prog 103 2=some ⟨72,2,[(.slot 4),(.slot 5)],KG⟩:=by kernel_rfl
def NP:AC:=(sr_ [bf_ 4] (.seq (sr_ [v_ 7 1,c2 8 7 (.int .i64 (-1073741824)) bls_,v_ 9 8,g_ 10 9 false [s_ 1] .mv,g_ 11 9 false [s_ 10,k_ (.int .i64 1073741824)] bgt_,m_ 12 [s_ 9,k_ (.bool true),s_ 11] .pick] (i_ 12 (sr_ [bf_ 4] .ret) .skip)) (.seq (sr_ [v_ 13 0,o1 14 13 ln,z_ 15] (.block 0 (.loop (sr_ [o2 16 15 14 bls_] (.seq (ex_ 16 0) (.seq (.block 1 (sr_ [o2 17 13 15 a2_,o1 18 17 (.load true 2),o0 6 (.alloc (.agg [(.int .i64 0),(.int .i64 0)]) 2),n2 6 18 (.store 2)] (sr_ [v_ 19 1,o1 20 6 f0_,o1 21 20 ld,o2 22 19 21 bge_,v_ 23 22,g1 24 23 1 .mv,g1 25 23 6 f1_,g1 26 23 25 ld,g2 27 23 24 26 ble_,m_ 28 [s_ 23,s_ 27,k_ (.bool false)] .pick] (i_ 28 (sr_ [bt_ 4] .ret) .skip)))) (.reg [i1_ 29 15,v_ 15 29]))))))) (sr_ [bf_ 4] .ret))))
theorem Wh:Bp Tryz.prog 104 2=some ⟨30,2,[(.slot 4)],NP⟩:=by kernel_rfl
def EC:AC:=(sr_ [ns_ 4] (.seq (sr_ [v_ 5 1,c2 6 5 (.int .i64 0) bls_] (i_ 6 (.reg [c1 7 (.str [99,97,110,110,111,116,32,98,101,32,110,101,103,97,116,105,118,101]) .no,h_ [s_ 7] .no]) .skip)) (.seq (sr_ [v_ 8 1,v_ 9 0,o1 10 9 .cap,v_ 11 0,o1 12 11 ln,o2 13 10 12 bsu_,o2 14 8 13 bsu_,v_ 1 14] (sr_ [v_ 15 1,c2 16 15 (.int .i64 0) bgt_] (i_ 16 (.reg [v_ 17 0,v_ 18 0,o1 19 18 .cap,o2 20 17 19 (.slice 1 false true false),v_ 21 1,o2 22 20 21 (.appZ 1 4 (.int .i32 0)),v_ 23 0,o1 24 23 ln,o2 25 22 24 (.slice 1 false true false),v_ 0 25]) .skip))) (sr_ [v_ 26 0,v_ 4 26] .ret))))
theorem FF:Bp Tryz.prog 105 2=some ⟨27,2,[(.slot 4)],EC⟩:=by kernel_rfl
def Dr:AC:=(sr_ [ns_ 2] (.seq (sr_ [v_ 3 0,c2 4 3 .nilS (.eqn false)] (i_ 4 (sr_ [ns_ 2] .ret) .skip)) (sr_ [o0 5 (.bslice 1 0 (.int .i32 0) []),v_ 6 0,o2 7 5 6 (.app 1 4 (.int .i32 0)),v_ 2 7] .ret)))
theorem E3:Bp Tryz.prog 106 1=some ⟨8,1,[(.slot 2)],Dr⟩:=by kernel_rfl
def EF:AC:=(sr_ [v_ 5 0,o1 6 5 ln,v_ 4 6] (.reg [v_ 7 0,v_ 8 4,v_ 9 4,o1 10 9 (.conv .u64),k1 11 139 10,v_ 12 1,m_ 13 [k_ (.fn 138 []),s_ 7,k_ (.int .i64 0),s_ 8,s_ 11,s_ 12] .call]))
theorem Gh:Bp Tryz.prog 107 2=some ⟨14,2,[],EF⟩:=by kernel_rfl
def Ep:AC:=(sr_ [ns_ 4] (.seq (sr_ [v_ 8 0,o1 9 8 ln,c2 10 9 (.int .i64 2) bls_] (i_ 10 (sr_ [v_ 11 0,v_ 4 11] .ret) .skip)) (.seq (sr_ [c1 5 (.int .i64 1) .mv] (.block 0 (.loop (.seq (sr_ [v_ 12 5,v_ 13 0,o1 14 13 ln,o2 15 12 14 bls_] (ex_ 15 0)) (.seq (.block 1 (.seq (.dtl [v_ 18 1,v_ 19 0,v_ 20 5,o2 21 19 20 a1_,o1 22 21 ld,v_ 23 0,v_ 24 5,c2 25 24 (.int .i64 1) bsu_,o2 26 23 25 a1_,o1 27 26 ld] [o3 28 18 22 27 .call]) (i_ 28 (sr_ [v_ 29 0,v_ 30 5,o2 31 29 30 (.slice 1 true false false),v_ 6 31] (.seq (sr_ [c1 7 (.int .i64 1) .mv] (.block 2 (.loop (.seq (sr_ [v_ 32 7,v_ 33 6,o1 34 33 ln,o2 35 32 34 bls_] (ex_ 35 2)) (.seq (.block 3 (.seq (.dtl [v_ 38 1,v_ 39 6,v_ 40 7,o2 41 39 40 a1_,o1 42 41 ld,v_ 43 6,v_ 44 7,c2 45 44 (.int .i64 1) bsu_,o2 46 43 45 a1_,o1 47 46 ld] [o3 48 38 42 47 .call,o1 49 48 nt]) (i_ 49 (sr_ [v_ 50 0,v_ 51 5,v_ 52 6,v_ 53 7,o2 54 52 53 a1_,o1 55 54 ld,o2 56 50 51 a1_,n2 56 55 st] (.reg [v_ 57 5,i1_ 58 57,v_ 5 58])) .skip))) (.reg [v_ 36 7,i1_ 37 36,v_ 7 37])))))) (sr_ [v_ 59 0,v_ 60 5,o2 61 59 60 (.slice 1 true false false),h_ [s_ 61] (.clr 1 .nilS)] (sr_ [v_ 62 0,v_ 63 5,o2 64 62 63 (.slice 1 false true false),v_ 4 64] .ret)))) .skip))) (.reg [v_ 16 5,i1_ 17 16,v_ 5 17])))))) (sr_ [v_ 65 0,v_ 4 65] .ret))))
theorem FG:Bp Tryz.prog 108 2=some ⟨66,2,[(.slot 4)],Ep⟩:=by kernel_rfl
def JM:AC:=(sr_ [bf_ 4] (sr_ [v_ 5 0,v_ 6 1,k2 7 77 5 6,c2 8 7 (.int .i64 0) beq_,v_ 4 8] .ret))
theorem Pd:Bp Tryz.prog 109 2=some ⟨9,2,[(.slot 4)],JM⟩:=by kernel_rfl
def KH:AC:=(sr_ [o0 2 (.alloc (.agg [(.int .i64 0),(.int .i64 0),(.int .i64 0),(.int .i64 0)]) 4)] (sr_ [v_ 3 0,c2 4 3 (.int .i64 21) (.build [(.int .i64 0),(.int .i64 0),(.int .i64 0),(.int .i64 0)] [(0,1),(1,1),(2,1),(3,1)] [0,2]),n2 2 4 (.store 4)] .ret))
theorem QR:Bp Tryz.prog 113 1=some ⟨5,1,[(.cell 2 true 4)],KH⟩:=by kernel_rfl
def KI:AC:=(sr_ [z_ 4] (sr_ [z_ 5] (.seq (.block 0 (.loop (.seq (.seq (.dreg [v_ 6 5,v_ 7 0,o1 8 7 ln,o2 9 6 8 bls_,v_ 10 9,g1 11 10 5 .mv,g1 12 10 1 .mv,g1 13 10 12 ln,g2 14 10 11 13 bls_,m_ 15 [s_ 10,s_ 14,k_ (.bool false)] .pick,v_ 16 15,g1 17 16 0 .mv,g1 18 16 5 .mv,g2 19 16 17 18 a1_,g1 20 16 19 ld,g1 21 16 1 .mv,g1 22 16 5 .mv,g2 23 16 21 22 a1_,g1 24 16 23 ld,g2 25 16 20 24 beq_,m_ 26 [s_ 16,s_ 25,k_ (.bool false)] .pick]) (ex_ 26 0)) (.block 1 (.reg [v_ 27 5,i1_ 28 27,v_ 5 28]))))) (sr_ [v_ 29 5,v_ 4 29] .ret))))
theorem QS:Bp Tryz.prog 114 2=some ⟨30,2,[(.slot 4)],KI⟩:=by kernel_rfl
def GE:AC:=(sr_ [z_ 4] (sr_ [v_ 7 0,k1 8 144 7,v_ 5 8] (sr_ [v_ 9 1,k1 10 144 9,v_ 6 10] (.seq (sr_ [v_ 11 5] (i_ 11 (.seq (sr_ [v_ 12 6] (i_ 12 (sr_ [z_ 4] .ret) .skip)) (sr_ [c1 4 (.int .i64 (-1)) .mv] .ret)) .skip)) (.seq (sr_ [v_ 13 6] (i_ 13 (sr_ [c1 4 (.int .i64 1) .mv] .ret) .skip)) (.seq (sr_ [v_ 14 0,v_ 15 1,o2 16 14 15 bls_] (i_ 16 (sr_ [c1 4 (.int .i64 (-1)) .mv] .ret) .skip)) (.seq (sr_ [v_ 17 0,v_ 18 1,o2 19 17 18 bgt_] (i_ 19 (sr_ [c1 4 (.int .i64 1) .mv] .ret) .skip)) (sr_ [z_ 4] .ret))))))))
theorem JN:Bp Tryz.prog 115 2=some ⟨20,2,[(.slot 4)],GE⟩:=by kernel_rfl
def F7:AC:=(sr_ [bf_ 4] (.seq (sr_ [v_ 6 0,o1 7 6 ln,v_ 8 1,o1 9 8 ln,o2 10 7 9 bne_] (i_ 10 (sr_ [bf_ 4] .ret) .skip)) (.seq (sr_ [v_ 11 0,o1 12 11 ln,z_ 13] (.block 0 (.loop (sr_ [o2 14 13 12 bls_] (.seq (ex_ 14 0) (.seq (.block 1 (sr_ [v_ 15 13,v_ 5 15] (.seq (.dreg [v_ 16 0,v_ 17 5,o2 18 16 17 a1_,o1 19 18 ld,v_ 20 1,v_ 21 5,o2 22 20 21 a1_,o1 23 22 ld,o2 24 19 23 bne_]) (i_ 24 (sr_ [bf_ 4] .ret) .skip)))) (.reg [i1_ 25 13,v_ 13 25]))))))) (sr_ [bt_ 4] .ret))))
theorem Hg:Bp Tryz.prog 116 2=some ⟨26,2,[(.slot 4)],F7⟩:=by kernel_rfl
def Mg:AC:=(sr_ [o1 1 0 .box,bf_ 2] (sr_ [o1 3 1 f0_,o1 4 3 ld,k1 5 72 4,o1 6 5 ln,c2 7 6 (.int .i64 0) bgt_,v_ 8 7,g1 9 8 1 f1_,g1 10 8 9 ld,g_ 11 8 true [k_ (.fn 72 []),s_ 10] .call,g1 12 8 11 ln,g_ 13 8 true [s_ 12,k_ (.int .i64 0)] bgt_,m_ 14 [s_ 8,s_ 13,k_ (.bool false)] .pick,v_ 15 14,g1 16 15 1 f2_,g1 17 15 16 ld,g_ 18 15 true [s_ 17,k_ (.int .i64 1)] bge_,m_ 19 [s_ 15,s_ 18,k_ (.bool false)] .pick,v_ 20 19,g1 21 20 1 f2_,g1 22 20 21 ld,g_ 23 20 true [s_ 22,k_ (.int .i64 1024)] ble_,m_ 24 [s_ 20,s_ 23,k_ (.bool false)] .pick,v_ 25 24,g1 26 25 1 l6,g1 27 25 1 f3_,g1 28 25 27 ld,g_ 29 25 true [k_ (.fn 119 []),s_ 26,s_ 28] .call,m_ 30 [s_ 25,s_ 29,k_ (.bool false)] .pick,v_ 31 30,g1 32 31 1 f4_,g1 33 31 32 ld,g1 34 31 33 ln,g_ 35 31 true [s_ 34,k_ (.int .i64 4096)] ble_,m_ 36 [s_ 31,s_ 35,k_ (.bool false)] .pick,v_ 37 36,g1 38 37 1 f5_,g1 39 37 38 ld,g1 40 37 39 ln,g_ 41 37 true [s_ 40,k_ (.int .i64 4096)] ble_,m_ 42 [s_ 37,s_ 41,k_ (.bool false)] .pick,v_ 2 42] .ret))
theorem SB:Bp Tryz.prog 117 1=some ⟨43,1,[(.slot 2)],Mg⟩:=by kernel_rfl
def Mh:AC:=(sr_ [o1 2 0 .box,o1 3 1 .box,bf_ 4] (sr_ [o1 6 3 f2_,o1 7 6 ld,o1 8 7 ln,v_ 5 8] (.seq (sr_ [o1 9 2 l6,o1 10 3 f0_,o1 11 10 ld,k2 12 119 9 11,o1 13 12 nt,v_ 14 13,g_ 15 14 false [s_ 2] l6,g_ 16 14 false [s_ 3] f1_,g_ 17 14 false [s_ 16] ld,g_ 18 14 false [k_ (.fn 119 []),s_ 15,s_ 17] .call,g_ 19 14 false [s_ 18] nt,m_ 20 [s_ 14,k_ (.bool true),s_ 19] .pick,v_ 21 20,g_ 22 21 false [s_ 2] f0_,g_ 23 21 false [s_ 22] ld,g_ 24 21 false [s_ 3] f2_,g_ 25 21 false [s_ 24] ld,g_ 26 21 false [k_ (.fn 120 []),s_ 23,s_ 25] .call,g_ 27 21 false [s_ 26] nt,m_ 28 [s_ 21,k_ (.bool true),s_ 27] .pick,v_ 29 28,g_ 30 29 false [s_ 3] f3_,g_ 31 29 false [s_ 30] ld,g_ 32 29 false [s_ 5] .mv,g_ 33 29 false [s_ 32,k_ (.int .i64 1)] .min,g_ 34 29 false [s_ 31,s_ 33] bls_,m_ 35 [s_ 29,k_ (.bool true),s_ 34] .pick,v_ 36 35,g_ 37 36 false [s_ 3] f3_,g_ 38 36 false [s_ 37] ld,g_ 39 36 false [s_ 5] .mv,g_ 40 36 false [s_ 38,s_ 39] bgt_,m_ 41 [s_ 36,k_ (.bool true),s_ 40] .pick] (i_ 41 (sr_ [bf_ 4] .ret) .skip)) (sr_ [o1 42 2 l6,o1 43 3 f4_,o1 44 43 ld,o1 45 3 f2_,o1 46 45 ld,k3 47 121 42 44 46,v_ 4 47] .ret))))
theorem SC:Bp Tryz.prog 118 2=some ⟨48,2,[(.slot 4)],Mh⟩:=by kernel_rfl
def KJ:AC:=(sr_ [o1 2 0 .box,bf_ 4] (sr_ [v_ 5 1,c2 6 5 (.int .i64 0) bge_,v_ 7 6,g1 8 7 1 .mv,g1 9 7 2 f2_,g1 10 7 9 ld,g2 11 7 8 10 bls_,m_ 12 [s_ 7,s_ 11,k_ (.bool false)] .pick,v_ 4 12] .ret))
theorem QT:Bp Tryz.prog 119 2=some ⟨13,2,[(.slot 4)],KJ⟩:=by kernel_rfl
def JO:AC:=(sr_ [bf_ 4] (.seq (sr_ [v_ 8 1,o1 9 8 ln,c2 10 9 (.int .i64 4) bgt_] (i_ 10 (sr_ [bf_ 4] .ret) .skip)) (sr_ [v_ 11 0,k1 12 72 11,v_ 5 12] (.seq (sr_ [v_ 13 1,o1 14 13 ln,z_ 15] (.block 0 (.loop (sr_ [o2 16 15 14 bls_] (.seq (ex_ 16 0) (.seq (.block 1 (sr_ [o2 17 13 15 a1_,o1 18 17 ld,v_ 7 18] (sr_ [v_ 19 7,o1 20 19 ln,c2 21 20 (.int .i64 0) beq_,v_ 22 21,g_ 23 22 false [s_ 7] .mv,g_ 24 22 false [s_ 23] ln,g_ 25 22 false [s_ 24,k_ (.int .i64 64)] bgt_,m_ 26 [s_ 22,k_ (.bool true),s_ 25] .pick,v_ 27 26,g_ 28 27 false [s_ 7] .mv,g_ 29 27 false [k_ (.fn 145 []),s_ 28] .call,g_ 30 27 false [s_ 29] nt,m_ 31 [s_ 27,k_ (.bool true),s_ 30] .pick,v_ 32 31,g_ 33 32 false [s_ 7] .mv,g_ 34 32 false [s_ 5] .mv,g_ 35 32 false [k_ (.fn 146 []),s_ 33,s_ 34] .call,g_ 36 32 false [s_ 35] nt,m_ 37 [s_ 32,k_ (.bool true),s_ 36] .pick] (i_ 37 (sr_ [bf_ 4] .ret) .skip)))) (.reg [i1_ 38 15,v_ 15 38]))))))) (sr_ [bt_ 4] .ret)))))
theorem Pe:Bp Tryz.prog 120 2=some ⟨39,2,[(.slot 4)],JO⟩:=by kernel_rfl
def JP:AC:=(sr_ [o1 3 0 .box,bf_ 6] (.seq (sr_ [v_ 9 1,o1 10 9 ln,c2 11 10 (.int .i64 64) bgt_] (i_ 11 (sr_ [bf_ 6] .ret) .skip)) (.seq (sr_ [v_ 12 1,o1 13 12 ln,z_ 14] (.block 0 (.loop (sr_ [o2 15 14 13 bls_] (.seq (ex_ 15 0) (.seq (.block 1 (sr_ [o2 16 12 14 a6_,o1 17 16 l6,o0 8 (.alloc (.agg [(.int .i64 0),(.int .i64 0),(.int .i64 0),(.int .i64 0),(.int .i64 0),.nilS]) 6),n2 8 17 (.store 6)] (sr_ [o1 18 8 l6,o1 19 3 f0_,o1 20 19 ld,o1 21 3 f1_,o1 22 21 ld,v_ 23 2,m_ 24 [k_ (.fn 147 []),s_ 18,s_ 20,s_ 22,s_ 23] .call,o1 25 24 nt] (i_ 25 (sr_ [bf_ 6] .ret) .skip)))) (.reg [i1_ 26 14,v_ 14 26]))))))) (sr_ [bt_ 6] .ret))))
theorem Pf:Bp Tryz.prog 121 3=some ⟨27,3,[(.slot 6)],JP⟩:=by kernel_rfl
def KN:AC:=(sr_ [o1 1 0 .box,bf_ 2] (sr_ [o1 14 1 f2_,o1 15 14 ld,o2 16 15 15 (.mkSlice 1 24 .nilS),v_ 3 16] (sr_ [o1 17 1 f2_,o1 18 17 ld,o2 19 18 18 (.mkSlice 1 8 (.int .i64 0)),v_ 4 19] (.seq (sr_ [o1 20 1 f4_,o1 21 20 ld,o1 22 21 ln,z_ 23] (.block 0 (.loop (sr_ [o2 24 23 22 bls_] (.seq (ex_ 24 0) (.seq (.block 1 (sr_ [o2 25 21 23 a5_,o1 26 25 (.load true 5),o0 6 (.alloc (.agg [(.int .i64 0),(.int .i64 0),.nilS,(.int .i64 0),.nilS]) 5),n2 6 26 (.store 5)] (sr_ [o1 27 6 f2_,o1 28 27 ld,o1 29 28 ln,c2 30 29 (.int .i64 0) beq_] (i_ 30 (.seq (.grx [false,true,true,false,true,true,true,false,true,true,false,false,false,false] [m_ 31 [s_ 3] .mv,m_ 32 [s_ 6] f0_,m_ 33 [s_ 32] ld,m_ 34 [s_ 3] .mv,m_ 35 [s_ 6] f0_,m_ 36 [s_ 35] ld,m_ 37 [s_ 34,s_ 36] a1_,m_ 38 [s_ 37] ld,m_ 39 [s_ 6] f1_,m_ 40 [s_ 39] ld,m_ 41 [s_ 40] (.bslice 1 1 (.int .i64 0) [0]),m_ 42 [s_ 38,s_ 41] (.app 1 8 (.int .i64 0)),m_ 43 [s_ 31,s_ 33] a1_,h_ [s_ 43,s_ 42] st]) (.reg [v_ 44 4,o1 45 6 f1_,o1 46 45 ld,o2 47 44 46 a1_,o1 48 47 ld,i1_ 49 48,o2 50 44 46 a1_,n2 50 49 st])) .skip)))) (.reg [i1_ 51 23,v_ 23 51]))))))) (sr_ [ns_ 7] (.seq (sr_ [v_ 52 4,o1 53 52 ln,z_ 54] (.block 2 (.loop (sr_ [o2 55 54 53 bls_] (.seq (ex_ 55 2) (.seq (.block 3 (sr_ [v_ 56 54,o2 57 52 54 a1_,o1 58 57 ld,v_ 8 56,v_ 9 58] (sr_ [v_ 59 9,c2 60 59 (.int .i64 0) beq_] (i_ 60 (.reg [v_ 61 7,v_ 62 8,o1 63 62 (.bslice 1 1 (.int .i64 0) [0]),o2 64 61 63 (.app 1 8 (.int .i64 0)),v_ 7 64]) .skip)))) (.reg [i1_ 65 54,v_ 54 65]))))))) (sr_ [z_ 10] (.seq (.block 4 (.loop (.seq (sr_ [v_ 66 7,o1 67 66 ln,c2 68 67 (.int .i64 0) bgt_] (ex_ 68 4)) (.seq (.block 5 (sr_ [v_ 71 7,c2 72 71 (.int .i64 0) a1_,o1 73 72 ld,v_ 11 73] (sr_ [v_ 74 7,c2 75 74 (.int .i64 1) (.slice 1 true false false),v_ 7 75] (sr_ [v_ 76 3,v_ 77 11,o2 78 76 77 a1_,o1 79 78 ld,o1 80 79 ln,z_ 81] (.block 6 (.loop (sr_ [o2 82 81 80 bls_] (.seq (ex_ 82 6) (.seq (.block 7 (sr_ [o2 83 79 81 a1_,o1 84 83 ld,v_ 13 84] (sr_ [v_ 85 4,v_ 86 13,o2 87 85 86 a1_,o1 88 87 ld,c2 89 88 (.int .i64 1) bsu_,o2 90 85 86 a1_,n2 90 89 st] (sr_ [v_ 91 4,v_ 92 13,o2 93 91 92 a1_,o1 94 93 ld,c2 95 94 (.int .i64 0) beq_] (i_ 95 (.reg [v_ 96 7,v_ 97 13,o1 98 97 (.bslice 1 1 (.int .i64 0) [0]),o2 99 96 98 (.app 1 8 (.int .i64 0)),v_ 7 99]) .skip))))) (.reg [i1_ 100 81,v_ 81 100])))))))))) (.reg [v_ 69 10,i1_ 70 69,v_ 10 70]))))) (sr_ [v_ 101 10,o1 102 1 f2_,o1 103 102 ld,o2 104 101 103 bls_,v_ 2 104] .ret)))))))))
theorem QU:Bp Tryz.prog 122 1=some ⟨105,1,[(.slot 2)],KN⟩:=by kernel_rfl
def QV:AC:=(sr_ [bf_ 4] (.seq (sr_ [v_ 5 0] (.block 0 (sr_ [c2 7 5 (.int .i64 1) beq_,v_ 6 7] (i_ 6 (sr_ [v_ 8 1,c2 9 8 (.int .i32 0) bge_,v_ 10 9,g1 11 10 1 .mv,g_ 12 10 true [s_ 11,k_ (.int .i32 255)] ble_,m_ 13 [s_ 10,s_ 12,k_ (.bool false)] .pick,v_ 4 13] .ret) (sr_ [c2 15 5 (.int .i64 2) beq_,v_ 14 15] (i_ 14 (sr_ [v_ 16 1,c2 17 16 (.int .i32 0) bge_,v_ 18 17,g1 19 18 1 .mv,g_ 20 18 true [s_ 19,k_ (.int .i32 1114111)] ble_,m_ 21 [s_ 18,s_ 20,k_ (.bool false)] .pick,v_ 22 21,g1 23 22 1 .mv,g_ 24 22 true [s_ 23,k_ (.int .i32 55296)] bls_,g1 25 22 24 .mv,g_ 26 25 false [s_ 1] .mv,g_ 27 25 false [s_ 26,k_ (.int .i32 57343)] bgt_,g_ 28 22 true [s_ 25,k_ (.bool true),s_ 27] .pick,m_ 29 [s_ 22,s_ 28,k_ (.bool false)] .pick,v_ 4 29] .ret) .skip)))))) (sr_ [bf_ 4] .ret)))
theorem Y7:Bp Tryz.prog 133 2=some ⟨30,2,[(.slot 4)],QV⟩:=by kernel_rfl
def DN:AC:=(sr_ [o1 4 1 ld,o1 5 4 ln,c2 6 5 (.int .i64 1) bsu_,v_ 3 6] (.block 0 (.loop (.seq (sr_ [v_ 7 3,c2 8 7 (.int .i64 0) bge_] (ex_ 8 0)) (.seq (.block 1 (sr_ [v_ 11 0,v_ 12 3,o1 13 1 ld,v_ 14 3,o2 15 13 14 a1_,o1 16 15 ld,o3 17 11 12 16 .call,o1 18 17 nt] (i_ 18 .ret .skip))) (.reg [v_ 9 3,c2 10 9 (.int .i64 1) bsu_,v_ 3 10]))))))
theorem G4:Bp Tryz.prog 134 2=some ⟨19,2,[],DN⟩:=by kernel_rfl
def KO:AC:=(sr_ [o1 2 0 .box,bf_ 4] (sr_ [o1 5 2 f0_,o1 6 5 ld,c2 7 6 (.int .i64 0) bge_,v_ 8 7,g1 9 8 2 f0_,g1 10 8 9 ld,g1 11 8 1 .mv,g2 12 8 10 11 bls_,m_ 13 [s_ 8,s_ 12,k_ (.bool false)] .pick,v_ 14 13,g1 15 14 2 (.load true 4),g_ 16 14 true [k_ (.fn 153 []),s_ 15] .call,m_ 17 [s_ 14,s_ 16,k_ (.bool false)] .pick,v_ 4 17] .ret))
theorem QW:Bp Tryz.prog 135 2=some ⟨18,2,[(.slot 4)],KO⟩:=by kernel_rfl
def KP:AC:=(sr_ [o1 2 0 .box,z_ 4,bf_ 5] (.seq (sr_ [o1 6 2 (.load true 4),k1 7 153 6,o1 8 7 nt,v_ 9 8,g_ 10 9 false [s_ 1] .mv,g_ 11 9 false [s_ 10,k_ (.int .i64 0)] bls_,m_ 12 [s_ 9,k_ (.bool true),s_ 11] .pick,v_ 13 12,g_ 14 13 false [s_ 1] .mv,g_ 15 13 false [s_ 14,k_ (.int .i64 2097151)] bgt_,m_ 16 [s_ 13,k_ (.bool true),s_ 15] .pick] (i_ 16 (sr_ [z_ 4,bf_ 5] .ret) .skip)) (.seq (.dreg [v_ 17 1,o1 18 2 f1_,o1 19 18 ld,o2 20 17 19 (.bin .shr),o1 21 2 f2_,o1 22 21 ld,m_ 23 [k_ (.int .i64 1),s_ 22] (.bin .shl),c2 24 23 (.int .i64 1) bsu_,o2 25 20 24 (.bin .and),o1 26 2 f3_,o1 27 26 ld,o2 28 25 27 (.bin .shl),v_ 4 28,bt_ 5]) .ret)))
theorem QX:Bp Tryz.prog 136 2=some ⟨29,2,[(.slot 4),(.slot 5)],KP⟩:=by kernel_rfl
def KQ:AC:=(sr_ [o1 1 0 .box,o0 2 (.alloc (.agg [(.int .i64 0),(.int .i64 0),(.int .i64 0),(.int .i64 0)]) 4)] (sr_ [o1 3 1 f1_,o1 4 3 ld,o1 5 1 f2_,o1 6 5 ld,o1 7 1 f3_,o1 8 7 ld,o3 9 4 6 8 (.build [(.int .i64 0),(.int .i64 0),(.int .i64 0),(.int .i64 0)] [(0,1),(1,1),(2,1),(3,1)] [1,2,3]),n2 2 9 (.store 4)] .ret))
theorem QZ:Bp Tryz.prog 137 1=some ⟨10,1,[(.cell 2 true 4)],KQ⟩:=by kernel_rfl
def EL:AC:=(sr_ [bt_ 10] (sr_ [bt_ 11] (.block 0 (.loop (.block 1 (sr_ [v_ 21 2,v_ 22 1,o2 23 21 22 bsu_,v_ 12 23] (.seq (sr_ [v_ 24 12,c2 25 24 (.int .i64 12) ble_] (i_ 25 (sr_ [v_ 26 0,v_ 27 1,v_ 28 2,v_ 29 4,m_ 30 [k_ (.fn 154 []),s_ 26,s_ 27,s_ 28,s_ 29] .call] .ret) .skip)) (.seq (sr_ [v_ 31 3,c2 32 31 (.int .i64 0) beq_] (i_ 32 (sr_ [v_ 33 0,v_ 34 1,v_ 35 2,v_ 36 4,m_ 37 [k_ (.fn 155 []),s_ 33,s_ 34,s_ 35,s_ 36] .call] .ret) .skip)) (.seq (sr_ [v_ 38 10,o1 39 38 nt] (i_ 39 (sr_ [v_ 40 0,v_ 41 1,v_ 42 2,v_ 43 4,m_ 44 [k_ (.fn 156 []),s_ 40,s_ 41,s_ 42,s_ 43] .call] (.reg [v_ 45 3,c2 46 45 (.int .i64 1) bsu_,v_ 3 46])) .skip)) (sr_ [v_ 48 0,v_ 49 1,v_ 50 2,v_ 51 4,m_ 52 [k_ (.fn 157 []),s_ 48,s_ 49,s_ 50,s_ 51] .call,v_ 47 52,o1 53 47 (.extract 0),o1 54 47 (.extract 1),v_ 13 53,v_ 14 54] (.seq (sr_ [v_ 55 14,c2 56 55 (.int .i64 2) beq_] (i_ 56 (sr_ [v_ 57 0,v_ 58 1,v_ 59 2,v_ 60 4,m_ 61 [k_ (.fn 158 []),s_ 57,s_ 58,s_ 59,s_ 60] .call] (sr_ [v_ 62 2,c2 63 62 (.int .i64 1) bsu_,v_ 64 13,v_ 65 1,o2 66 64 65 bsu_,o2 67 63 66 bsu_,v_ 13 67] (.reg [c1 14 (.int .i64 1) .mv]))) .skip)) (.seq (sr_ [v_ 68 10,v_ 69 68,g1 70 69 11 .mv,m_ 71 [s_ 69,s_ 70,k_ (.bool false)] .pick,v_ 72 71,g1 73 72 14 .mv,g_ 74 72 true [s_ 73,k_ (.int .i64 1)] beq_,m_ 75 [s_ 72,s_ 74,k_ (.bool false)] .pick] (i_ 75 (sr_ [v_ 76 0,v_ 77 1,v_ 78 2,v_ 79 4,m_ 80 [k_ (.fn 159 []),s_ 76,s_ 77,s_ 78,s_ 79] .call] (i_ 80 .ret .skip)) .skip)) (.seq (.seq (.dtl [v_ 81 1,c2 82 81 (.int .i64 0) bgt_,v_ 83 82,g1 84 83 4 .mv,g1 85 83 0 .mv,g1 86 83 1 .mv,g_ 87 83 true [s_ 86,k_ (.int .i64 1)] bsu_,g2 88 83 85 87 a1_,g1 89 83 88 ld,g1 90 83 0 .mv,g1 91 83 13 .mv,g2 92 83 90 91 a1_,g1 93 83 92 ld] [g_ 94 83 true [s_ 84,s_ 89,s_ 93] .call,g_ 95 83 true [s_ 94,k_ (.int .i64 0)] bls_,g1 96 83 95 nt,m_ 97 [s_ 83,s_ 96,k_ (.bool false)] .pick]) (i_ 97 (sr_ [v_ 98 0,v_ 99 1,v_ 100 2,v_ 101 13,v_ 102 4,m_ 103 [k_ (.fn 160 []),s_ 98,s_ 99,s_ 100,s_ 101,s_ 102] .call,v_ 15 103] (sr_ [v_ 104 15,v_ 1 104] (.exit 1))) .skip)) (sr_ [v_ 106 0,v_ 107 1,v_ 108 2,v_ 109 13,v_ 110 4,m_ 111 [k_ (.fn 161 []),s_ 106,s_ 107,s_ 108,s_ 109,s_ 110] .call,v_ 105 111,o1 112 105 (.extract 0),o1 113 105 (.extract 1),v_ 16 112,v_ 17 113] (sr_ [v_ 114 17,v_ 11 114] (sr_ [v_ 115 16,v_ 116 1,o2 117 115 116 bsu_,v_ 118 2,v_ 119 16,o2 120 118 119 bsu_,v_ 18 117,v_ 19 120] (sr_ [v_ 121 12,c2 122 121 (.int .i64 8) (.bin .quo),v_ 20 122] (sr_ [v_ 123 18,v_ 124 19,o2 125 123 124 bls_] (i_ 125 (sr_ [v_ 126 18,v_ 127 20,o2 128 126 127 bge_,v_ 10 128] (sr_ [v_ 129 0,v_ 130 1,v_ 131 16,v_ 132 3,v_ 133 4,m_ 134 [k_ (.fn 138 []),s_ 129,s_ 130,s_ 131,s_ 132,s_ 133] .call] (.reg [v_ 135 16,i1_ 136 135,v_ 1 136]))) (sr_ [v_ 137 19,v_ 138 20,o2 139 137 138 bge_,v_ 10 139] (sr_ [v_ 140 0,v_ 141 16,i1_ 142 141,v_ 143 2,v_ 144 3,v_ 145 4,m_ 146 [k_ (.fn 138 []),s_ 140,s_ 142,s_ 143,s_ 144,s_ 145] .call] (.reg [v_ 147 16,v_ 2 147]))))))))))))))))))))))
theorem Gn:Bp Tryz.prog 138 5=some ⟨148,5,[],EL⟩:=by kernel_rfl
def Ie:AC:=(sr_ [z_ 2] (.seq (.cond (.const (.bool false)) (sr_ [v_ 3 0,o1 4 3 (.conv .u32),k1 5 162 4,v_ 2 5] .ret) .skip) (sr_ [v_ 6 0,k1 7 163 6,v_ 2 7] .ret)))
theorem Mi:Bp Tryz.prog 139 1=some ⟨8,1,[(.slot 2)],Ie⟩:=by kernel_rfl
def HI:AC:=(sr_ [bf_ 2] (sr_ [v_ 3 0,v_ 4 0,o2 5 3 4 bne_,v_ 2 5] .ret))
theorem Le:Bp Tryz.prog 144 1=some ⟨6,1,[(.slot 2)],HI⟩:=by kernel_rfl
def KR:AC:=(sr_ [bf_ 2] (sr_ [c1 3 (.int .i64 (-1073741826)) .mv] (.seq (sr_ [v_ 6 0,o1 7 6 ln,z_ 8] (.block 0 (.loop (sr_ [o2 9 8 7 bls_] (.seq (ex_ 9 0) (.seq (.block 1 (sr_ [o2 10 6 8 a2_,o1 11 10 (.load true 2),o0 5 (.alloc (.agg [(.int .i64 0),(.int .i64 0)]) 2),n2 5 11 (.store 2)] (.seq (sr_ [o1 12 5 f0_,o1 13 12 ld,o1 14 5 f1_,o1 15 14 ld,o2 16 13 15 bgt_,v_ 17 16,g_ 18 17 false [s_ 5] f0_,g_ 19 17 false [s_ 18] ld,g_ 20 17 false [s_ 19,k_ (.int .i64 (-1073741824))] bls_,m_ 21 [s_ 17,k_ (.bool true),s_ 20] .pick,v_ 22 21,g_ 23 22 false [s_ 5] f1_,g_ 24 22 false [s_ 23] ld,g_ 25 22 false [s_ 24,k_ (.int .i64 1073741824)] bgt_,m_ 26 [s_ 22,k_ (.bool true),s_ 25] .pick,v_ 27 26,g_ 28 27 false [s_ 5] f0_,g_ 29 27 false [s_ 28] ld,g_ 30 27 false [s_ 3] .mv,g_ 31 27 false [s_ 30,k_ (.int .i64 1)] bad_,g_ 32 27 false [s_ 29,s_ 31] ble_,m_ 33 [s_ 27,k_ (.bool true),s_ 32] .pick] (i_ 33 (sr_ [bf_ 2] .ret) .skip)) (.reg [o1 34 5 f1_,o1 35 34 ld,v_ 3 35])))) (.reg [i1_ 36 8,v_ 8 36]))))))) (sr_ [bt_ 2] .ret))))
theorem Ra:Bp Tryz.prog 145 1=some ⟨37,1,[(.slot 2)],KR⟩:=by kernel_rfl
def JQ:AC:=(sr_ [bf_ 4] (sr_ [v_ 5 0,v_ 6 1,k2 7 165 5 6,o1 8 7 ln,c2 9 8 (.int .i64 0) beq_,v_ 4 9] .ret))
theorem Pg:Bp Tryz.prog 146 2=some ⟨10,2,[(.slot 4)],JQ⟩:=by kernel_rfl
def Mj:AC:=(sr_ [o1 4 0 .box,bf_ 8] (.seq (sr_ [o1 11 4 l6,v_ 12 1,v_ 13 2,v_ 14 3,o1 15 14 ln,m_ 16 [k_ (.fn 166 []),s_ 11,s_ 12,s_ 13,s_ 15] .call,o1 17 16 nt] (i_ 17 (sr_ [bf_ 8] .ret) .skip)) (sr_ [o1 19 4 l6,v_ 20 3,k2 21 167 19 20,v_ 18 21,o1 22 18 (.extract 0),o1 23 18 (.extract 1),v_ 9 22,v_ 10 23] (sr_ [v_ 24 10,v_ 25 24,g1 26 25 9 .mv,g1 27 25 2 .mv,g_ 28 25 true [k_ (.fn 72 []),s_ 27] .call,g_ 29 25 true [k_ (.fn 146 []),s_ 26,s_ 28] .call,m_ 30 [s_ 25,s_ 29,k_ (.bool false)] .pick,v_ 8 30] .ret))))
theorem SD:Bp Tryz.prog 147 4=some ⟨31,4,[(.slot 8)],Mj⟩:=by kernel_rfl
def Mk:AC:=(sr_ [o1 1 0 .box,bf_ 2] (sr_ [o1 3 1 f1_,o1 4 3 ld,c2 5 4 (.int .i64 0) bge_,v_ 6 5,g1 7 6 1 f1_,g1 8 6 7 ld,g_ 9 6 true [s_ 8,k_ (.int .i64 21)] bls_,m_ 10 [s_ 6,s_ 9,k_ (.bool false)] .pick,v_ 11 10,g1 12 11 1 f2_,g1 13 11 12 ld,g_ 14 11 true [s_ 13,k_ (.int .i64 1)] bge_,m_ 15 [s_ 11,s_ 14,k_ (.bool false)] .pick,v_ 16 15,g1 17 16 1 f2_,g1 18 16 17 ld,g_ 19 16 true [s_ 18,k_ (.int .i64 21)] ble_,m_ 20 [s_ 16,s_ 19,k_ (.bool false)] .pick,v_ 21 20,g1 22 21 1 f3_,g1 23 21 22 ld,g_ 24 21 true [s_ 23,k_ (.int .i64 0)] bge_,m_ 25 [s_ 21,s_ 24,k_ (.bool false)] .pick,v_ 26 25,g1 27 26 1 f3_,g1 28 26 27 ld,g_ 29 26 true [s_ 28,k_ (.int .i64 21)] bls_,m_ 30 [s_ 26,s_ 29,k_ (.bool false)] .pick,v_ 31 30,g1 32 31 1 f3_,g1 33 31 32 ld,g_ 34 31 true [s_ 33,k_ (.int .i64 0)] beq_,g1 35 31 34 .mv,g_ 36 35 false [s_ 1] f2_,g_ 37 35 false [s_ 36] ld,g_ 38 35 false [s_ 37,k_ (.int .i64 6)] ble_,g_ 39 31 true [s_ 35,k_ (.bool true),s_ 38] .pick,m_ 40 [s_ 31,s_ 39,k_ (.bool false)] .pick,v_ 2 40] .ret))
theorem SE:Bp Tryz.prog 153 1=some ⟨41,1,[(.slot 2)],Mk⟩:=by kernel_rfl
def DT:AC:=(sr_ [v_ 10 1,i1_ 11 10,v_ 8 11] (.block 0 (.loop (.seq (sr_ [v_ 12 8,v_ 13 2,o2 14 12 13 bls_] (ex_ 14 0)) (.seq (.block 1 (sr_ [v_ 17 8,v_ 9 17] (.block 2 (.loop (.seq (.seq (.dtl [v_ 18 9,v_ 19 1,o2 20 18 19 bgt_,v_ 21 20,g1 22 21 3 .mv,g1 23 21 0 .mv,g1 24 21 9 .mv,g2 25 21 23 24 a1_,g1 26 21 25 ld,g1 27 21 0 .mv,g1 28 21 9 .mv,g_ 29 21 true [s_ 28,k_ (.int .i64 1)] bsu_,g2 30 21 27 29 a1_,g1 31 21 30 ld] [g_ 32 21 true [s_ 22,s_ 26,s_ 31] .call,g_ 33 21 true [s_ 32,k_ (.int .i64 0)] bls_,m_ 34 [s_ 21,s_ 33,k_ (.bool false)] .pick]) (ex_ 34 2)) (.seq (.block 3 (.greg [v_ 37 0,v_ 38 9,v_ 39 0,v_ 40 9,c2 41 40 (.int .i64 1) bsu_,v_ 42 0,v_ 43 9,c2 44 43 (.int .i64 1) bsu_,o2 45 42 44 a1_,o1 46 45 ld,v_ 47 0,v_ 48 9,o2 49 47 48 a1_,o1 50 49 ld,o2 51 37 38 a1_,n2 51 46 st,o2 52 39 41 a1_,n2 52 50 st])) (.reg [v_ 35 9,c2 36 35 (.int .i64 1) bsu_,v_ 9 36]))))))) (.reg [v_ 15 8,i1_ 16 15,v_ 8 16]))))))
theorem F9:Bp Tryz.prog 154 4=some ⟨53,4,[],DT⟩:=by kernel_rfl
def Hh:AC:=(sr_ [z_ 2] (.seq (sr_ [v_ 3 0,c2 4 3 (.int .u64 4294967296) bge_] (i_ 4 (sr_ [v_ 5 0,c2 6 5 (.int .u64 32) (.bin .shr),v_ 0 6] (.reg [c1 2 (.int .i64 32) .mv])) .skip)) (.seq (sr_ [v_ 7 0,c2 8 7 (.int .u64 65536) bge_] (i_ 8 (sr_ [v_ 9 0,c2 10 9 (.int .u64 16) (.bin .shr),v_ 0 10] (.reg [v_ 11 2,c2 12 11 (.int .i64 16) bad_,v_ 2 12])) .skip)) (.seq (sr_ [v_ 13 0,c2 14 13 (.int .u64 256) bge_] (i_ 14 (sr_ [v_ 15 0,c2 16 15 (.int .u64 8) (.bin .shr),v_ 0 16] (.reg [v_ 17 2,c2 18 17 (.int .i64 8) bad_,v_ 2 18])) .skip)) (sr_ [v_ 19 2,v_ 20 0,o1 21 20 (.conv .u8),m_ 22 [k_ (.str [0,1,2,2,3,3,3,3,4,4,4,4,4,4,4,4,5,5,5,5,5,5,5,5,5,5,5,5,5,5,5,5,6,6,6,6,6,6,6,6,6,6,6,6,6,6,6,6,6,6,6,6,6,6,6,6,6,6,6,6,6,6,6,6,7,7,7,7,7,7,7,7,7,7,7,7,7,7,7,7,7,7,7,7,7,7,7,7,7,7,7,7,7,7,7,7,7,7,7,7,7,7,7,7,7,7,7,7,7,7,7,7,7,7,7,7,7,7,7,7,7,7,7,7,7,7,7,7,8,8,8,8,8,8,8,8,8,8,8,8,8,8,8,8,8,8,8,8,8,8,8,8,8,8,8,8,8,8,8,8,8,8,8,8,8,8,8,8,8,8,8,8,8,8,8,8,8,8,8,8,8,8,8,8,8,8,8,8,8,8,8,8,8,8,8,8,8,8,8,8,8,8,8,8,8,8,8,8,8,8,8,8,8,8,8,8,8,8,8,8,8,8,8,8,8,8,8,8,8,8,8,8,8,8,8,8,8,8,8,8,8,8,8,8,8,8,8,8,8,8,8,8,8,8,8,8]),s_ 21] .indexStr,o1 23 22 (.conv .i64),o2 24 19 23 bad_,v_ 2 24] .ret)))))
theorem Ku:Bp Tryz.prog 163 1=some ⟨25,1,[(.slot 2)],Hh⟩:=by kernel_rfl
def KS:AC:=(sr_ [ns_ 4] (sr_ [ns_ 5] (sr_ [c1 6 (.int .i64 (-1073741824)) .mv] (.seq (sr_ [v_ 9 1,k1 10 181 9,o1 11 10 ln,z_ 12] (.block 0 (.loop (sr_ [o2 13 12 11 bls_] (.seq (ex_ 13 0) (.seq (.block 1 (sr_ [o2 14 10 12 a2_,o1 15 14 (.load true 2),o0 8 (.alloc (.agg [(.int .i64 0),(.int .i64 0)]) 2),n2 8 15 (.store 2)] (sr_ [v_ 16 5,v_ 17 6,o1 18 8 f0_,o1 19 18 ld,c2 20 19 (.int .i64 1) bsu_,o2 21 17 20 (.build [(.int .i64 0),(.int .i64 0)] [(0,1),(1,1)] [0,1]),o1 22 21 (.bslice 2 1 (.agg [(.int .i64 0),(.int .i64 0)]) [0]),o2 23 16 22 (.app 2 16 (.agg [(.int .i64 0),(.int .i64 0)])),v_ 5 23] (.reg [o1 24 8 f1_,o1 25 24 ld,i1_ 26 25,v_ 6 26])))) (.reg [i1_ 27 12,v_ 12 27]))))))) (sr_ [v_ 28 5,v_ 29 6,c2 30 29 (.int .i64 1073741824) (.build [(.int .i64 0),(.int .i64 0)] [(0,1),(1,1)] [0,1]),o1 31 30 (.bslice 2 1 (.agg [(.int .i64 0),(.int .i64 0)]) [0]),o2 32 28 31 (.app 2 16 (.agg [(.int .i64 0),(.int .i64 0)])),v_ 5 32] (sr_ [v_ 33 0,v_ 34 5,k2 35 182 33 34,v_ 4 35] .ret))))))
theorem Rb:Bp Tryz.prog 165 2=some ⟨36,2,[(.slot 4)],KS⟩:=by kernel_rfl
def KT:AC:=(sr_ [o1 4 0 .box,bf_ 8] (.seq (sr_ [v_ 11 1,k1 12 72 11,o1 13 12 ln,c2 14 13 (.int .i64 0) beq_,v_ 15 14,g_ 16 15 false [s_ 2] .mv,g_ 17 15 false [k_ (.fn 72 []),s_ 16] .call,g_ 18 15 false [s_ 17] ln,g_ 19 15 false [s_ 18,k_ (.int .i64 0)] beq_,m_ 20 [s_ 15,k_ (.bool true),s_ 19] .pick,v_ 21 20,g_ 22 21 false [s_ 4] l6,g_ 23 21 false [k_ (.fn 183 []),s_ 22] .call,g_ 24 21 false [s_ 23] nt,m_ 25 [s_ 21,k_ (.bool true),s_ 24] .pick] (i_ 25 (sr_ [bf_ 8] .ret) .skip)) (.seq (sr_ [o1 26 4 f5_,o1 27 26 ld,o1 28 27 ln,z_ 29] (.block 0 (.loop (sr_ [o2 30 29 28 bls_] (.seq (ex_ 30 0) (.seq (.block 1 (sr_ [o2 31 27 29 a4_,o1 32 31 (.load true 4),o0 10 (.alloc (.agg [(.int .i64 0),(.int .i64 0),(.int .i64 0),(.int .i64 0)]) 4),n2 10 32 (.store 4)] (.seq (.dreg [o1 33 10 (.load true 4),v_ 34 3,k2 35 135 33 34,o1 36 35 nt,v_ 37 36,g_ 38 37 false [s_ 1] .mv,g_ 39 37 false [s_ 38,k_ (.int .i64 2)] beq_,g_ 40 37 false [s_ 39] .mv,g1 41 40 10 (.load true 4),g1 42 40 10 f0_,g1 43 40 42 ld,g_ 44 40 true [k_ (.fn 113 []),s_ 43] .call,g2 45 40 41 44 (.eqs true [1,1,1,1]),g_ 46 37 false [s_ 40,s_ 45,k_ (.bool false)] .pick,m_ 47 [s_ 37,k_ (.bool true),s_ 46] .pick]) (i_ 47 (sr_ [bf_ 8] .ret) .skip)))) (.reg [i1_ 48 29,v_ 29 48]))))))) (sr_ [v_ 49 1,c2 50 49 (.int .i64 2) bne_,v_ 51 50,g_ 52 51 false [s_ 4] f5_,g_ 53 51 false [s_ 52] ld,g_ 54 51 false [s_ 53] ln,g_ 55 51 false [s_ 54,k_ (.int .i64 1)] ble_,m_ 56 [s_ 51,k_ (.bool true),s_ 55] .pick,v_ 57 56,g1 58 57 2 .mv,g_ 59 57 true [s_ 58,k_ (.int .i64 2)] bne_,g1 60 57 59 .mv,g_ 61 60 false [s_ 4] l6,g_ 62 60 false [k_ (.fn 184 []),s_ 61] .call,g_ 63 57 true [s_ 60,k_ (.bool true),s_ 62] .pick,m_ 64 [s_ 57,s_ 63,k_ (.bool false)] .pick,v_ 8 64] .ret))))
theorem Rc:Bp Tryz.prog 166 4=some ⟨65,4,[(.slot 8)],KT⟩:=by kernel_rfl
def KU:AC:=(sr_ [o1 2 0 .box,ns_ 4,bf_ 5] (sr_ [o1 9 2 l6,v_ 10 1,k2 11 185 9 10,v_ 8 11,o1 12 8 (.extract 0),o1 13 8 (.extract 1),v_ 6 12,v_ 7 13] (.seq (sr_ [v_ 14 7,o1 15 14 nt] (i_ 15 (sr_ [ns_ 4,bf_ 5] .ret) .skip)) (.seq (sr_ [v_ 16 6,o1 17 16 ln,c2 18 17 (.int .i64 0) beq_] (i_ 18 (sr_ [ns_ 4,bt_ 5] .ret) .skip)) (.seq (.dtl [o1 19 2 l6,k1 20 137 19,v_ 21 6,k2 22 187 20 21,o1 23 2 f0_,o1 24 23 ld] [k2 25 186 22 24,v_ 4 25,bt_ 5]) .ret)))))
theorem Re:Bp Tryz.prog 167 2=some ⟨26,2,[(.slot 4),(.slot 5)],KU⟩:=by kernel_rfl
def Ml:AC:=(sr_ [ns_ 2] (sr_ [v_ 10 0,o1 11 10 ln,m_ 12 [k_ (.int .i64 0),s_ 11] (.mkSlice 2 16 (.agg [(.int .i64 0),(.int .i64 0)])),v_ 3 12] (.seq (sr_ [v_ 13 0,o1 14 13 ln,z_ 15] (.block 0 (.loop (sr_ [o2 16 15 14 bls_] (.seq (ex_ 16 0) (.seq (.block 1 (sr_ [o2 17 13 15 a2_,o1 18 17 (.load true 2),o0 5 (.alloc (.agg [(.int .i64 0),(.int .i64 0)]) 2),n2 5 18 (.store 2)] (sr_ [o1 19 5 f0_,o1 20 19 ld,c2 21 20 (.int .i64 (-1073741824)) .max,o1 22 5 f1_,o1 23 22 ld,c2 24 23 (.int .i64 1073741824) .min,o1 25 5 f0_,n2 25 21 st,o1 26 5 f1_,n2 26 24 st] (sr_ [o1 27 5 f0_,o1 28 27 ld,o1 29 5 f1_,o1 30 29 ld,o2 31 28 30 ble_] (i_ 31 (.reg [v_ 32 3,o1 33 5 (.load true 2),o1 34 33 (.bslice 2 1 (.agg [(.int .i64 0),(.int .i64 0)]) [0]),o2 35 32 34 (.app 2 16 (.agg [(.int .i64 0),(.int .i64 0)])),v_ 3 35]) .skip))))) (.reg [i1_ 36 15,v_ 15 36]))))))) (sr_ [v_ 37 3,m_ 38 [k_ (.fn 190 []),s_ 37,k_ (.fn 191 [])] .call] (sr_ [v_ 39 3,c2 40 39 (.int .i64 0) (.slice 2 false true false),v_ 6 40] (.seq (sr_ [v_ 41 3,o1 42 41 ln,z_ 43] (.block 2 (.loop (sr_ [o2 44 43 42 bls_] (.seq (ex_ 44 2) (.seq (.block 3 (sr_ [o2 45 41 43 a2_,o1 46 45 (.load true 2),o0 8 (.alloc (.agg [(.int .i64 0),(.int .i64 0)]) 2),n2 8 46 (.store 2)] (.seq (sr_ [v_ 47 6,o1 48 47 ln,v_ 9 48] (.seq (.dreg [v_ 49 9,c2 50 49 (.int .i64 0) bgt_,v_ 51 50,g1 52 51 8 f0_,g1 53 51 52 ld,g1 54 51 6 .mv,g1 55 51 9 .mv,g_ 56 51 true [s_ 55,k_ (.int .i64 1)] bsu_,g2 57 51 54 56 a2_,g1 58 51 57 f1_,g1 59 51 58 ld,g_ 60 51 true [s_ 59,k_ (.int .i64 1)] bad_,g2 61 51 53 60 ble_,m_ 62 [s_ 51,s_ 61,k_ (.bool false)] .pick]) (i_ 62 (.seq (.dtl [v_ 63 6,v_ 64 9,c2 65 64 (.int .i64 1) bsu_,v_ 66 6,v_ 67 9,c2 68 67 (.int .i64 1) bsu_,o2 69 66 68 a2_,o1 70 69 f1_,o1 71 70 ld,o1 72 8 f1_,o1 73 72 ld,o2 74 71 73 .max,o2 75 63 65 a2_,o1 76 75 f1_] [n2 76 74 st]) (.exit 3)) .skip))) (.reg [v_ 77 6,o1 78 8 (.load true 2),o1 79 78 (.bslice 2 1 (.agg [(.int .i64 0),(.int .i64 0)]) [0]),o2 80 77 79 (.app 2 16 (.agg [(.int .i64 0),(.int .i64 0)])),v_ 6 80])))) (.reg [i1_ 81 43,v_ 43 81]))))))) (sr_ [v_ 82 6,v_ 2 82] .ret)))))))
theorem SF:Bp Tryz.prog 181 1=some ⟨83,1,[(.slot 2)],Ml⟩:=by kernel_rfl
def Mm:AC:=(sr_ [ns_ 4] (sr_ [v_ 7 0,k1 8 181 7,v_ 9 1,k1 10 181 9,v_ 0 8,v_ 1 10] (sr_ [ns_ 5] (.seq (.block 0 (.loop (.seq (sr_ [v_ 11 0,o1 12 11 ln,c2 13 12 (.int .i64 0) bgt_,v_ 14 13,g1 15 14 1 .mv,g1 16 14 15 ln,g_ 17 14 true [s_ 16,k_ (.int .i64 0)] bgt_,m_ 18 [s_ 14,s_ 17,k_ (.bool false)] .pick] (ex_ 18 0)) (.block 1 (.seq (.greg [v_ 19 0,c2 20 19 (.int .i64 0) a2_,o1 21 20 f0_,o1 22 21 ld,v_ 23 1,c2 24 23 (.int .i64 0) a2_,o1 25 24 f0_,o1 26 25 ld,o2 27 22 26 .max,v_ 28 0,c2 29 28 (.int .i64 0) a2_,o1 30 29 f1_,o1 31 30 ld,v_ 32 1,c2 33 32 (.int .i64 0) a2_,o1 34 33 f1_,o1 35 34 ld,o2 36 31 35 .min,o2 37 27 36 (.build [(.int .i64 0),(.int .i64 0)] [(0,1),(1,1)] [0,1]),o0 6 (.alloc (.agg [(.int .i64 0),(.int .i64 0)]) 2),n2 6 37 (.store 2)]) (.seq (sr_ [o1 38 6 f0_,o1 39 38 ld,o1 40 6 f1_,o1 41 40 ld,o2 42 39 41 ble_] (i_ 42 (.reg [v_ 43 5,o1 44 6 (.load true 2),o1 45 44 (.bslice 2 1 (.agg [(.int .i64 0),(.int .i64 0)]) [0]),o2 46 43 45 (.app 2 16 (.agg [(.int .i64 0),(.int .i64 0)])),v_ 5 46]) .skip)) (.seq (.dreg [v_ 47 0,c2 48 47 (.int .i64 0) a2_,o1 49 48 f1_,o1 50 49 ld,v_ 51 1,c2 52 51 (.int .i64 0) a2_,o1 53 52 f1_,o1 54 53 ld,o2 55 50 54 bls_]) (i_ 55 (.reg [v_ 56 0,c2 57 56 (.int .i64 1) (.slice 2 true false false),v_ 0 57]) (.reg [v_ 58 1,c2 59 58 (.int .i64 1) (.slice 2 true false false),v_ 1 59]))))))))) (sr_ [v_ 60 5,v_ 4 60] .ret)))))
theorem SG:Bp Tryz.prog 182 2=some ⟨61,2,[(.slot 4)],Mm⟩:=by kernel_rfl
def IZ:AC:=(sr_ [o1 1 0 .box,bf_ 2] (sr_ [o1 3 1 f0_,o1 4 3 ld,k1 5 193 4,v_ 6 5,g1 7 6 1 f4_,g1 8 6 7 ld,g_ 9 6 true [k_ (.fn 193 []),s_ 8] .call,m_ 10 [s_ 6,s_ 9,k_ (.bool false)] .pick,v_ 11 10,g1 12 11 1 l6,g_ 13 11 true [k_ (.fn 137 []),s_ 12] .call,g_ 14 11 true [k_ (.fn 135 []),s_ 13,k_ (.int .i64 1)] .call,m_ 15 [s_ 11,s_ 14,k_ (.bool false)] .pick,v_ 16 15,g1 17 16 1 f5_,g1 18 16 17 ld,g_ 19 16 true [k_ (.fn 194 []),s_ 18] .call,m_ 20 [s_ 16,s_ 19,k_ (.bool false)] .pick,v_ 2 20] .ret))
theorem Nn:Bp Tryz.prog 183 1=some ⟨21,1,[(.slot 2)],IZ⟩:=by kernel_rfl
def KV:AC:=(sr_ [o1 1 0 .box,bf_ 2] (sr_ [o1 3 1 f0_,o1 4 3 ld,c2 5 4 (.int .i64 0) beq_,v_ 6 5,g1 7 6 1 l6,g_ 8 6 true [k_ (.fn 137 []),s_ 7] .call,g_ 9 6 true [k_ (.fn 113 []),k_ (.int .i64 0)] .call,g2 10 6 8 9 (.eqs false [1,1,1,1]),m_ 11 [s_ 6,s_ 10,k_ (.bool false)] .pick,v_ 2 11] .ret))
theorem Rf:Bp Tryz.prog 184 1=some ⟨12,1,[(.slot 2)],KV⟩:=by kernel_rfl
def KW:AC:=(sr_ [o1 2 0 .box,ns_ 4,bf_ 5] (.seq (sr_ [v_ 12 1,o1 13 12 ln,c2 14 13 (.int .i64 4) bgt_,v_ 15 14,g_ 16 15 false [s_ 2] l6,g_ 17 15 false [k_ (.fn 183 []),s_ 16] .call,g_ 18 15 false [s_ 17] nt,m_ 19 [s_ 15,k_ (.bool true),s_ 18] .pick] (i_ 19 (sr_ [ns_ 4,bf_ 5] .ret) .skip)) (sr_ [bt_ 6] (sr_ [v_ 20 1,o1 21 20 ln,o2 22 21 21 (.mkSlice 1 24 .nilS),v_ 7 22] (.seq (sr_ [v_ 23 1,o1 24 23 ln,z_ 25] (.block 0 (.loop (sr_ [o2 26 25 24 bls_] (.seq (ex_ 26 0) (.seq (.block 1 (sr_ [v_ 27 25,o2 28 23 25 a1_,o1 29 28 ld,v_ 8 27,v_ 9 29] (sr_ [v_ 30 7,v_ 31 8,v_ 32 9,k0 33 195,k2 34 182 32 33,o2 35 30 31 a1_,n2 35 34 st] (.reg [v_ 36 6,v_ 37 36,g1 38 37 7 .mv,g1 39 37 8 .mv,g2 40 37 38 39 a1_,g1 41 37 40 ld,g1 42 37 41 ln,g_ 43 37 true [s_ 42,k_ (.int .i64 0)] bgt_,m_ 44 [s_ 37,s_ 43,k_ (.bool false)] .pick,v_ 6 44])))) (.reg [i1_ 45 25,v_ 25 45]))))))) (.seq (sr_ [o1 46 2 f5_,o1 47 46 ld,o1 48 47 ln,z_ 49] (.block 2 (.loop (sr_ [o2 50 49 48 bls_] (.seq (ex_ 50 2) (.seq (.block 3 (sr_ [o2 51 47 49 a4_,o1 52 51 (.load true 4),o0 11 (.alloc (.agg [(.int .i64 0),(.int .i64 0),(.int .i64 0),(.int .i64 0)]) 4),n2 11 52 (.store 4)] (sr_ [o1 53 11 (.load true 4),v_ 54 1,o1 55 54 ln,k2 56 135 53 55,o1 57 56 nt] (i_ 57 (sr_ [ns_ 4,bf_ 5] .ret) .skip)))) (.reg [i1_ 58 49,v_ 49 58]))))))) (.seq (sr_ [v_ 59 6,o1 60 59 nt] (i_ 60 (sr_ [ns_ 4,bt_ 5] .ret) .skip)) (sr_ [o1 61 2 l6,v_ 62 7,k2 63 196 61 62,o1 64 63 (.extract 0),o1 65 63 (.extract 1),v_ 4 64,v_ 5 65] .ret))))))))
theorem Rh:Bp Tryz.prog 185 2=some ⟨66,2,[(.slot 4),(.slot 5)],KW⟩:=by kernel_rfl
def Mn:AC:=(sr_ [ns_ 4] (.seq (sr_ [v_ 7 1,c2 8 7 (.int .i64 (-2147483648)) bls_,v_ 9 8,g_ 10 9 false [s_ 1] .mv,g_ 11 9 false [s_ 10,k_ (.int .i64 2147483648)] bgt_,m_ 12 [s_ 9,k_ (.bool true),s_ 11] .pick] (i_ 12 (sr_ [ns_ 4] .ret) .skip)) (sr_ [v_ 13 0,k1 14 181 13,v_ 5 14] (.seq (sr_ [v_ 15 5,o1 16 15 ln,z_ 17] (.block 0 (.loop (sr_ [o2 18 17 16 bls_] (.seq (ex_ 18 0) (.seq (.block 1 (sr_ [v_ 19 17,v_ 6 19] (sr_ [v_ 20 5,v_ 21 6,o2 22 20 21 a2_,o1 23 22 f0_,o1 24 23 ld,v_ 25 1,o2 26 24 25 bad_,o2 27 20 21 a2_,o1 28 27 f0_,n2 28 26 st] (.reg [v_ 29 5,v_ 30 6,o2 31 29 30 a2_,o1 32 31 f1_,o1 33 32 ld,v_ 34 1,o2 35 33 34 bad_,o2 36 29 30 a2_,o1 37 36 f1_,n2 37 35 st])))) (.reg [i1_ 38 17,v_ 17 38]))))))) (sr_ [v_ 39 5,k1 40 181 39,v_ 4 40] .ret)))))
theorem SH:Bp Tryz.prog 186 2=some ⟨41,2,[(.slot 4)],Mn⟩:=by kernel_rfl
def If:AC:=(sr_ [o1 2 0 .box,ns_ 4] (.seq (sr_ [o1 13 2 (.load true 4),k1 14 153 13,o1 15 14 nt] (i_ 15 (sr_ [ns_ 4] .ret) .skip)) (sr_ [o1 16 2 f2_,o1 17 16 ld,m_ 18 [k_ (.int .i64 1),s_ 17] (.bin .shl),c2 19 18 (.int .i64 1) bsu_,v_ 5 19] (sr_ [ns_ 6] (.seq (sr_ [v_ 20 1,m_ 21 [k_ (.int .i64 0),k_ (.int .i64 2097151)] (.build [(.int .i64 0),(.int .i64 0)] [(0,1),(1,1)] [0,1]),o1 22 21 (.bslice 2 1 (.agg [(.int .i64 0),(.int .i64 0)]) [0]),k2 23 182 20 22,o1 24 23 ln,z_ 25] (.block 0 (.loop (sr_ [o2 26 25 24 bls_] (.seq (ex_ 26 0) (.seq (.block 1 (sr_ [o2 27 23 25 a2_,o1 28 27 (.load true 2),o0 8 (.alloc (.agg [(.int .i64 0),(.int .i64 0)]) 2),n2 8 28 (.store 2)] (.seq (.dreg [o1 29 8 f0_,o1 30 29 ld,o1 31 2 f1_,o1 32 31 ld,o2 33 30 32 (.bin .shr),o1 34 8 f1_,o1 35 34 ld,o1 36 2 f1_,o1 37 36 ld,o2 38 35 37 (.bin .shr),v_ 9 33,v_ 10 38]) (.seq (sr_ [v_ 39 10,v_ 40 9,o2 41 39 40 bsu_,v_ 42 5,o2 43 41 42 bge_] (i_ 43 (sr_ [v_ 44 5,m_ 45 [k_ (.int .i64 0),s_ 44] (.build [(.int .i64 0),(.int .i64 0)] [(0,1),(1,1)] [0,1]),o1 46 45 (.bslice 2 1 (.agg [(.int .i64 0),(.int .i64 0)]) [0]),v_ 6 46] (.exit 0)) .skip)) (sr_ [v_ 47 9,v_ 48 5,o2 49 47 48 (.bin .and),v_ 50 10,v_ 51 5,o2 52 50 51 (.bin .and),o2 53 49 52 ble_] (i_ 53 (.reg [v_ 54 6,v_ 55 9,v_ 56 5,o2 57 55 56 (.bin .and),v_ 58 10,v_ 59 5,o2 60 58 59 (.bin .and),o2 61 57 60 (.build [(.int .i64 0),(.int .i64 0)] [(0,1),(1,1)] [0,1]),o1 62 61 (.bslice 2 1 (.agg [(.int .i64 0),(.int .i64 0)]) [0]),o2 63 54 62 (.app 2 16 (.agg [(.int .i64 0),(.int .i64 0)])),v_ 6 63]) (.reg [v_ 64 6,v_ 65 10,v_ 66 5,o2 67 65 66 (.bin .and),m_ 68 [k_ (.int .i64 0),s_ 67] (.build [(.int .i64 0),(.int .i64 0)] [(0,1),(1,1)] [0,1]),v_ 69 9,v_ 70 5,o2 71 69 70 (.bin .and),v_ 72 5,o2 73 71 72 (.build [(.int .i64 0),(.int .i64 0)] [(0,1),(1,1)] [0,1]),o2 74 68 73 (.bslice 2 2 (.agg [(.int .i64 0),(.int .i64 0)]) [0,1]),o2 75 64 74 (.app 2 16 (.agg [(.int .i64 0),(.int .i64 0)])),v_ 6 75]))))))) (.reg [i1_ 76 25,v_ 25 76]))))))) (sr_ [v_ 77 6,k1 78 181 77,v_ 6 78] (.seq (sr_ [o1 79 2 f3_,o1 80 79 ld,c2 81 80 (.int .i64 0) beq_] (i_ 81 (sr_ [v_ 82 6,v_ 4 82] .ret) .skip)) (sr_ [o0 11 (.alloc .nilS 1)] (.seq (sr_ [v_ 83 6,k1 84 197 83] (.block 2 (.rng (.slot 84) [85] (.reg [v_ 12 85]) (.block 3 (.dtl [o1 86 11 ld,v_ 87 12,o1 88 2 f3_,o1 89 88 ld,o2 90 87 89 (.bin .shl),v_ 91 12,o1 92 2 f3_,o1 93 92 ld,o2 94 91 93 (.bin .shl),o2 95 90 94 (.build [(.int .i64 0),(.int .i64 0)] [(0,1),(1,1)] [0,1]),o1 96 95 (.bslice 2 1 (.agg [(.int .i64 0),(.int .i64 0)]) [0])] [o2 97 86 96 (.app 2 16 (.agg [(.int .i64 0),(.int .i64 0)])),n2 11 97 st]))))) (sr_ [o1 98 11 ld,k1 99 181 98,v_ 4 99] .ret))))))))))
theorem KX:Bp Tryz.prog 187 2=some ⟨100,2,[(.slot 4)],If⟩:=by kernel_rfl
def DO:AC:=(sr_ [v_ 5 0,o1 6 5 ln,v_ 4 6] (.reg [v_ 7 0,v_ 8 4,v_ 9 4,o1 10 9 (.conv .u64),k1 11 139 10,v_ 12 1,m_ 13 [k_ (.fn 198 []),s_ 7,k_ (.int .i64 0),s_ 8,s_ 11,s_ 12] .call]))
theorem F4:Bp Tryz.prog 190 2=some ⟨14,2,[],DO⟩:=by kernel_rfl
def KY:AC:=(sr_ [bf_ 2] (sr_ [v_ 3 0,c2 4 3 (.int .i64 (-1114111)) bge_,v_ 5 4,g1 6 5 0 .mv,g_ 7 5 true [s_ 6,k_ (.int .i64 1114111)] ble_,m_ 8 [s_ 5,s_ 7,k_ (.bool false)] .pick,v_ 2 8] .ret))
theorem Ri:Bp Tryz.prog 193 1=some ⟨9,1,[(.slot 2)],KY⟩:=by kernel_rfl
def JR:AC:=(sr_ [bf_ 2] (.seq (sr_ [v_ 5 0,o1 6 5 ln,z_ 7] (.block 0 (.loop (sr_ [o2 8 7 6 bls_] (.seq (ex_ 8 0) (.seq (.block 1 (sr_ [v_ 9 7,o2 10 5 7 a4_,o1 11 10 (.load true 4),o0 4 (.alloc (.agg [(.int .i64 0),(.int .i64 0),(.int .i64 0),(.int .i64 0)]) 4),v_ 3 9,n2 4 11 (.store 4)] (.seq (.dreg [v_ 12 3,c2 13 12 (.int .i64 0) bgt_,v_ 14 13,g1 15 14 4 f3_,g1 16 14 15 ld,g1 17 14 0 .mv,g1 18 14 3 .mv,g_ 19 14 true [s_ 18,k_ (.int .i64 1)] bsu_,g2 20 14 17 19 a4_,g1 21 14 20 f3_,g1 22 14 21 ld,g2 23 14 16 22 ble_,m_ 24 [s_ 14,s_ 23,k_ (.bool false)] .pick]) (i_ 24 (sr_ [bf_ 2] .ret) .skip)))) (.reg [i1_ 25 7,v_ 7 25]))))))) (sr_ [v_ 26 0,o1 27 26 ln,c2 28 27 (.int .i64 4) ble_,v_ 2 28] .ret)))
theorem Ph:Bp Tryz.prog 194 1=some ⟨29,1,[(.slot 2)],JR⟩:=by kernel_rfl
def Ja:AC:=(sr_ [ns_ 0] (sr_ [m_ 1 [k_ (.int .i64 0),k_ (.int .i64 1114111)] (.build [(.int .i64 0),(.int .i64 0)] [(0,1),(1,1)] [0,1]),o1 2 1 (.bslice 2 1 (.agg [(.int .i64 0),(.int .i64 0)]) [0]),v_ 0 2] .ret))
theorem No:Bp Tryz.prog 195 0=some ⟨3,0,[(.slot 0)],Ja⟩:=by kernel_rfl
def JS:AC:=(sr_ [o1 2 0 .box,ns_ 4,bf_ 5] (sr_ [o0 17 .mkMap,v_ 6 17] (sr_ [ns_ 7] (.seq (sr_ [o1 18 2 f5_,o1 19 18 ld,o1 20 19 ln,z_ 21] (.block 0 (.loop (sr_ [o2 22 21 20 bls_] (.seq (ex_ 22 0) (.seq (.block 1 (sr_ [o2 23 19 21 a4_,o1 24 23 (.load true 4),o0 9 (.alloc (.agg [(.int .i64 0),(.int .i64 0),(.int .i64 0),(.int .i64 0)]) 4),n2 9 24 (.store 4)] (.seq (sr_ [v_ 25 6,o1 26 9 f0_,o1 27 26 ld,o2 28 25 27 (.mapGet .nilS),o1 29 28 ln,c2 30 29 (.int .i64 0) beq_] (i_ 30 (.reg [v_ 31 7,o1 32 9 f0_,o1 33 32 ld,o1 34 33 (.bslice 1 1 (.int .i64 0) [0]),o2 35 31 34 (.app 1 8 (.int .i64 0)),v_ 7 35]) .skip)) (.grx [false,true,true,false,true,true,false,true,false,false,false] [m_ 36 [s_ 6] .mv,m_ 37 [s_ 9] f0_,m_ 38 [s_ 37] ld,m_ 39 [s_ 6] .mv,m_ 40 [s_ 9] f0_,m_ 41 [s_ 40] ld,m_ 42 [s_ 39,s_ 41] (.mapGet .nilS),m_ 43 [s_ 9] (.load true 4),m_ 44 [s_ 43] (.bslice 4 1 (.agg [(.int .i64 0),(.int .i64 0),(.int .i64 0),(.int .i64 0)]) [0]),m_ 45 [s_ 42,s_ 44] (.app 4 32 (.agg [(.int .i64 0),(.int .i64 0),(.int .i64 0),(.int .i64 0)])),h_ [s_ 36,s_ 38,s_ 45] .mapSet])))) (.reg [i1_ 46 21,v_ 21 46]))))))) (sr_ [o1 47 2 f4_,o1 48 47 ld,o1 49 2 f4_,o1 50 49 ld,o2 51 48 50 (.build [(.int .i64 0),(.int .i64 0)] [(0,1),(1,1)] [0,1]),o1 52 51 (.bslice 2 1 (.agg [(.int .i64 0),(.int .i64 0)]) [0]),v_ 10 52] (.seq (sr_ [v_ 53 7,o1 54 53 ln,z_ 55] (.block 2 (.loop (sr_ [o2 56 55 54 bls_] (.seq (ex_ 56 2) (.seq (.block 3 (sr_ [o2 57 53 55 a1_,o1 58 57 ld,v_ 12 58] (.dtl [v_ 59 10,v_ 60 6,v_ 61 12,o2 62 60 61 (.mapGet .nilS),v_ 63 1,v_ 64 12,o2 65 63 64 a1_,o1 66 65 ld,k2 67 201 62 66] [k2 68 200 59 67,v_ 10 68]))) (.reg [i1_ 69 55,v_ 55 69]))))))) (sr_ [v_ 71 10,k1 72 202 71,v_ 70 72,o1 73 70 (.extract 0),o1 74 70 (.extract 1),v_ 13 73,v_ 14 74] (sr_ [v_ 76 10,k1 77 203 76,v_ 75 77,o1 78 75 (.extract 0),o1 79 75 (.extract 1),v_ 15 78,v_ 16 79] (sr_ [v_ 80 10,v_ 81 10,o1 82 81 ln,c2 83 82 (.int .i64 0) bgt_,v_ 84 83,g1 85 84 13 .mv,g_ 86 84 true [s_ 85,k_ (.int .i64 0)] bge_,m_ 87 [s_ 84,s_ 86,k_ (.bool false)] .pick,v_ 88 87,g1 89 88 15 .mv,g_ 90 88 true [s_ 89,k_ (.int .i64 1114111)] ble_,m_ 91 [s_ 88,s_ 90,k_ (.bool false)] .pick,v_ 4 80,v_ 5 91] .ret)))))))))
theorem Pi:Bp Tryz.prog 196 2=some ⟨92,2,[(.slot 4),(.slot 5)],JS⟩:=by kernel_rfl
def Mo:AC:=(sr_ [c1 2 .nilF .mv] (sr_ [v_ 4 0,k1 5 181 4,o0 3 (.alloc .nilS 1),n2 3 5 st] (sr_ [o1 6 3 (.mkFunc 204),v_ 2 6] .ret)))
theorem SI:Bp Tryz.prog 197 1=some ⟨7,1,[(.slot 2)],Mo⟩:=by kernel_rfl
def Er:AC:=(sr_ [bt_ 10] (sr_ [bt_ 11] (.block 0 (.loop (.block 1 (sr_ [v_ 21 2,v_ 22 1,o2 23 21 22 bsu_,v_ 12 23] (.seq (sr_ [v_ 24 12,c2 25 24 (.int .i64 12) ble_] (i_ 25 (sr_ [v_ 26 0,v_ 27 1,v_ 28 2,v_ 29 4,m_ 30 [k_ (.fn 205 []),s_ 26,s_ 27,s_ 28,s_ 29] .call] .ret) .skip)) (.seq (sr_ [v_ 31 3,c2 32 31 (.int .i64 0) beq_] (i_ 32 (sr_ [v_ 33 0,v_ 34 1,v_ 35 2,v_ 36 4,m_ 37 [k_ (.fn 206 []),s_ 33,s_ 34,s_ 35,s_ 36] .call] .ret) .skip)) (.seq (sr_ [v_ 38 10,o1 39 38 nt] (i_ 39 (sr_ [v_ 40 0,v_ 41 1,v_ 42 2,v_ 43 4,m_ 44 [k_ (.fn 207 []),s_ 40,s_ 41,s_ 42,s_ 43] .call] (.reg [v_ 45 3,c2 46 45 (.int .i64 1) bsu_,v_ 3 46])) .skip)) (sr_ [v_ 48 0,v_ 49 1,v_ 50 2,v_ 51 4,m_ 52 [k_ (.fn 208 []),s_ 48,s_ 49,s_ 50,s_ 51] .call,v_ 47 52,o1 53 47 (.extract 0),o1 54 47 (.extract 1),v_ 13 53,v_ 14 54] (.seq (sr_ [v_ 55 14,c2 56 55 (.int .i64 2) beq_] (i_ 56 (sr_ [v_ 57 0,v_ 58 1,v_ 59 2,v_ 60 4,m_ 61 [k_ (.fn 209 []),s_ 57,s_ 58,s_ 59,s_ 60] .call] (sr_ [v_ 62 2,c2 63 62 (.int .i64 1) bsu_,v_ 64 13,v_ 65 1,o2 66 64 65 bsu_,o2 67 63 66 bsu_,v_ 13 67] (.reg [c1 14 (.int .i64 1) .mv]))) .skip)) (.seq (sr_ [v_ 68 10,v_ 69 68,g1 70 69 11 .mv,m_ 71 [s_ 69,s_ 70,k_ (.bool false)] .pick,v_ 72 71,g1 73 72 14 .mv,g_ 74 72 true [s_ 73,k_ (.int .i64 1)] beq_,m_ 75 [s_ 72,s_ 74,k_ (.bool false)] .pick] (i_ 75 (sr_ [v_ 76 0,v_ 77 1,v_ 78 2,v_ 79 4,m_ 80 [k_ (.fn 210 []),s_ 76,s_ 77,s_ 78,s_ 79] .call] (i_ 80 .ret .skip)) .skip)) (.seq (.seq (.dtl [v_ 81 1,c2 82 81 (.int .i64 0) bgt_,v_ 83 82,g1 84 83 4 .mv,g1 85 83 0 .mv,g1 86 83 1 .mv,g_ 87 83 true [s_ 86,k_ (.int .i64 1)] bsu_,g2 88 83 85 87 a2_,g1 89 83 88 (.load true 2),g1 90 83 0 .mv,g1 91 83 13 .mv,g2 92 83 90 91 a2_,g1 93 83 92 (.load true 2)] [g_ 94 83 true [s_ 84,s_ 89,s_ 93] .call,g_ 95 83 true [s_ 94,k_ (.int .i64 0)] bls_,g1 96 83 95 nt,m_ 97 [s_ 83,s_ 96,k_ (.bool false)] .pick]) (i_ 97 (sr_ [v_ 98 0,v_ 99 1,v_ 100 2,v_ 101 13,v_ 102 4,m_ 103 [k_ (.fn 211 []),s_ 98,s_ 99,s_ 100,s_ 101,s_ 102] .call,v_ 15 103] (sr_ [v_ 104 15,v_ 1 104] (.exit 1))) .skip)) (sr_ [v_ 106 0,v_ 107 1,v_ 108 2,v_ 109 13,v_ 110 4,m_ 111 [k_ (.fn 212 []),s_ 106,s_ 107,s_ 108,s_ 109,s_ 110] .call,v_ 105 111,o1 112 105 (.extract 0),o1 113 105 (.extract 1),v_ 16 112,v_ 17 113] (sr_ [v_ 114 17,v_ 11 114] (sr_ [v_ 115 16,v_ 116 1,o2 117 115 116 bsu_,v_ 118 2,v_ 119 16,o2 120 118 119 bsu_,v_ 18 117,v_ 19 120] (sr_ [v_ 121 12,c2 122 121 (.int .i64 8) (.bin .quo),v_ 20 122] (sr_ [v_ 123 18,v_ 124 19,o2 125 123 124 bls_] (i_ 125 (sr_ [v_ 126 18,v_ 127 20,o2 128 126 127 bge_,v_ 10 128] (sr_ [v_ 129 0,v_ 130 1,v_ 131 16,v_ 132 3,v_ 133 4,m_ 134 [k_ (.fn 198 []),s_ 129,s_ 130,s_ 131,s_ 132,s_ 133] .call] (.reg [v_ 135 16,i1_ 136 135,v_ 1 136]))) (sr_ [v_ 137 19,v_ 138 20,o2 139 137 138 bge_,v_ 10 139] (sr_ [v_ 140 0,v_ 141 16,i1_ 142 141,v_ 143 2,v_ 144 3,v_ 145 4,m_ 146 [k_ (.fn 198 []),s_ 140,s_ 142,s_ 143,s_ 144,s_ 145] .call] (.reg [v_ 147 16,v_ 2 147]))))))))))))))))))))))
theorem FH:Bp Tryz.prog 198 5=some ⟨148,5,[],Er⟩:=by kernel_rfl
def Mp:AC:=(sr_ [ns_ 4] (sr_ [ns_ 5] (.seq (sr_ [v_ 10 0,o1 11 10 ln,z_ 12] (.block 0 (.loop (sr_ [o2 13 12 11 bls_] (.seq (ex_ 13 0) (.seq (.block 1 (sr_ [o2 14 10 12 a2_,o1 15 14 (.load true 2),o0 7 (.alloc (.agg [(.int .i64 0),(.int .i64 0)]) 2),n2 7 15 (.store 2)] (.seq (sr_ [v_ 16 1,o1 17 16 ln,z_ 18] (.block 2 (.loop (sr_ [o2 19 18 17 bls_] (.seq (ex_ 19 2) (.seq (.block 3 (sr_ [o2 20 16 18 a2_,o1 21 20 (.load true 2),o0 9 (.alloc (.agg [(.int .i64 0),(.int .i64 0)]) 2),n2 9 21 (.store 2)] (.reg [v_ 22 5,o1 23 7 f0_,o1 24 23 ld,o1 25 9 f0_,o1 26 25 ld,o2 27 24 26 bad_,o1 28 7 f1_,o1 29 28 ld,o1 30 9 f1_,o1 31 30 ld,o2 32 29 31 bad_,o2 33 27 32 (.build [(.int .i64 0),(.int .i64 0)] [(0,1),(1,1)] [0,1]),o1 34 33 (.bslice 2 1 (.agg [(.int .i64 0),(.int .i64 0)]) [0]),o2 35 22 34 (.app 2 16 (.agg [(.int .i64 0),(.int .i64 0)])),v_ 5 35]))) (.reg [i1_ 36 18,v_ 18 36]))))))) (sr_ [v_ 37 5,o1 38 37 ln,c2 39 38 (.int .i64 65536) bgt_] (i_ 39 (.reg [v_ 40 5,k1 41 181 40,v_ 5 41]) .skip))))) (.reg [i1_ 42 12,v_ 12 42]))))))) (sr_ [v_ 43 5,k1 44 181 43,v_ 4 44] .ret))))
theorem SJ:Bp Tryz.prog 200 2=some ⟨45,2,[(.slot 4)],Mp⟩:=by kernel_rfl
def Ig:AC:=(sr_ [o1 2 0 .box,ns_ 4] (.seq (sr_ [o1 13 2 ld,o1 14 13 ln,c2 15 14 (.int .i64 1) beq_] (i_ 15 (sr_ [o1 16 2 ld,c2 17 16 (.int .i64 0) a4_,o1 18 17 (.load true 4),v_ 19 1,k2 20 187 18 19,v_ 4 20] .ret) .skip)) (sr_ [o0 5 (.alloc .nilS 1)] (.seq (sr_ [v_ 21 1,k1 22 197 21] (.block 0 (.rng (.slot 22) [23] (.reg [v_ 6 23]) (.block 1 (sr_ [z_ 7] (.seq (sr_ [o1 24 2 ld,o1 25 24 ln,z_ 26] (.block 2 (.loop (sr_ [o2 27 26 25 bls_] (.seq (ex_ 27 2) (.seq (.block 3 (sr_ [o2 28 24 26 a4_,o1 29 28 (.load true 4),o0 9 (.alloc (.agg [(.int .i64 0),(.int .i64 0),(.int .i64 0),(.int .i64 0)]) 4),n2 9 29 (.store 4)] (sr_ [o1 31 9 (.load true 4),v_ 32 6,k2 33 136 31 32,v_ 30 33,o1 34 30 (.extract 0),o1 35 30 (.extract 1),v_ 10 34,v_ 11 35] (.reg [v_ 36 7,v_ 37 10,o2 38 36 37 bad_,v_ 7 38])))) (.reg [i1_ 39 26,v_ 26 39]))))))) (sr_ [o1 40 5 ld,o1 41 40 ln,v_ 12 41] (sr_ [v_ 42 12,c2 43 42 (.int .i64 0) bgt_,v_ 44 43,g1 45 44 5 ld,g1 46 44 12 .mv,g_ 47 44 true [s_ 46,k_ (.int .i64 1)] bsu_,g2 48 44 45 47 a2_,g1 49 44 48 f1_,g1 50 44 49 ld,g1 51 44 7 .mv,g_ 52 44 true [s_ 51,k_ (.int .i64 1)] bsu_,g2 53 44 50 52 beq_,m_ 54 [s_ 44,s_ 53,k_ (.bool false)] .pick] (i_ 54 (.reg [o1 55 5 ld,v_ 56 12,c2 57 56 (.int .i64 1) bsu_,v_ 58 7,o2 59 55 57 a2_,o1 60 59 f1_,n2 60 58 st]) (.reg [o1 61 5 ld,v_ 62 7,v_ 63 7,o2 64 62 63 (.build [(.int .i64 0),(.int .i64 0)] [(0,1),(1,1)] [0,1]),o1 65 64 (.bslice 2 1 (.agg [(.int .i64 0),(.int .i64 0)]) [0]),o2 66 61 65 (.app 2 16 (.agg [(.int .i64 0),(.int .i64 0)])),n2 5 66 st])))))))))) (sr_ [o1 67 5 ld,k1 68 181 67,v_ 4 68] .ret)))))
theorem Mq:Bp Tryz.prog 201 2=some ⟨69,2,[(.slot 4)],Ig⟩:=by kernel_rfl
def KZ:AC:=(sr_ [z_ 2,bf_ 3] (sr_ [v_ 5 0,k1 6 181 5,v_ 4 6] (.seq (sr_ [v_ 7 4,o1 8 7 ln,c2 9 8 (.int .i64 0) beq_] (i_ 9 (sr_ [z_ 2,bf_ 3] .ret) .skip)) (sr_ [v_ 10 4,c2 11 10 (.int .i64 0) a2_,o1 12 11 f0_,o1 13 12 ld,v_ 2 13,bt_ 3] .ret))))
theorem Rj:Bp Tryz.prog 202 1=some ⟨14,1,[(.slot 2),(.slot 3)],KZ⟩:=by kernel_rfl
def Mr:AC:=(sr_ [z_ 2,bf_ 3] (sr_ [v_ 5 0,k1 6 181 5,v_ 4 6] (.seq (sr_ [v_ 7 4,o1 8 7 ln,c2 9 8 (.int .i64 0) beq_] (i_ 9 (sr_ [z_ 2,bf_ 3] .ret) .skip)) (sr_ [v_ 10 4,v_ 11 4,o1 12 11 ln,c2 13 12 (.int .i64 1) bsu_,o2 14 10 13 a2_,o1 15 14 f1_,o1 16 15 ld,v_ 2 16,bt_ 3] .ret))))
theorem SK:Bp Tryz.prog 203 1=some ⟨17,1,[(.slot 2),(.slot 3)],Mr⟩:=by kernel_rfl
def H6:AC:=(sr_ [o1 6 1 ld,o1 7 6 ln,z_ 8] (.block 0 (.loop (sr_ [o2 9 8 7 bls_] (.seq (ex_ 9 0) (.seq (.block 1 (sr_ [o2 10 6 8 a2_,o1 11 10 (.load true 2),o0 4 (.alloc (.agg [(.int .i64 0),(.int .i64 0)]) 2),n2 4 11 (.store 2)] (sr_ [o1 12 4 f0_,o1 13 12 ld,v_ 5 13] (.block 2 (.loop (.seq (sr_ [v_ 14 5,o1 15 4 f1_,o1 16 15 ld,o2 17 14 16 ble_] (ex_ 17 2)) (.seq (.block 3 (sr_ [v_ 20 0,v_ 21 5,o2 22 20 21 .call,o1 23 22 nt] (i_ 23 .ret .skip))) (.reg [v_ 18 5,i1_ 19 18,v_ 5 19])))))))) (.reg [i1_ 24 8,v_ 8 24])))))))
theorem Pj:Bp Tryz.prog 204 2=some ⟨25,2,[],H6⟩:=by kernel_rfl
def Dt:AC:=(sr_ [v_ 10 1,i1_ 11 10,v_ 8 11] (.block 0 (.loop (.seq (sr_ [v_ 12 8,v_ 13 2,o2 14 12 13 bls_] (ex_ 14 0)) (.seq (.block 1 (sr_ [v_ 17 8,v_ 9 17] (.block 2 (.loop (.seq (.seq (.dtl [v_ 18 9,v_ 19 1,o2 20 18 19 bgt_,v_ 21 20,g1 22 21 3 .mv,g1 23 21 0 .mv,g1 24 21 9 .mv,g2 25 21 23 24 a2_,g1 26 21 25 (.load true 2),g1 27 21 0 .mv,g1 28 21 9 .mv,g_ 29 21 true [s_ 28,k_ (.int .i64 1)] bsu_,g2 30 21 27 29 a2_,g1 31 21 30 (.load true 2)] [g_ 32 21 true [s_ 22,s_ 26,s_ 31] .call,g_ 33 21 true [s_ 32,k_ (.int .i64 0)] bls_,m_ 34 [s_ 21,s_ 33,k_ (.bool false)] .pick]) (ex_ 34 2)) (.seq (.block 3 (.greg [v_ 37 0,v_ 38 9,v_ 39 0,v_ 40 9,c2 41 40 (.int .i64 1) bsu_,v_ 42 0,v_ 43 9,c2 44 43 (.int .i64 1) bsu_,o2 45 42 44 a2_,o1 46 45 (.load true 2),v_ 47 0,v_ 48 9,o2 49 47 48 a2_,o1 50 49 (.load true 2),o2 51 37 38 a2_,n2 51 46 (.store 2),o2 52 39 41 a2_,n2 52 50 (.store 2)])) (.reg [v_ 35 9,c2 36 35 (.int .i64 1) bsu_,v_ 9 36]))))))) (.reg [v_ 15 8,i1_ 16 15,v_ 8 16]))))))
theorem Fe:Bp Tryz.prog 205 4=some ⟨53,4,[],Dt⟩:=by kernel_rfl
set_option maxRecDepth 100000
open Abs O1 O2 O3
theorem GF{P:Program}{f m np b:Nat}{xs:List AV}{l:List Grp}{K:AV->As->Prop}{res:List ARes}{B:AC}(hf:Bp P f xs.length=some ⟨m,np,res,B⟩)(hb:b=l.length)(h:W P m b B (entry xs) (Abs.hl l) (Ret P res K)):B4 P f xs (Abs.hl l) K:=by
 subst hb;exact K6 hf (W_T h)
theorem zbm(l:List Span):B4 Tryz.prog 205 [.ref 0 1 0 0,.int .i64 0,.int .i64 0,.fn 191 []] (Abs.hl [⟨2,1,true,l.map C3⟩]) λy H'=>y=.tup []/\H'=Abs.hl [⟨2,1,true,l.map C3⟩]:=by
 refine GF (b:=1) Fe rfl ?_;unfold Dt;(with_reducible repeat'(first|simp (disch:=omega) only[push_cast,↓zz,seval]|apply Aa|refine sp_ ?_ ?_<;>intro hc<;>push_cast at hc|omega|intro _))
 refine Bv (B8 (λ(_:Unit)=>True) (λ_=>0) (λ_=>[(0,.ref 0 1 0 0),(1,.int .i64 0),(2,.int .i64 0),(3,.fn 191 []),(8,.int .i64 1)])
  (λ_=>[⟨2,1,true,l.map C3⟩]) (λ_ _=>[]) () trivial ?_ ?_)
 ·(with_reducible repeat'(first|simp (disch:=omega) only[push_cast,↓zz,seval]|apply Aa|refine sp_ ?_ ?_<;>intro hc<;>push_cast at hc|omega|intro _))
 rintro _ _;refine W_T ?_;(with_reducible repeat'(first|simp (disch:=omega) only[push_cast,↓zz,seval]|apply Aa|refine sp_ ?_ ?_<;>intro hc<;>push_cast at hc|omega|intro _))
 all_goals trace_state
set_option maxRecDepth 100000 in
theorem len0:PC Tryz.prog 163 [.int .u64 0] (.int .i64 0):=by
 refine Ct Ku ?_;unfold Hh;(with_reducible repeat'(first|simp (disch:=omega) only[push_cast,↓zz,seval]|apply Aa|refine sp_ ?_ ?_<;>intro hc<;>push_cast at hc|omega|intro _))
 all_goals decide
theorem z47:PC Tryz.prog 139 [.int .u64 0] (.int .i64 0):=by
 refine Ct Mi ?_;unfold Ie;(with_reducible repeat'(first|simp (disch:=omega) only[push_cast,↓zz,seval]|apply Aa|refine sp_ ?_ ?_<;>intro hc<;>push_cast at hc|refine ee len0 ?_|(refine cc len0 ?_;(simp(disch:=omega)only[push_cast,↓zz,seval]);(fail_if_success change False))|omega|intro _))
theorem pdq0(l:List Span):B4 Tryz.prog 198 [.ref 0 1 0 0,.int .i64 0,.int .i64 0,.int .i64 0,.fn 191 []] (Abs.hl [⟨2,1,true,l.map C3⟩]) λy H'=>y=.tup []/\H'=Abs.hl [⟨2,1,true,l.map C3⟩]:=by
 refine GF (b:=1) FH rfl ?_;unfold Er;(with_reducible repeat'(first|simp (disch:=omega) only[push_cast,↓zz,seval]|apply Aa|refine sp_ ?_ ?_<;>intro hc<;>push_cast at hc|omega|intro _))
 refine Bv (B8 (λ(_:Unit)=>True) (λ_=>0) (λ_=>[(0,.ref 0 1 0 0),(1,.int .i64 0),(2,.int .i64 0),(3,.int .i64 0),(4,.fn 191 []),(10,.bool true),(11,.bool true)])
  (λ_=>[⟨2,1,true,l.map C3⟩]) (λ_ _=>[]) () trivial ?_ ?_)
 ·(with_reducible repeat'(first|simp (disch:=omega) only[push_cast,↓zz,seval]|apply Aa|refine sp_ ?_ ?_<;>intro hc<;>push_cast at hc|omega|intro _))
 rintro _ _;refine W_T ?_;(with_reducible repeat'(first|simp (disch:=omega) only[push_cast,↓zz,seval]|apply Aa|refine sp_ ?_ ?_<;>intro hc<;>push_cast at hc|omega|intro _));refine B4.mono (zbm l) ?_;rintro y H' ⟨rfl,rfl⟩;(with_reducible repeat'(first|simp (disch:=omega) only[push_cast,↓zz,seval]|apply Aa|refine sp_ ?_ ?_<;>intro hc<;>push_cast at hc|omega|intro _))
 all_goals trace_state
theorem sort0(l:List Span):B4 Tryz.prog 190 [.ref 0 1 0 0,.fn 191 []] (Abs.hl [⟨2,1,true,l.map C3⟩]) λy H'=>y=.tup []/\H'=Abs.hl [⟨2,1,true,l.map C3⟩]:=by
 refine GF (b:=1) F4 rfl ?_;unfold DO;(with_reducible repeat'(first|simp (disch:=omega) only[push_cast,↓zz,seval]|apply Aa|refine sp_ ?_ ?_<;>intro hc<;>push_cast at hc|refine ee z47 ?_|(refine cc z47 ?_;(simp(disch:=omega)only[push_cast,↓zz,seval]);(fail_if_success change False))|omega|intro _));refine B4.mono (pdq0 l) ?_;rintro y H' ⟨rfl,rfl⟩;(with_reducible repeat'(first|simp (disch:=omega) only[push_cast,↓zz,seval]|apply Aa|refine sp_ ?_ ?_<;>intro hc<;>push_cast at hc|omega|intro _))
 all_goals trace_state
def memL(l:List Span)(x:Int):Prop:=∃s∈l,s.lo<=x/\x<=s.hi
theorem BP(x:Int):¬memL [] x:=λ⟨s,hs,_⟩=>by cases hs
theorem Bc{s:Span}{l:List Span}{x:Int}:memL (s::l) x↔(s.lo<=x/\x<=s.hi)\/memL l x:=by
 constructor
 ·rintro⟨t,ht,hx⟩
  rcases Ah.1 ht with rfl|ht
  ·exact .inl hx
  ·exact .inr ⟨t,ht,hx⟩
 ·rintro (hx|⟨t,ht,hx⟩)
  ·exact⟨s,by simp,hx⟩
  ·exact⟨t,by simp[ht],hx⟩
theorem EM{l m:List Span}{x:Int}:memL (l++m) x↔memL l x\/memL m x:=by
 constructor
 ·rintro⟨t,ht,hx⟩
  rcases Ap.1 ht with ht|ht
  ·exact .inl ⟨t,ht,hx⟩
  ·exact .inr ⟨t,ht,hx⟩
 ·rintro (⟨t,ht,hx⟩|⟨t,ht,hx⟩)
  ·exact⟨t,by simp[ht],hx⟩
  ·exact⟨t,by simp[ht],hx⟩
def Plain(l:List Span):Prop:=(∀s∈l,s.lo<=s.hi)/\l.Pairwise λs t=>s.hi+1<t.lo
theorem Plain.tail{s:Span}{l:List Span}(h:Plain (s::l)):Plain l:=⟨λt ht=>h.1 t (by simp[ht]),(AG.1 h.2).2⟩
theorem Plain.head{s:Span}{l:List Span}(h:Plain (s::l)):s.lo<=s.hi:=h.1 s (by simp)
theorem Plain.after{s:Span}{l:List Span}(h:Plain (s::l)){x:Int}(hx:memL l x):s.hi+1<x:=by
 obtain⟨t,ht,h1,h2⟩:=hx;have:=(AG.1 h.2).1 t ht;omega
theorem Ih:∀{a b:List Span},Plain a->Plain b->(∀x,memL a x↔memL b x)->a=b
 |[],[],_,_,_=>rfl
 |[],t::b,_,hb,h=>absurd ((h t.lo).2 (Bc.2 (.inl ⟨B1 _,hb.head⟩))) (BP _)
 |s::a,[],ha,_,h=>absurd ((h s.lo).1 (Bc.2 (.inl ⟨B1 _,ha.head⟩))) (BP _)
 |s::a,t::b,ha,hb,h=>by
  have hs:=ha.head;have ht:=hb.head
  have key:∀{s t:Span}{a b:List Span},Plain (s::a)->Plain (t::b)->(∀x,memL (s::a) x↔memL (t::b) x)->t.lo<=s.lo:=λ{s t a b} ha hb h=>by
   rcases Bc.1 ((h s.lo).1 (Bc.2 (.inl ⟨B1 _,ha.head⟩))) with hh|hh
   ·exact hh.1
   ·have:=hb.after hh;have:=hb.head;omega
  have hlo:s.lo=t.lo:=Int.le_antisymm (key hb ha λx=>(h x).symm) (key ha hb h)
  have key2:∀{s t:Span}{a b:List Span},Plain (s::a)->Plain (t::b)->(∀x,memL (s::a) x↔memL (t::b) x)->s.lo=t.lo->t.hi<=s.hi:=λ{s t a b} ha hb h e=>by
   have:=ha.head;rcases Dx s.hi t.hi with hlt|hle
   ·rcases Bc.1 ((h (s.hi+1)).2 (Bc.2 (.inl ⟨by omega,by omega⟩))) with hh|hh
    ·omega
    ·have:=ha.after hh;omega
   ·exact hle
  have hhi:s.hi=t.hi:=Int.le_antisymm (key2 hb ha (λx=>(h x).symm) hlo.symm) (key2 ha hb h hlo);have hst:s=t:=by cases s;cases t;simp_all
  subst hst;refine Ec _ (Ih ha.tail hb.tail λx=>⟨λhx=>?_,λhx=>?_⟩)
  ·rcases Bc.1 ((h x).1 (Bc.2 (.inr hx))) with hh|hh
   ·have:=ha.after hx;omega
   ·exact hh
  ·rcases Bc.1 ((h x).2 (Bc.2 (.inr hx))) with hh|hh
   ·have:=hb.after hx;omega
   ·exact hh
def Eh(out:List Span)(x:Span):List Span :=
 match out.getLast? with
 |some y=>if x.lo<=y.hi+1 then out.dropLast++[⟨y.lo,max y.hi x.hi⟩] else out++[x]
 |none=>[x]
theorem FT(x:Span):Eh [] x=[x]:=rfl
theorem Jy(out:List Span)(y x:Span):Eh (out++[y]) x=if x.lo<=y.hi+1 then out++[⟨y.lo,max y.hi x.hi⟩] else out++[y]++[x]:=by
 simp[Eh]
theorem FU(l:List Span):l=[]\/∃m y,l=m++[y]:=by
 rcases List.eq_nil_or_concat l with h|⟨m,y,h⟩
 ·exact .inl h
 ·exact .inr ⟨m,y,by simpa using h⟩
theorem Gq{m:List Span}{y:Span}:Plain (m++[y])↔Plain m/\y.lo<=y.hi/\∀s∈m,s.hi+1<y.lo:=by
 simp only[Plain,Dq,Ap,Aq,DK,Ed,or_imp,forall_and,De];constructor
 ·rintro⟨⟨h1,h2⟩,h3,h4⟩;exact⟨⟨h1,h3⟩,h2,h4⟩
 ·rintro⟨⟨h1,h3⟩,h2,h4⟩;exact⟨⟨h1,h2⟩,h3,h4⟩
def Before(l:List Span)(x:Int):Prop:=∀s∈l,s.lo<=x
theorem SL{out:List Span}{x:Span}(h:Plain out)(hx:x.lo<=x.hi)(hb:Before out x.lo):Plain (Eh out x)/\Before (Eh out x) x.lo/\∀v,memL (Eh out x) v↔memL out v\/(x.lo<=v/\v<=x.hi):=by
 rcases FU out with rfl|⟨m,y,rfl⟩
 ·refine⟨⟨by simp[FT,hx],by simp[FT]⟩,by simp[FT,Before],λv=>?_⟩
  rw[FT,Bc];constructor
  ·rintro (h|h)
   ·exact .inr h
   ·exact absurd h (BP _)
  ·rintro (h|h)
   ·exact absurd h (BP _)
   ·exact .inl h
 ·rw[Jy]
  obtain⟨h1,h2,h3⟩:=Gq.1 h;have hy:y.lo<=x.lo:=hb y (by simp);split
  ·rename_i hle
   refine⟨Gq.2 ⟨h1,by simp only;omega,λs hs=>h3 s hs⟩,?_,λv=>?_⟩
   ·intro s hs
    rcases Ap.1 hs with hs|hs
    ·exact hb s (by simp[hs])
    ·simp only[Aq] at hs;subst hs;exact hy
   ·rw[EM,EM,Bc,Bc]
    simp only[BP,AA];constructor
    ·rintro (h|h)
     ·exact .inl (.inl h)
     ·by_cases hv:v<=y.hi
      ·exact .inl (.inr ⟨h.1,hv⟩)
      ·exact .inr ⟨by omega,by omega⟩
    ·rintro ((h|h)|h)
     ·exact .inl h
     ·exact .inr ⟨h.1,by omega⟩
     ·exact .inr ⟨by omega,by omega⟩
  ·rename_i hle
   refine⟨Gq.2 ⟨h,hx,λs hs=>?_⟩,?_,λv=>?_⟩
   ·rcases Ap.1 hs with hs|hs
    ·have:=h3 s hs;omega
    ·simp only[Aq] at hs;subst hs;omega
   ·intro s hs
    rcases Ap.1 hs with hs|hs
    ·exact hb s hs
    ·simp only[Aq] at hs;subst hs;exact B1 _
   ·rw[EM,Bc]
    simp only[BP,AA]
theorem Hi:∀(l out:List Span),Plain out->(∀s∈l,s.lo<=s.hi)->l.Pairwise (λa b=>a.lo<=b.lo)->(∀s∈l,Before out s.lo)->Plain (l.foldl Eh out)/\∀v,memL (l.foldl Eh out) v↔memL out v\/memL l v
 |[],out,h,_,_,_=>⟨h,λv=>by simp only[List.foldl_nil,BP,AA]⟩
 |x::l,out,h,h1,h2,h3=>by
  obtain⟨p1,p2,p3⟩:=SL h (h1 x (by simp)) (h3 x (by simp));rw[AG] at h2;obtain⟨q1,q2⟩:=Hi l (Eh out x) p1 (λs hs=>h1 s (by simp[hs])) h2.2 (λs hs t ht=>Int.le_trans (p2 t ht) (h2.1 s hs));refine⟨q1,λv=>?_⟩;rw[List.foldl_cons,q2 v,p3 v,Bc,or_assoc]
theorem Wi(out:List Span)(x:Span):(Eh out x).length<=out.length+1:=by
 rcases FU out with rfl|⟨m,y,rfl⟩
 ·simp[FT]
 ·rw[Jy];split<;>simp
theorem Pk:∀(l out:List Span),(l.foldl Eh out).length<=out.length+l.length
 |[],out=>by simp
 |x::l,out=>by
  have h1:=Pk l (Eh out x);have h2:=Wi out x;simp only[List.foldl_cons,List.length_cons];omega
def Jz(s:Span):Span:=⟨max s.lo (-1073741824),min s.hi 1073741824⟩
def inN(l:List Span):List Span:=(l.map Jz).filter λs=>decide (s.lo<=s.hi)
theorem Y8{l:List Span}{x:Int}:memL (inN l) x↔memL l x/\-1073741824<=x/\x<=1073741824:=by
 constructor
 ·rintro⟨s,hs,h1,h2⟩
  simp only[inN,AX,Ar] at hs;obtain⟨⟨t,ht,rfl⟩,_⟩:=hs;simp only[Jz] at h1 h2;exact⟨⟨t,ht,by omega,by omega⟩,by omega,by omega⟩
 ·rintro⟨⟨t,ht,h1,h2⟩,h3,h4⟩
  refine⟨Jz t,?_,by simp only[Jz];omega,by simp only[Jz];omega⟩;simp only[inN,AX,Ar,Ag];exact⟨⟨t,ht,rfl⟩,by simp only[Jz];omega⟩
theorem U3{l:List Span}:∀s∈inN l,s.lo<=s.hi:=λs hs=>by
 simp only[inN,AX,Ag] at hs;exact hs.2
theorem Ms{l m:List Span}(h:l.Perm m)(x:Int):memL l x↔memL m x :=
 ⟨λ⟨s,hs,hx⟩=>⟨s,h.mem_iff.1 hs,hx⟩,λ⟨s,hs,hx⟩=>⟨s,h.mem_iff.2 hs,hx⟩⟩
def Bq(l:List Span):List Span:=((inN l).mergeSort λa b=>decide (a.lo<=b.lo)).foldl Eh []
theorem z48{l m:List Span}(hp:m.Perm (inN l))(hs:m.Pairwise λa b=>a.lo<=b.lo):m.foldl Eh []=Bq l:=by
 have hq:((inN l).mergeSort λa b=>decide (a.lo<=b.lo)).Perm (inN l):=List.mergeSort_perm _ _
 have hs':((inN l).mergeSort λa b=>decide (a.lo<=b.lo)).Pairwise λa b=>a.lo<=b.lo:=by
  have:=List.pairwise_mergeSort (le:=λa b:Span=>decide (a.lo<=b.lo)) (λa b c h1 h2=>by simp at *;omega) (λa b=>by simp;omega) (inN l);simpa using this
 obtain⟨a1,a2⟩:=Hi m [] ⟨by simp,by simp⟩ (λs h=>U3 s (hp.mem_iff.1 h)) hs (λs _ t ht=>by cases ht);obtain⟨b1,b2⟩:=Hi _ [] ⟨by simp,by simp⟩ (λs h=>U3 s (hq.mem_iff.1 h)) hs' (λs _ t ht=>by cases ht);refine Ih a1 b1 λx=>?_;rw[Bq,a2 x,b2 x,Ms hp x,Ms hq x]
theorem Bl(l:List Span):Plain (Bq l)/\∀x,memL (Bq l) x↔memL l x/\-1073741824<=x/\x<=1073741824:=by
 have hq:((inN l).mergeSort λa b=>decide (a.lo<=b.lo)).Perm (inN l):=List.mergeSort_perm _ _
 have hs':((inN l).mergeSort λa b=>decide (a.lo<=b.lo)).Pairwise λa b=>a.lo<=b.lo:=by
  have:=List.pairwise_mergeSort (le:=λa b:Span=>decide (a.lo<=b.lo)) (λa b c h1 h2=>by simp at *;omega) (λa b=>by simp;omega) (inN l);simpa using this
 obtain⟨b1,b2⟩:=Hi _ [] ⟨by simp,by simp⟩ (λs h=>U3 s (hq.mem_iff.1 h)) hs' (λs _ t ht=>by cases ht);refine⟨b1,λx=>?_⟩;rw[Bq,b2 x,Ms hq x,Y8];simp only[BP,BZ]
theorem SN(l:List Span):(inN l).length<=l.length:=by
 have:=B7 (λs:Span=>decide (s.lo<=s.hi)) (l.map Jz);simpa [inN] using this
theorem EX(l:List Span):(Bq l).length<=l.length:=by
 have h1:=Pk ((inN l).mergeSort λa b=>decide (a.lo<=b.lo)) [];have h2:=SN l;rw[List.length_mergeSort] at h1;simp only[List.length_nil] at h1;rw[Bq];omega
end Go.Proofs.YtbcjoeadpjfcfaaGreat
namespace Go.Proofs.YtbcjoeadpjfcfaaGreat.Abs
section
variable {P:Program}{n b:Nat}{S:MS}{H:As}
theorem put_defers(a:Act)(d:Option Nat)(v:Value):(a.put d v).defers=a.defers:=by cases d<;>rfl
theorem zg0(hS:SRel S H){env:Env}{a:Act}(hF:FRel S n env a){o:Oper}{q:AOp}{ops:Array Oper}(h:Ce P n ops o=some q){K:AV->As->Prop}(hst:A6 P q.k H (q.vals env) K)
 {N:Act->World->Prop} {Q:Exit->Act->World->Prop} (hN:∀S' H' x a',Evo S S'->SRel S' H'->FRel S' n (env.put q.dst x) a'->a'.defers=a.defers->K x H'->N a' S'.w) (r:Option Nat) (m:Nat):o.wpIn (fen r) m P a S.w N Q:=by
 obtain⟨h1,h2,h3,h4,_⟩:=BN h;have hargs:=I9 hF h2;have h1':=Hv h1 λe=>by rw[e] at hst;simp[A6] at hst
 have hsem:o.semAt (fen r).round a.eval=execOp a.eval o:=Oper.semAt_eq _ _ _ λc hc=>by rw[hc] at h1';cases h1'
 rcases Nv hS o h1 (ρ:=a.eval) hargs hst with⟨v,S',x,H',hr,e,hS',hv,hK⟩|⟨f,cargs,hr,hc⟩
 ·have hN':=λv' (hv':VRel S' x v')=>hN S' H' x (a.put o.dst v') e hS' (by rw[h3];exact (hF.mono e).put h4 hv') (put_defers _ _ _) hK
  refine⟨λ_ _=>trivial,?_⟩;rw[hsem];rcases hr with hr|⟨hr,rfl⟩<;>rw[hr]
  ·exact hN' v hv
  ·exact hN' undef hv
 ·refine⟨λ_ _=>trivial,?_⟩
  rw[hsem,hr,Oper.uponIn_enter];refine⟨λh=>(by cases h),L6 (hc.mono λe w' hh=>?_)⟩;obtain⟨v,S',x,H',rfl,rfl,ev,hS',hv,hK⟩:=hh;exact hN S' H' x (a.put o.dst v) ev hS' (by rw[h3];exact (hF.mono ev).put h4 hv) (put_defers _ _ _) hK
theorem Hj{ops:Array Oper}{Q:Exit->Act->World->Prop}{rd:Option Nat}{m:Nat}(tl:List Nat):∀(l:List Oper)(l':List AOp)(k:Nat),(∀j,j<l.length->l[j]? = ops[k+j]?)->l.mapM (Ce P n ops)=some l'->∀{S:MS}{H:As}{env:Env}{a:Act}{K:Env->As->Prop},
 SRel S H->FRel S n env a->runK P l' env H K->(∀S' H' env' a',Evo S S'->SRel S' H'->FRel S' n env' a'->a'.defers=a.defers->K env' H'->wpOpsIn (fen rd) m P ops Q tl a' S'.w)->wpOpsIn (fen rd) m P ops Q (List.range' k l.length++tl) a S.w
 |[],l',k,_,hm,S,H,env,a,K,hS,hF,hr,hQ=>by
  simp at hm;subst hm;exact hQ S H env a (.refl S) hS hF rfl hr
 |o::l,l',k,hl,hm,S,H,env,a,K,hS,hF,hr,hQ=>by
  rw[B3] at hm;simp only[Option.bind_eq_bind,Bj,Option.pure_def,Ak] at hm;obtain⟨q,hq,r,hrr,rfl⟩:=hm;have h0:ops[k]? = some o:=by simpa using (hl 0 (by simp)).symm
  have hl':∀j,j<l.length->l[j]? = ops[k+1+j]? := λj hj=>by have:=hl (j+1) (by simp;omega);simpa [AY,BS 1 j] using this
  have hg:=L5 hq hF hr;rw[show List.range' k (o::l).length++tl=k::(List.range' (k+1) l.length++tl) from rfl];simp only[wpOpsIn,h0];cases hw:Region.wanted o (yielded ops a.tmps)
  ·rw[hw] at hg
   simp only[Av,AT] at hg ⊢;obtain⟨_,_,h3,h4,_⟩:=BN hq;exact⟨λ_ _=>trivial,Hj tl l r (k+1) hl' hrr hS (by rw[h3];exact hF.put h4 HS) hg (λS' H' env' a' e hS' hF' hd=>hQ S' H' env' a' e hS' hF' (hd.trans (put_defers _ _ _)))⟩
  ·rw[hw] at hg
   simp only[AR] at hg ⊢;refine zg0 hS hF hq hg (λS' H' x a' e hS' hF' hd hK=>?_) rd m;exact Hj tl l r (k+1) hl' hrr hS' hF' hK (λS2 H2 env2 a2 e2 hS2 hF2 hd2 hK2=>hQ S2 H2 env2 a2 (e.trans e2) hS2 hF2 (hd2.trans hd) hK2)
end
structure Itr where
 P:Program
 l:Nat
 m:Nat
 rows:List (List AV)
 S0:MS
 J:Nat->(Nat->Prop)->World->Prop
 Jx:Nat->(Nat->Prop)->World->Prop
 cJ:Clo J
 cx:Clo Jx
 fact:∀k O W,J k O W\/Jx k O W->(∀b,S0.im b->¬O b/\W.heap[b]? = S0.w.heap[b]?)/\(W.os=S0.w.os/\Jg W S0.w/\W.output=S0.w.output)/\S0.w.heap.size<=W.heap.size/\∀b,O b->S0.w.heap.size<=b/\b<W.heap.size
 round:∀k row O W,rows[k]? = some row->J k O W->YieldAt Fence.wide m P l (encI row) W λe W'=>W.heap.size<=W'.heap.size/\(∀b,O b->W'.heap[b]? = W.heap[b]?)/\(e=.returned (.bool true)/\J (k+1) O W'\/e=.returned (.bool false)/\Jx (k+1) O W')
namespace Itr
def at_(I:Itr):Option Nat->(Nat->Prop)->World->Prop
 |some k,O,W=>I.J k O W
 |none,O,W=>∃k,I.Jx k O W
structure Now(I:Itr)(s:Option Nat)(X:Nat->Prop)(S:MS)(H:As):Prop where
 rel:SRel S H
 base:S.base<=S.w.heap.size
 keep:∀b,X b->S.keep b
 im:∀b,I.S0.im b->S.im b
 apart:∀b,S.im b->I.S0.im b\/¬X b
 st:I.at_ s (λb=>b<S.w.heap.size/\¬X b/\¬I.S0.im b) S.w
theorem Now.on{I:Itr}{s:Option Nat}{X:Nat->Prop}{S S':MS}{H H':As}(h:I.Now s X S H)(e:Evo S S')(hr:SRel S' H'):I.Now s X S' H':=by
 have hX:∀b,X b->b<S.w.heap.size:=λb hb=>h.rel.im b (.inr (h.keep b hb));have hi0:∀b,I.S0.im b->b<S.w.heap.size:=λb hb=>h.rel.im b (.inl (h.im b hb));refine⟨hr,by rw[e.base];exact AW h.base e.size,λb hb=>e.keep b (h.keep b hb),λb hb=>e.im b (h.im b hb),λb hb=>?_,?_⟩
 ·rcases e.fresh b hb with hh|hh
  ·exact h.apart b hh
  ·exact .inr λhx=>hh (h.keep b hx)
 ·have ho:(λb=>b<S'.w.heap.size/\¬X b/\¬I.S0.im b)=λb=>(b<S.w.heap.size/\¬X b/\¬I.S0.im b)\/(S.w.heap.size<=b/\b<S'.w.heap.size):=by
   funext b;refine propext ⟨λ⟨h1,h2,h3⟩=>?_,λhh=>?_⟩
   ·rcases Aj b S.w.heap.size with hl|hl
    ·exact .inl ⟨hl,h2,h3⟩
    ·exact .inr ⟨hl,h1⟩
   ·rcases hh with⟨h1,h2,h3⟩|⟨h1,h2⟩
    ·exact⟨AI h1 e.size,h2,h3⟩
    ·exact⟨h2,λhx=>by have:=hX b hx;omega,λhx=>by have:=hi0 b hx;omega⟩
  rw[ho]
  have hk:∀b,b<S.w.heap.size->¬(b<S.w.heap.size/\¬X b/\¬I.S0.im b)->S'.w.heap[b]? = S.w.heap[b]? := λb hb hn=>by
   by_cases hx:X b
   ·exact e.kept b (.inr (h.keep b hx))
   ·by_cases hi:I.S0.im b
    ·exact e.kept b (.inl (h.im b hi))
    ·exact absurd ⟨hb,hx,hi⟩ hn
  cases s with
  |some k=>exact I.cJ k _ _ _ h.st e.os e.tape e.output e.size hk
  |none=>obtain⟨k,hj⟩:=h.st;exact⟨k,I.cx k _ _ _ hj e.os e.tape e.output e.size hk⟩
theorem Now.round{I:Itr}{k:Nat}{X:Nat->Prop}{S:MS}{H:As}(h:I.Now (some k) X S H){W':World}{s':Option Nat}(hsz:S.w.heap.size<=W'.heap.size)(ho:∀b,b<S.w.heap.size/\¬X b/\¬I.S0.im b->W'.heap[b]? = S.w.heap[b]?)
 (hi:∀b,I.S0.im b->W'.heap[b]? = S.w.heap[b]?) (hst:I.at_ s' (λb=>b<S.w.heap.size/\¬X b/\¬I.S0.im b) W') :
 ∃S',S'.w=W'/\I.Now s' (λb=>X b\/(S.w.heap.size<=b/\b<W'.heap.size)) S' H/\Evi S S':=by
 obtain⟨S',hd⟩:∃S':MS,S'={ S with w:=W',keep:=λb=>S.keep b\/(S.w.heap.size<=b/\b<W'.heap.size) }:=⟨_,rfl⟩;have hX:∀b,X b->b<S.w.heap.size:=λb hb=>h.rel.im b (.inr (h.keep b hb));have him:∀b,S.im b->b<S.w.heap.size:=λb hb=>h.rel.im b (.inl hb);have hi0:∀b,I.S0.im b->b<S.w.heap.size:=λb hb=>him b (h.im b hb)
 have hw:∀b,S.im b->W'.heap[b]? = S.w.heap[b]? := λb hb=>by
  by_cases h0:I.S0.im b
  ·exact hi b h0
  ·exact ho b ⟨him b hb,(h.apart b hb).resolve_left h0,h0⟩
 refine⟨S',by rw[hd],⟨?_,?_,?_,?_,?_,?_⟩,?_⟩
 ·subst hd
  exact h.rel.turn2 hw rfl rfl rfl rfl rfl rfl (λb hb=>hb.imp id And.left) (λb hb=>hb.elim (λhh=>AI (h.rel.im b (.inr hh)) hsz) And.right)
   (λb hb hl=>ho b ⟨hl,λhx=>hb (.inr (h.keep b hx)),λhx=>hb (.inl (h.im b hx))⟩) hsz
 ·subst hd;exact AW h.base hsz
 ·subst hd;exact λb hb=>hb.imp (h.keep b) id
 ·subst hd;exact h.im
 ·subst hd
  intro b hb;rcases h.apart b hb with hh|hh
  ·exact .inl hh
  ·exact .inr λhx=>hx.elim hh λhx=>by have:=him b hb;omega
 ·subst hd
  have e:(λb=>b<W'.heap.size/\¬(X b\/(S.w.heap.size<=b/\b<W'.heap.size))/\¬I.S0.im b)=λb=>b<S.w.heap.size/\¬X b/\¬I.S0.im b:=by
   funext b;refine propext ⟨λ⟨h1,h2,h3⟩=>⟨?_,λhx=>h2 (.inl hx),h3⟩,λ⟨h1,h2,h3⟩=>⟨by omega,λhx=>hx.elim h2 (λhh=>by omega),h3⟩⟩;rcases Aj b S.w.heap.size with hl|hl
   ·exact hl
   ·exact absurd (.inr ⟨hl,h1⟩) h2
  show I.at_ s' _ W';rw[e];exact hst
 ·subst hd
  exact Evi.of hw rfl rfl rfl rfl rfl rfl
end Itr
def JU(I:Itr)(n:Nat)(Q:Option Nat->Ex->Env->As->Prop)(e:Exit)(a:Act)(w:World):Prop :=
 ∃S' env H' x s X,S'.w=w/\I.Now s X S' H'/\FRel S' n env a/\a.defers=[]/\e=Ex.up x/\Q s x env H'
def TI(I:Itr)(n:Nat)(c:AC)(s:Option Nat)(env:Env)(H:As)(Q:Option Nat->Ex->Env->As->Prop):Prop :=
 ∀code,Ee I.P n code=some c->∀S a X,I.Now s X S H->FRel S n env a->a.defers=[]->code.wpIn (fen none) (I.m+1) I.P (JU I n Q) a S.w
section
variable {I:Itr}{n:Nat}{s:Option Nat}{env:Env}{H:As}{Q:Option Nat->Ex->Env->As->Prop}
theorem z49{F:Fence}{mm:Nat}{c:Code}{a:Act}{w:World}(h:c.wpIn F mm I.P (JU I n Q) a w):(Code.scope c).wpIn F mm I.P (JU I n Q) a w:=by
 refine Gy (wpIn_mono h λe a w hh=>?_);obtain⟨S2,env,H',y,s,X,h1,h2,h3,h4,h5,h6⟩:=hh;subst h5;cases y<;>exact⟨S2,env,H',_,s,X,h1,h2,h3,h4,rfl,h6⟩
theorem Pm{c:AC}(h:∀code,Ee I.P n code=some c->(∀d,code≠.scope d)->∀S a X,I.Now s X S H->FRel S n env a->a.defers=[]->code.wpIn (fen none) (I.m+1) I.P (JU I n Q) a S.w):TI I n c s env H Q:=by
 intro code
 induction code with
 |scope d ih=>exact λhc S a X hN hF hd=>z49 (ih (by simpa [Ee] using hc) S a X hN hF hd)
 |skip=>exact λhc=>h _ hc (by simp)
 |region=>exact λhc=>h _ hc (by simp)
 |seq=>exact λhc=>h _ hc (by simp)
 |cond=>exact λhc=>h _ hc (by simp)
 |block=>exact λhc=>h _ hc (by simp)
 |loop=>exact λhc=>h _ hc (by simp)
 |rangeFunc=>exact λhc=>h _ hc (by simp)
 |exit=>exact λhc=>h _ hc (by simp)
 |label=>exact λhc=>h _ hc (by simp)
 |goto=>exact λhc=>h _ hc (by simp)
 |ret=>exact λhc=>h _ hc (by simp)
 |refuse=>exact λhc=>h _ hc (by simp)
theorem zbn(h:Q s .normal env H):TI I n .skip s env H Q:=Pm λcode hc hs S a X hN hF hd=>by
 have hA:JU I n Q .normal a S.w:=⟨S,env,H,.normal,s,X,rfl,hN,hF,hd,rfl,h⟩;cases code<;>simp only[Ee,reduceCtorEq,Ak] at hc
 case skip=>exact wpIn_skip hA
 case label=>exact wpIn_label hA
 case region=>exact absurd hc CL
 case seq=>split at hc<;>cases hc
 case cond=>split at hc<;>cases hc
 case block=>obtain⟨_,_,h⟩:=Ad.1 hc;cases h
 case loop=>obtain⟨_,_,h⟩:=Ad.1 hc;cases h
 case rangeFunc=>split at hc<;>cases hc
 case scope d=>exact absurd rfl (hs d)
theorem zbo{id:Nat}(h:Q s (.exit id) env H):TI I n (.exit id) s env H Q:=Pm λcode hc hs S a X hN hF hd=>by
 cases code<;>simp only[Ee,reduceCtorEq,Ak] at hc
 case exit k=>cases hc;exact wpIn_exit ⟨S,env,H,.exit id,s,X,rfl,hN,hF,hd,rfl,h⟩
 case region=>exact absurd hc CL
 case seq=>split at hc<;>cases hc
 case cond=>split at hc<;>cases hc
 case block=>obtain⟨_,_,h⟩:=Ad.1 hc;cases h
 case loop=>obtain⟨_,_,h⟩:=Ad.1 hc;cases h
 case rangeFunc=>split at hc<;>cases hc
 case scope d=>exact absurd rfl (hs d)
theorem zg1(h:Q s .ret env H):TI I n .ret s env H Q:=Pm λcode hc hs S a X hN hF hd=>by
 cases code<;>simp only[Ee,reduceCtorEq,Ak] at hc
 case ret=>exact wpIn_ret ⟨S,env,H,.ret,s,X,rfl,hN,hF,hd,rfl,h⟩
 case region=>exact absurd hc CL
 case seq=>split at hc<;>cases hc
 case cond=>split at hc<;>cases hc
 case block=>obtain⟨_,_,h⟩:=Ad.1 hc;cases h
 case loop=>obtain⟨_,_,h⟩:=Ad.1 hc;cases h
 case rangeFunc=>split at hc<;>cases hc
 case scope d=>exact absurd rfl (hs d)
def Ex.thenI(K:Option Nat->Env->As->Prop)(Q:Option Nat->Ex->Env->As->Prop):Option Nat->Ex->Env->As->Prop
 |s,.normal,env,H=>K s env H
 |s,x,env,H=>Q s x env H
theorem GG{x y:AC}(h:TI I n x s env H (Ex.thenI (λs' env' H'=>TI I n y s' env' H' Q) Q)):TI I n (.seq x y) s env H Q:=Pm λcode hc hs S a X hN hF hd=>by
 cases code<;>simp only[Ee,reduceCtorEq,Ak] at hc
 case seq c d =>
  split at hc
  ·rename_i x' y' hx hy
   cases hc;refine wpIn_seq (wpIn_mono (h c hx S a X hN hF hd) λe a' w' hh=>?_);obtain⟨S2,env2,H2,z,s2,X2,rfl,hN2,hF2,hd2,rfl,hq⟩:=hh;cases z with
   |normal=>exact hq d hy S2 a' X2 hN2 hF2 hd2
   |exit id=>exact⟨S2,env2,H2,.exit id,s2,X2,rfl,hN2,hF2,hd2,rfl,hq⟩
   |ret=>exact⟨S2,env2,H2,.ret,s2,X2,rfl,hN2,hF2,hd2,rfl,hq⟩
  ·cases hc
 case region=>exact absurd hc CL
 case cond=>split at hc<;>cases hc
 case block=>obtain⟨_,_,h⟩:=Ad.1 hc;cases h
 case loop=>obtain⟨_,_,h⟩:=Ad.1 hc;cases h
 case rangeFunc=>split at hc<;>cases hc
 case scope d=>exact absurd rfl (hs d)
theorem zbp{c:AArg}{x y:AC}{q:Bool}(hc:c.eval env=.bool q)(ht:q=true->TI I n x s env H Q)(hf:q=false->TI I n y s env H Q):TI I n (.cond c x y) s env H Q:=Pm λcode hcc hs S a X hN hF hd=>by
 cases code<;>simp only[Ee,reduceCtorEq,Ak] at hcc
 case cond z p q' =>
  split at hcc
  ·rename_i z' p2 q2 hz hp hq
   cases hcc;have hv:=OJ hF hz;rw[hc] at hv;exact wpIn_cond_split (t:=q) hv (λhbb=>ht hbb p hp S a X hN hF hd) (λhbb=>hf hbb q' hq S a X hN hF hd)
  ·cases hcc
 case region=>exact absurd hcc CL
 case seq=>split at hcc<;>cases hcc
 case block=>obtain⟨_,_,h⟩:=Ad.1 hcc;cases h
 case loop=>obtain⟨_,_,h⟩:=Ad.1 hcc;cases h
 case rangeFunc=>split at hcc<;>cases hcc
 case scope d=>exact absurd rfl (hs d)
def Ex.inBlockI(id:Nat)(Q:Option Nat->Ex->Env->As->Prop):Option Nat->Ex->Env->As->Prop
 |s,.exit k,env,H=>if k=id then Q s .normal env H else Q s (.exit k) env H
 |s,x,env,H=>Q s x env H
theorem H7{id:Nat}{c:AC}(h:TI I n c s env H (Ex.inBlockI id Q)):TI I n (.block id c) s env H Q:=Pm λcode hc hs S a X hN hF hd=>by
 cases code<;>simp only[Ee,reduceCtorEq,Ak] at hc
 case block k d =>
  obtain⟨x,hx,hh⟩:=Ad.1 hc;cases hh;refine wpIn_block (wpIn_mono (h d hx S a X hN hF hd) λe a' w' hh=>?_);obtain⟨S2,env2,H2,z,s2,X2,h1,hN2,hF2,hd2,rfl,hq⟩:=hh;cases z with
  |normal=>exact⟨S2,env2,H2,.normal,s2,X2,h1,hN2,hF2,hd2,rfl,hq⟩
  |exit j =>
   simp only[Ex.up,Exit.inBlock];simp only[Ex.inBlockI] at hq;split
   ·rename_i hj;rw[Af hj] at hq;exact⟨S2,env2,H2,.normal,s2,X2,h1,hN2,hF2,hd2,rfl,hq⟩
   ·rename_i hj;rw[Ae hj] at hq;exact⟨S2,env2,H2,.exit j,s2,X2,h1,hN2,hF2,hd2,rfl,hq⟩
  |ret=>exact⟨S2,env2,H2,.ret,s2,X2,h1,hN2,hF2,hd2,rfl,hq⟩
 case region=>exact absurd hc CL
 case seq=>split at hc<;>cases hc
 case cond=>split at hc<;>cases hc
 case loop=>obtain⟨_,_,h⟩:=Ad.1 hc;cases h
 case rangeFunc=>split at hc<;>cases hc
 case scope d=>exact absurd rfl (hs d)
theorem SO{σ:Type}(Inv:σ->Option Nat->Env->As->Prop)(μ:σ->Nat){c:AC}(s0:σ)(h0:Inv s0 s env H)
 (round:∀t s env H,Inv t s env H->TI I n c s env H (Ex.thenI (λs' env' H'=>∃t',Inv t' s' env' H'/\μ t'<μ t) Q)):TI I n (.loop c) s env H Q:=Pm λcode hc hs S a X hN hF hd=>by
 cases code<;>simp only[Ee,reduceCtorEq,Ak] at hc
 case loop d =>
  obtain⟨x,hx,hh⟩:=Ad.1 hc;cases hh;refine wpIn_loop_ghost (λk a w=>∃S' t s env H X,S'.w=w/\I.Now s X S' H/\FRel S' n env a/\a.defers=[]/\Inv t s env H/\μ t=k) (μ s0) ⟨S,s0,s,env,H,X,rfl,hN,hF,hd,h0,rfl⟩ ?_;rintro k a w ⟨S1,t,s1,env1,H1,X1,rfl,hN1,hF1,hd1,hI,rfl⟩;refine wpIn_mono (round t s1 env1 H1 hI d hx S1 a X1 hN1 hF1 hd1) λe a' w' hh=>?_;obtain⟨S2,env2,H2,z,s2,X2,rfl,hN2,hF2,hd2,rfl,hq⟩:=hh;cases z with
  |normal =>
   obtain⟨t',h1,h2⟩:=hq;exact⟨μ t',h2,S2,t',s2,env2,H2,X2,rfl,hN2,hF2,hd2,h1,rfl⟩
  |exit id=>exact⟨S2,env2,H2,.exit id,s2,X2,rfl,hN2,hF2,hd2,rfl,hq⟩
  |ret=>exact⟨S2,env2,H2,.ret,s2,X2,rfl,hN2,hF2,hd2,rfl,hq⟩
 case region=>exact absurd hc CL
 case seq=>split at hc<;>cases hc
 case cond=>split at hc<;>cases hc
 case block=>obtain⟨_,_,h⟩:=Ad.1 hc;cases h
 case rangeFunc=>split at hc<;>cases hc
 case scope d=>exact absurd rfl (hs d)
theorem zg2{ops:List AOp}(h:runK I.P ops env H λenv' H'=>Q s .normal env' H'):TI I n (.reg ops) s env H Q:=Pm λcode hc hs S a X hN hF hd=>by
 cases code<;>simp only[Ee,reduceCtorEq,Ak] at hc
 case region id l draw =>
  split at hc
  ·rename_i r hr
   obtain⟨hd',rfl⟩:=Jo hc;subst hd';refine wpIn_region ?_;have:=Hj (ops:=l) (rd:=none) (m:=I.m+1) (Q:=JU I n Q) [] l.toList ops 0 (by simp) hr hN.rel hF h (λS' H' env' a' e hS' hF' hdd hK=>⟨S',env',H',.normal,s,X,rfl,hN.on e hS',hF',hdd.trans hd,rfl,hK⟩);rw[Ey];simpa using this
  ·cases hc
 case seq=>split at hc<;>cases hc
 case cond=>split at hc<;>cases hc
 case block=>obtain⟨_,_,h⟩:=Ad.1 hc;cases h
 case loop=>obtain⟨_,_,h⟩:=Ad.1 hc;cases h
 case rangeFunc=>split at hc<;>cases hc
 case scope d=>exact absurd rfl (hs d)
theorem NQ{α β:Type}{f:α->Option β}:∀(p:List β){l:List α}{y:β}{q:List β},l.mapM f=some (p++y::q)->∃l1 o l2,l=l1++o::l2/\l1.mapM f=some p/\f o=some y/\l2.mapM f=some q
 |[],l,y,q,h=>by
  cases l with
  |nil=>simp at h
  |cons o l =>
   rw[B3] at h;simp only[Option.bind_eq_bind,Bj,Option.pure_def,Ak,List.nil_append,E5] at h;obtain⟨y',hy,r,hr,rfl,rfl⟩:=h;exact⟨[],o,l,rfl,rfl,hy,hr⟩
 |z::p,l,y,q,h=>by
  cases l with
  |nil=>simp at h
  |cons o l =>
   rw[B3] at h;simp only[Option.bind_eq_bind,Bj,Option.pure_def,Ak,List.cons_append,E5] at h;obtain⟨z',hz,r,hr,rfl,rfl⟩:=h;obtain⟨l1,o',l2,rfl,h1,h2,h3⟩:=NQ p hr;exact⟨o::l1,o',l2,rfl,by rw[B3,hz,h1];rfl,h2,h3⟩
theorem Wj{P:Program}{op:Op}(h:Cg P op=some .call):∃g args argTypes,op=.call { callee:=.value g,args,argTypes }:=by
 replace h:=Hv h (by simp);cases op
 case call c =>
  obtain⟨callee,args,argTypes⟩:=c;cases callee<;>simp only[E2,E7,reduceCtorEq] at h
  case value g=>exact⟨g,args,argTypes,rfl⟩
  case builtin b =>
   repeat' split at h
   all_goals first
    |(cases h;done)
    |(simp at h;done)
 all_goals simp only[E2,reduceCtorEq] at h
 all_goals repeat' split at h
 all_goals first
  |contradiction
  |(cases h;done)
  |(obtain⟨⟨_,_⟩,_,h⟩:=Ad.1 h;cases h;done)
  |(obtain⟨_,_,h⟩:=Ad.1 h;cases h;done)
  |(simp at h;done)
def zg3(x:AV):Prop:=∀S v,VRel S x v->v=valOf x
theorem NR{S:MS}:∀{xs:List AV}{vs:List Value},(∀x∈xs,zg3 x)->A4 S xs vs->vs=xs.map valOf
 |[],vs,_,h=>h
 |x::xs,vs,hf,⟨v,r,hv,h1,h2⟩=>by
  rw[hv,hf x (by simp) S v h1,NR (λy hy=>hf y (by simp[hy])) h2];rfl
theorem U4{pre post:List AOp}{y:AOp}{k:Nat}(hk:y.k=.call)(hg:y.guard=none)
 (h:runK I.P pre env H λenv1 H1=>∃row,y.vals env1=.yld I.l::row/\(∀x∈row,zg3 x)/\I.rows[k]? = some row /\
  runK I.P post (env1.put y.dst (.bool true)) H1 (λenv2 H2=>Q (some (k+1)) .normal env2 H2)/\runK I.P post (env1.put y.dst (.bool false)) H1 (λenv2 H2=>Q none .normal env2 H2)) :
 TI I n (.reg (pre++y::post)) (some k) env H Q:=Pm λcode hc hs S a X hN hF hd=>by
 cases code<;>simp only[Ee,reduceCtorEq,Ak] at hc
 case region id l draw =>
  split at hc
  ·rename_i r hr
   obtain⟨hd',hrr⟩:=Jo hc;subst hrr;subst hd';refine wpIn_region ?_;obtain⟨l1,o,l2,hl,h1,h2,h3⟩:=NQ pre hr;have hsz:l.size=l1.length+(l2.length+1):=by rw[<-Array.length_toList,hl];simp
   rw[Ey,hsz,List.range'_append_1 |>.symm];have hat:∀j:Nat,l[j]? = (l1++o::l2)[j]? := λj=>by rw[<-hl,El]
   refine Hj (ops:=l) (rd:=none) (m:=I.m+1) (Q:=JU I n Q) _ l1 pre 0 (λj hj=>by rw[AO,hat,Az hj]) h1 hN.rel hF h (λS1 H1 env1 a1 e1 hS1 hF1 hd1 hK=>?_);obtain⟨row,hv,hfx,hrow,ht,hff⟩:=hK;have hN1:=hN.on e1 hS1;have ho:l[l1.length]? = some o:=by rw[hat];simp
   rw[show List.range' (0+l1.length) (l2.length+1)=l1.length::List.range' (l1.length+1) l2.length from by rw[AO];rfl];simp only[wpOpsIn,ho];obtain⟨c1,c2,c3,c4,c5⟩:=BN h2
   have hw:Region.wanted o (yielded l a1.tmps)=true:=by
    rcases c5 with⟨g1,_⟩|⟨j,want,d,g1,g2,_⟩
    ·simp[Region.wanted,g1]
    ·rw[hg] at g2;cases g2
   rw[hw];simp only[AR];have hargs:=I9 hF1 c2;rw[show y.args.map (·.eval env1)=y.vals env1 from rfl,hv] at hargs
   rw[hk] at c1;obtain⟨g,args,argTypes,hop⟩:=Wj c1;obtain⟨fn,tm,asg,bd,hy,hR⟩:=I.round k row _ _ hrow hN1.st
   have hrun:(o.semAt (fen none).round a1.eval).run I.P S1.w=.ok (.round I.l fn tm asg bd) S1.w:=by
    rw[show (fen none).round=none from rfl,Oper.semAt_none];rw[hop] at hargs;have hargs':A4 S1 (.yld I.l::row) (a1.eval g::args.toList.map a1.eval):=by simpa [Op.operands,Call.operands] using hargs
    obtain⟨v,vs,hvv,hv1,hv2⟩:=hargs';cases hvv;have hvs:=NR hfx hv2;have hv1':a1.eval g=.func (.yield I.l) #[] #[]:=hv1;have e:args.map a1.eval=encI row:=by apply Ej;simp[hvs]
    have hex:execOp a1.eval o=(do let d <-Deferred.ofValue (a1.eval g) (args.map a1.eval);invoke d.target d.args:Sem Next):=by
     cases o;simp only at hop;subst hop;rfl
    rw[hex,e,hv1'];simp only[Deferred.ofValue,Sem.run_bind,Sem.run_pure,Result.andThen_ok,invoke];simpa using hy
   refine⟨λ_ _=>trivial,?_⟩;rw[hrun,Oper.uponIn_round];refine⟨λh=>(by cases h),?_⟩;refine RoundIn.mono (F:=fen none) (n:=I.m) hR λe W' hh=>?_;obtain⟨hsz',ho',hcase⟩:=hh;have hf0:=(I.fact k _ _ (.inl hN1.st)).1;have hdef:a1.defers=[]:=hd1.trans hd
   have hgo:∀(bv:Bool)(s':Option Nat),I.at_ s' (λb=>b<S1.w.heap.size/\¬X b/\¬I.S0.im b) W'->(∀b,I.S0.im b->W'.heap[b]? = I.S0.w.heap[b]?) ->
    runK I.P post (env1.put y.dst (.bool bv)) H1 (λenv2 H2=>Q s' .normal env2 H2)->wpOpsIn (fen none) (I.m+1) I.P l (JU I n Q) (List.range' (l1.length+1) l2.length) (a1.put o.dst (.bool bv)) W':=λbv s' hst him hrk=>by
    obtain⟨S2,hw2,hN2,ev2⟩:=hN1.round hsz' ho' (λb hb=>(him b hb).trans ((hf0 b hb).2).symm) hst;have hF2:FRel S2 n env1 a1:=⟨hF1.size,by rw[hdef];exact Marks.nil hN2.base,λi hi=>VRel.moni ev2 _ (hF1.val i hi)⟩;have hF3:=hF2.put (dst:=y.dst) (by rw[c3];exact c4) (x:=.bool bv) (v:=.bool bv) rfl;rw[c3] at hF3;rw[c3] at hrk;rw[<-hw2]
    have:=Hj (ops:=l) (rd:=none) (m:=I.m+1) (Q:=JU I n Q) [] l2 post (l1.length+1) (λj hj=>by rw[hat,A5 (by omega),show l1.length+1+j-l1.length=j+1 from by omega];rfl) h3 hN2.rel hF3 hrk
     (λS' H' env' a' e hS' hF' hdd hK=>⟨S',env',H',.normal,s',_,rfl,hN2.on e hS',hF',hdd.trans ((put_defers _ _ _).trans hdef),rfl,hK⟩)
    simpa using this
   rcases hcase with⟨rfl,hj⟩|⟨rfl,hj⟩
   ·exact hgo true (some (k+1)) hj (λb hb=>((I.fact _ _ _ (.inl hj)).1 b hb).2) ht
   ·exact hgo false none ⟨_,hj⟩ (λb hb=>((I.fact _ _ _ (.inr hj)).1 b hb).2) hff
  ·cases hc
 case seq=>split at hc<;>cases hc
 case cond=>split at hc<;>cases hc
 case block=>obtain⟨_,_,h⟩:=Ad.1 hc;cases h
 case loop=>obtain⟨_,_,h⟩:=Ad.1 hc;cases h
 case rangeFunc=>split at hc<;>cases hc
 case scope d=>exact absurd rfl (hs d)
theorem Y9{P:Program}{gf:Nat}{caps:List AV}{rows:List (List AV)}{fn:AFn}(hf:Bp P gf (caps.length+1)=some fn)
 (h:∀I:Itr,I.P=P->I.rows=rows->TI I fn.n fn.body (some 0) (entry (.yld I.l::caps)) As.nil (λs x env H=>Ret P fn.res (λ_ _=>True) x env H/\(s=some rows.length\/s=none))):Q4 P gf caps rows:=by
 refine⟨enters_of hf,λm l S0 lb J Jx hS0 hx0 cJ cx hj fact round=>?_⟩;obtain⟨F,c,hF,hb,hn,hc,hr,hnp,_⟩:=Jp hf;obtain⟨S,hSd⟩:∃S:MS,S={ S0 with base:=S0.w.heap.size,keep:=λb=>b<S0.w.heap.size/\¬S0.im b }:=⟨_,rfl⟩;have ev0:Evi S0 S:=by subst hSd;exact Evi.of (λ_ _=>rfl) rfl rfl rfl rfl rfl rfl
 have hw0:S.w=S0.w:=by rw[hSd]
 have hS:SRel S As.nil:=by
  subst hSd;exact⟨hS0.n,λg hg=>absurd hg (AL _),λg _ hg=>absurd hg (AL _),λb hb=>hb.elim (λh=>hS0.im b (.inl h)) And.left⟩
 have hx:A4 S caps lb:=A4.moni ev0 _ hx0;have hlen:=hx.length
 let I:Itr:=⟨P,l,m,rows,S0,J,Jx,cJ,cx,fact,round⟩
 have hN:I.Now (some 0) (λb=>b<S0.w.heap.size/\¬S0.im b) S As.nil:=by
  refine⟨hS,by rw[hSd];exact Ac _,λb hb=>by rw[hSd];exact hb,λb hb=>by rw[hSd];exact hb,λb hb=>.inl (by rw[hSd] at hb;exact hb),?_⟩
  have e:(λb=>b<S.w.heap.size/\¬(b<S0.w.heap.size/\¬S0.im b)/\¬I.S0.im b)=λ_=>False:=by
   funext b;refine propext ⟨λ⟨h1,h2,h3⟩=>h2 ⟨by rw[hw0] at h1;exact h1,h3⟩,False.elim⟩
  rw[e,hw0];exact hj
 refine callsIn_of_wp_marks (F:=Fence.wide) (n:=m+1) hF hb trivial ?_
 have hfr:FRel S fn.n (entry (.yld l::caps)) { tmps:=(#[Value.func (.yield l) #[] #[]]++lb.toArray)++Array.replicate (F.ntmps-(#[Value.func (.yield l) #[] #[]]++lb.toArray).size) undef,defers:=[] }:=by
  have hx':A4 S (.yld l::caps) (.func (.yield l) #[] #[]::lb):=⟨_,_,rfl,rfl,hx⟩;refine⟨by simp;omega,Marks.nil hN.base,λi hi=>?_⟩;by_cases hlt:i<(AV.yld l::caps).length
  ·obtain⟨v,hv,hr⟩:=hx'.get (Ai hlt)
   have e1:entry (.yld l::caps) i=(AV.yld l::caps)[i]:=by simp[entry,List.getD,Ai hlt]
   have e2:((#[Value.func (.yield l) #[] #[]]++lb.toArray)++Array.replicate (F.ntmps-(#[Value.func (.yield l) #[] #[]]++lb.toArray).size) undef).getD i undef=v:=by
    have hsz:i<(#[Value.func (.yield l) #[] #[]]++lb.toArray).size:=by simp at hlt ⊢;omega
    rw[CR,Bz hsz];have:(#[Value.func (.yield l) #[] #[]]++lb.toArray)[i]? = (Value.func (.yield l) #[] #[]::lb)[i]? := by simp
    rw[this,hv];rfl
   rw[e1,e2];exact hr
  ·have e1:entry (.yld l::caps) i=.any:=by simp[entry,List.getD,Bm (Fo hlt)]
   rw[e1];trivial
 rw[<-hw0];refine wpIn_mono (h I rfl rfl c hc S _ _ hN hfr rfl) λe a w' hh=>?_;obtain⟨S2,env2,H2,z,s2,X2,rfl,hN2,hF2,hd2,rfl,⟨hq,hres⟩,hst⟩:=hh
 have fin:LeavesInM Fence.wide (m+1) P F a.tmps (λe W'=>(∃v,e=.returned v)/\((∃O,J rows.length O W')\/∃k O,Jx k O W')) a.defers .returning S2.w:=by
  rw[hd2];refine HW [] S2.w CG (λD hd=>by cases hd) ?_;obtain⟨vs,ys,h1,h2,h3⟩:=IB hN2.rel hF2 hr hres;refine⟨if h:vs.toArray.size=1 then vs.toArray[0] else .tuple vs.toArray,?_,⟨_,rfl⟩,?_⟩
  ·have e:results F a.tmps=(do let vs <-F.results.mapM (N4 a.tmps);pure (if h:vs.size=1 then vs[0] else .tuple vs)):=by
    unfold results;congr
   rw[e,Dw];show Sem.run P _ S2.w=_;simp only[Sem.run_bind,Sem.run_map,h1,Result.andThen_ok,Sem.run_pure];rfl
  ·have:=hN2.st
   rcases hst with rfl|rfl
   ·exact .inl ⟨_,this⟩
   ·obtain⟨k,hk⟩:=this;exact .inr ⟨k,_,hk⟩
 cases z with
 |normal=>exact fin
 |exit id=>exact hq.elim
 |ret=>exact fin
end
end Go.Proofs.YtbcjoeadpjfcfaaGreat.Abs
namespace Go.Proofs.YtbcjoeadpjfcfaaGreat
open Abs O1 O2 O3
def domL(s:Int):List Span:=if s=1 then [⟨0,255⟩] else if s=2 then [⟨0,55295⟩,⟨57344,1114111⟩] else []
theorem IE(a:Int):PC Tryz.prog 113 [.int .i64 a] (F2 ⟨a,0,21,0⟩):=by
 refine Ct QR ?_;unfold KH;(with_reducible repeat'(first|simp (disch:=omega) only[push_cast,↓zz,seval]|apply Aa|refine sp_ ?_ ?_<;>intro hc<;>push_cast at hc|omega|intro _))
def FV(p:Part):Bool:=decide (0<=p.drop/\p.drop<21/\1<=p.take/\p.take<=21/\0<=p.up/\p.up<21/\(p.up=0\/p.take<=6))
theorem Hk(p:Part):PC Tryz.prog 153 [F2 p] (.bool (FV p)):=by
 refine Ct SE ?_;unfold Mk;(with_reducible repeat'(first|simp (disch:=omega) only[push_cast,↓zz,seval]|apply Aa|refine sp_ ?_ ?_<;>intro hc<;>push_cast at hc|omega|intro _))
 all_goals (unfold FV;first|(refine TW ?_;omega)|(refine TX ?_;omega)|(refine LF ?_;omega))
def EN(p:Part)(n:Int):Bool:=decide (0<=p.at_/\p.at_<n)&&FV p
theorem Gr(p:Part)(n:Int):PC Tryz.prog 135 [F2 p,.int .i64 n] (.bool (EN p n)):=by
 refine Ct QW ?_;unfold KO;(with_reducible repeat'(first|simp (disch:=omega) only[push_cast,↓zz,seval]|apply Aa|refine sp_ ?_ ?_<;>intro hc<;>push_cast at hc|(have q_:=Hk p;refine ee q_ ?_;clear q_)|(have q_:=Hk p;refine cc q_ ?_;clear q_;(simp(disch:=omega)only[push_cast,↓zz,seval]);(fail_if_success change False))|omega|intro _))
 all_goals (simp[EN, *]<;>omega)
def valP(p:Part)(x:Int):Int:=x / 2 ^ p.drop.toNat % 2 ^ p.take.toNat * 2 ^ p.up.toNat
def valB(p:Part)(x:Int):Bool:=FV p&&decide (0<=x/\x<=2097151)
def val1(p:Part)(x:Int):Int:=if valB p x then valP p x else 0
abbrev valV(p:Part)(x:Int):AV:=.tup [.int .i64 (val1 p x),.bool (valB p x)]
theorem JV{p:Part}:FV p=true↔(0<=p.drop/\p.drop<21/\1<=p.take/\p.take<=21/\0<=p.up/\p.up<21/\(p.up=0\/p.take<=6)):=by simp[FV]
theorem Lf(d:Nat)(h:d<=21):(1:Int)<=2 ^ d/\(2:Int) ^ d<=2097152 :=
 ⟨Ew (by decide),by have:=Cl (n:=2) (by decide) h;have e:((2 ^ d:Nat):Int)=2 ^ d:=(by simp);rw[<-e];omega⟩
theorem z4a{p:Part}{x:Int}(hb:FV p=true)(hx:0<=x/\x<=2097151):
 IntKind.i64.wrap (IS .and .i64 (x.fdiv (2 ^ min p.drop.toNat IntKind.i64.bits)) (IntKind.i64.wrap (IntKind.i64.wrap (1 * 2 ^ min p.take.toNat IntKind.i64.bits)-1)) * 2 ^ min p.up.toNat IntKind.i64.bits)=valP p x:=by
 rw[JV] at hb;have e1:min p.drop.toNat IntKind.i64.bits=p.drop.toNat:=CW (by show _<=64;omega);have e2:min p.take.toNat IntKind.i64.bits=p.take.toNat:=CW (by show _<=64;omega);have e3:min p.up.toNat IntKind.i64.bits=p.up.toNat:=CW (by show _<=64;omega);rw[e1,e2,e3];have hd:=Lf p.drop.toNat (by omega);have ht:=Lf p.take.toNat (by omega);have hu:=Lf p.up.toNat (by omega);rw[Int.one_mul,IntWalk.i64_in (2 ^ p.take.toNat) (by omega),IntWalk.i64_in (2 ^ p.take.toNat-1) (by omega),Xu _ _ (by omega)];have q0:0<=x / 2 ^ p.drop.toNat:=Fy hx.1 (by omega);have q1:x / 2 ^ p.drop.toNat<=x:=Int.ediv_le_self _ hx.1;have m0:=B5 (x / 2 ^ p.drop.toNat) (b:=2 ^ p.take.toNat) (by omega);have m1:=Bs (x / 2 ^ p.drop.toNat) (b:=2 ^ p.take.toNat) (by omega);rw[Xv p.take.toNat ⟨q0,by show _<(2:Int) ^ 64;omega⟩ (by show _<=64;omega) (IntWalk.i64_in _ (by omega))];refine IntWalk.i64_in _ ?_;have:x / 2 ^ p.drop.toNat % 2 ^ p.take.toNat * 2 ^ p.up.toNat<=2097152 * 2097152:=Int.mul_le_mul (by omega) (by omega) (by omega) (by omega);have:0<=x / 2 ^ p.drop.toNat % 2 ^ p.take.toNat * 2 ^ p.up.toNat:=EK (by omega) (by omega);omega
theorem Pn{p:Part}{x:Int}(hb:FV p=true)(hx:0<=x/\x<=2097151):valB p x=true/\val1 p x=valP p x:=by
 have:valB p x=true:=by simp only[valB,hb,AN,Ag];exact hx
 exact⟨this,by rw[val1,this];rfl⟩
theorem zg4{p:Part}{x:Int}(h:FV p=false\/x<0\/2097151<x):valB p x=false/\val1 p x=0:=by
 have:valB p x=false:=by
  simp only[valB,Bool.and_eq_false_iff,BM];rcases h with h|h
  ·exact .inl h
  ·exact .inr (by omega)
 exact⟨this,by rw[val1,this];rfl⟩
theorem YA{p:Part}{x:Int}(h:FV p=false\/x<0\/2097151<x):valV p x=.tup [.int .i64 0,.bool false]:=by
 obtain⟨h1,h2⟩:=zg4 h;simp only[valV,h1,h2]
theorem zbq{p:Part}{x:Int}(hb:FV p=true)(hx:0<=x/\x<=2097151):valV p x=.tup [.int .i64 (valP p x),.bool true]:=by
 obtain⟨h1,h2⟩:=Pn hb hx;simp only[valV,h1,h2]
theorem Hl(p:Part)(x:Int):PC Tryz.prog 136 [F2 p,.int .i64 x] (valV p x):=by
 refine Ct QX ?_;unfold KP;(with_reducible repeat'(first|simp (disch:=omega) only[push_cast,↓zz,seval]|apply Aa|refine sp_ ?_ ?_<;>intro hc<;>push_cast at hc|(have q_:=Hk p;refine ee q_ ?_;clear q_)|(have q_:=Hk p;refine cc q_ ?_;clear q_;(simp(disch:=omega)only[push_cast,↓zz,seval]);(fail_if_success change False))|omega|intro _))
 all_goals first|(have hb:=JV.1 ‹FV p=true›;omega)|(rw[YA (.inl ‹_›)];(repeat'(first|(simp(disch:=omega)only[push_cast,↓zz,seval,FJ])|omega|(with_reducible refine Aa ?_ ?_)));done)|(rw[YA (.inr (by omega))];(repeat'(first|(simp(disch:=omega)only[push_cast,↓zz,seval,FJ])|omega|(with_reducible refine Aa ?_ ?_)));done)|(rw[zbq ‹_› (by omega)];(repeat'(first|(simp(disch:=omega)only[push_cast,↓zz,seval,FJ])|omega|(with_reducible refine Aa ?_ ?_)));exact z4a ‹_› (by omega))
theorem EY(s:Int):PC Tryz.prog 72 [.int .i64 s] (By (domL s)):=by
 refine Ct Pb ?_;unfold JL;(with_reducible repeat'(first|simp (disch:=omega) only[push_cast,↓zz,seval]|apply Aa|refine sp_ ?_ ?_<;>intro hc<;>push_cast at hc|omega|intro _))
 all_goals (simp only[domL, *];rfl)
abbrev Term.outer(t:Term):Part:=⟨0,t.drop,t.take,t.up⟩
theorem FW(t:Term):PC Tryz.prog 137 [Ha t] (F2 t.outer):=by
 refine Ct QZ ?_;unfold KQ;(with_reducible repeat'(first|simp (disch:=omega) only[push_cast,↓zz,seval]|apply Aa|refine sp_ ?_ ?_<;>intro hc<;>push_cast at hc|omega|intro _))
def U5(t:Term):Bool:=decide (t.base=0/\t.drop=0/\t.take=21/\t.up=0)
def Ii(p:Part):Bool:=decide (p.drop=0/\p.take=21/\p.up=0)
theorem NS(t:Term):PC Tryz.prog 184 [Ha t] (.bool (U5 t)):=by
 refine Ct Rf ?_;unfold KV;(with_reducible repeat'(first|simp (disch:=omega) only[push_cast,↓zz,seval]|apply Aa|refine sp_ ?_ ?_<;>intro hc<;>push_cast at hc|(have q_:=FW t;refine ee q_ ?_;clear q_)|(have q_:=IE 0;refine ee q_ ?_;clear q_)|(have q_:=FW t;refine cc q_ ?_;clear q_;(simp(disch:=omega)only[push_cast,↓zz,seval]);(fail_if_success change False))|(have q_:=IE 0;refine cc q_ ?_;clear q_;(simp(disch:=omega)only[push_cast,↓zz,seval]);(fail_if_success change False))|omega|intro _))
 all_goals (simp[U5,Ii,Term.outer, *])
def HJ(x:Int):Bool:=decide (-1114111<=x/\x<=1114111)
theorem IF(x:Int):PC Tryz.prog 193 [.int .i64 x] (.bool (HJ x)):=by
 refine Ct Ri ?_;unfold KY;(with_reducible repeat'(first|simp (disch:=omega) only[push_cast,↓zz,seval]|apply Aa|refine sp_ ?_ ?_<;>intro hc<;>push_cast at hc|omega|intro _))
 all_goals (unfold HJ;first|(refine TW ?_;omega)|(refine TX ?_;omega)|(refine LF ?_;omega))
def La:List Part->Bool
 |p::q::l=>decide (p.up<q.up)&&La (q::l)
 |_=>true
theorem Po:∀{l:List Part}{i:Nat},i+1<l.length->La (l.drop i)=(decide ((nth l i).up<(nth l (i+1)).up)&&La (l.drop (i+1)))
 |[],i,h=>by simp at h
 |[p],i,h=>by simp at h
 |p::q::l,0,_=>rfl
 |p::q::l,i+1,h=>by
  exact Po (l:=q::l) (i:=i) (by simpa using h)
theorem YB{l:List Part}{i:Nat}(h:l.length<=i+1):La (l.drop i)=true:=by
 match hl:l.drop i with
 |[]=>rfl
 |[p]=>rfl
 |p::q::r=>have:=Ec List.length hl;simp at this;omega
theorem Mt(l:List Part)(hl:l.length<1000000000000):PC Tryz.prog 194 [FK l] (.bool (La l&&decide (l.length<=4))):=by
 refine Ct Ph ?_;unfold JR;(with_reducible repeat'(first|simp (disch:=omega) only[push_cast,↓zz,seval]|apply Aa|refine sp_ ?_ ?_<;>intro hc<;>push_cast at hc|omega|intro _));refine Bv (B8 (λ(i:Nat)=>i<=l.length/\La l=La (l.drop (i-1))) (λi=>l.length-i) (λi=>[(0,FK l),(5,FK l),(6,.int .i64 l.length),(7,.int .i64 i)]) (λ_=>[]) (λ_ _=>[]) 0 (by simp) ?_ ?_)
 ·(with_reducible repeat'(first|simp (disch:=omega) only[push_cast,↓zz,seval]|apply Aa|refine sp_ ?_ ?_<;>intro hc<;>push_cast at hc|omega|intro _))
 rintro i ⟨hi,hr⟩;refine W_T ?_;(with_reducible repeat'(first|simp (disch:=omega) only[push_cast,↓zz,seval]|apply Aa|refine sp_ ?_ ?_<;>intro hc<;>push_cast at hc|omega|intro _))
 ·rename_i h1 h2
  rw[hr,Po (i:=i-1) (by omega),show i-1+1=i by omega];have:¬(nth l (i-1)).up<(nth l i).up:=by omega
  simp[this]
 ·refine⟨i+1,?_⟩
  (with_reducible repeat'(first|simp (disch:=omega) only[push_cast,↓zz,seval]|apply Aa|refine sp_ ?_ ?_<;>intro hc<;>push_cast at hc|omega|intro _));rw[hr,Po (i:=i-1) (by omega),show i-1+1=i by omega];have:(nth l (i-1)).up<(nth l i).up:=by omega
  simp[this]
 ·refine⟨i+1,?_⟩
  (with_reducible repeat'(first|simp (disch:=omega) only[push_cast,↓zz,seval]|apply Aa|refine sp_ ?_ ?_<;>intro hc<;>push_cast at hc|omega|intro _));obtain rfl:i=0:=by omega
  exact hr
 ·rw[hr,YB (i:=i-1) (by omega),AN]
  exact LF (by omega)
def Ei(t:Term):Bool:=HJ t.base&&HJ t.sum&&FV t.outer&&(La t.parts&&decide (t.parts.length<=4))
theorem SP(t:Term):EN t.outer 1=FV t.outer:=by simp[EN]
theorem Mu(t:Term):PC Tryz.prog 135 [F2 t.outer,.int .i64 1] (.bool (FV t.outer)):=by rw[<-SP];exact Gr t.outer 1
theorem Ik(t:Term)(hl:t.parts.length<1000000000000):PC Tryz.prog 183 [Ha t] (.bool (Ei t)):=by
 refine Ct Nn ?_;unfold IZ;(with_reducible repeat'(first|simp (disch:=omega) only[push_cast,↓zz,seval]|apply Aa|refine sp_ ?_ ?_<;>intro hc<;>push_cast at hc|(have q_:=IF t.base;refine ee q_ ?_;clear q_)|(have q_:=IF t.sum;refine ee q_ ?_;clear q_)|(have q_:=FW t;refine ee q_ ?_;clear q_)|(have q_:=Mu t;refine ee q_ ?_;clear q_)|(have q_:=Mt t.parts hl;refine ee q_ ?_;clear q_)|(have q_:=IF t.base;refine cc q_ ?_;clear q_;(simp(disch:=omega)only[push_cast,↓zz,seval]);(fail_if_success change False))|(have q_:=IF t.sum;refine cc q_ ?_;clear q_;(simp(disch:=omega)only[push_cast,↓zz,seval]);(fail_if_success change False))|(have q_:=FW t;refine cc q_ ?_;clear q_;(simp(disch:=omega)only[push_cast,↓zz,seval]);(fail_if_success change False))|(have q_:=Mu t;refine cc q_ ?_;clear q_;(simp(disch:=omega)only[push_cast,↓zz,seval]);(fail_if_success change False))|(have q_:=Mt t.parts hl;refine cc q_ ?_;clear q_;(simp(disch:=omega)only[push_cast,↓zz,seval]);(fail_if_success change False))|omega|intro _))
 all_goals (simp[Ei, *])
def z4b(s:Int):Bool:=decide (s=1\/s=2)
def G5(i n:Int)(l:List Part):Bool:=l.all λp=>EN p n&&(decide (i≠2)||Ii p)
def Jb(t:Term)(i o n:Int):Bool:=z4b i&&z4b o&&Ei t&&G5 i n t.parts&&(decide (i≠2)||decide (t.parts.length<=1))&&(decide (o≠2)||U5 t)
theorem Pp(s:Int):decide (((domL s).length:Int)=0)=!z4b s:=by
 unfold domL z4b;split
 ·subst_vars;decide
 ·split
  ·subst_vars;decide
  ·simp[*]
theorem zg5(l:List Part):(l.length<=1)=((l.length:Int)<=1):=by simp only[eq_iff_iff];omega
theorem Wk(t:Term)(i o n:Int)(hl:t.parts.length<1000000000000):PC Tryz.prog 166 [Ha t,.int .i64 i,.int .i64 o,.int .i64 n] (.bool (Jb t i o n)):=by
 refine Ct Rc ?_;unfold KT;(with_reducible repeat'(first|simp (disch:=omega) only[push_cast,↓zz,seval,Pp]|apply Aa|refine sp_ ?_ ?_<;>intro hc<;>push_cast at hc|(have q_:=EY i;refine ee q_ ?_;clear q_)|(have q_:=EY o;refine ee q_ ?_;clear q_)|(have q_:=Ik t hl;refine ee q_ ?_;clear q_)|(have q_:=EY i;refine cc q_ ?_;clear q_;(simp(disch:=omega)only[push_cast,↓zz,seval,Pp]);(fail_if_success change False))|(have q_:=EY o;refine cc q_ ?_;clear q_;(simp(disch:=omega)only[push_cast,↓zz,seval,Pp]);(fail_if_success change False))|(have q_:=Ik t hl;refine cc q_ ?_;clear q_;(simp(disch:=omega)only[push_cast,↓zz,seval,Pp]);(fail_if_success change False))|omega|intro _))
 ·simp[Jb, *]
 ·have hn:Jb t i o n=(G5 i n t.parts&&(decide (i≠2)||decide ((t.parts.length:Int)<=1))&&(decide (o≠2)||U5 t)):=by simp[Jb,zg5, *]
  rw[hn];refine Bv (B8 (λ(k:Nat)=>k<=t.parts.length/\G5 i n t.parts=G5 i n (t.parts.drop k)) (λk=>t.parts.length-k) (λk=>[(1,.int .i64 i),(2,.int .i64 o),(3,.int .i64 n),(4,.ptr 0 1 0 0),(27,FK t.parts),(28,.int .i64 t.parts.length),(29,.int .i64 k)]) (λ_=>[⟨6,1,true,[Ha t]⟩]) (λenv _=>[DD 0 (env 4)]) 0 (by simp) ?_ ?_)
  ·(with_reducible repeat'(first|simp (disch:=omega) only[push_cast,↓zz,seval]|apply Aa|refine sp_ ?_ ?_<;>intro hc<;>push_cast at hc|omega|intro _))
  rintro k ⟨hi,hr⟩;refine W_T ?_;(with_reducible repeat'(first|simp (disch:=omega) only[push_cast,↓zz,seval]|apply Aa|refine sp_ ?_ ?_<;>intro hc<;>push_cast at hc|(have q_:=Gr (nth t.parts k) n;refine ee q_ ?_;clear q_)|(have q_:=IE (nth t.parts k).at_;refine ee q_ ?_;clear q_)|(have q_:=NS t;refine ee q_ ?_;clear q_)|(have q_:=Gr (nth t.parts k) n;refine cc q_ ?_;clear q_;(simp(disch:=omega)only[push_cast,↓zz,seval]);(fail_if_success change False))|(have q_:=IE (nth t.parts k).at_;refine cc q_ ?_;clear q_;(simp(disch:=omega)only[push_cast,↓zz,seval]);(fail_if_success change False))|(have q_:=NS t;refine cc q_ ?_;clear q_;(simp(disch:=omega)only[push_cast,↓zz,seval]);(fail_if_success change False))|omega|intro _))
  all_goals (first|(refine⟨k+1,?_⟩;(with_reducible repeat'(first|simp (disch:=omega) only[push_cast,↓zz,seval]|apply Aa|refine sp_ ?_ ?_<;>intro hc<;>push_cast at hc|omega|intro _));(try (first|(rw[hr,drop_at (by omega)];simp[G5,Ii, *];done)|(rw[hr,Aw (by omega)];simp[G5,Ii, *];done)|(simp[G5,Ii, *];done)));done)|(first|(rw[hr,drop_at (by omega)];simp[G5,Ii, *];done)|(rw[hr,Aw (by omega)];simp[G5,Ii, *];done)|(simp[G5,Ii, *];done)))
 all_goals (simp[Jb, *])
def sumP(w:List Int):List Part->Int->Option Int
 |[],a=>some a
 |p::l,a=>if EN p w.length then sumP w l (IntKind.i64.wrap (a+val1 p (nth w p.at_.toNat))) else none
def symB(x:Int):Bool:=decide (0<=x/\x<=1114111)
def Fw(t:Term)(w:List Int):Option Int :=
 if w.all symB then
  match sumP w t.parts t.sum with
  |some x=>if valB t.outer x&&decide (x<=1114111) then some (IntKind.i64.wrap (t.base+valP t.outer x)) else none
  |none=>none
 else none
abbrev optV(o:Option Int):AV:=.tup [.int .i64 (o.getD 0),.bool o.isSome]
theorem zg6{w:List Int}{l:List Part}{k:Nat}{a:Int}(h:k<l.length):sumP w (l.drop k) a=if EN (nth l k) w.length then sumP w (l.drop (k+1)) (IntKind.i64.wrap (a+val1 (nth l k) (nth w (nth l k).at_.toNat))) else none:=by
 rw[drop_at h,sumP]
theorem IG{p:Part}{n:Int}(h:EN p n=true):0<=p.at_/\p.at_<n:=by
 simp only[EN,Ab,Ag] at h;exact h.1
theorem YC{w:List Int}{k:Nat}(h:k<w.length):(w.drop k).all symB=(symB (nth w k)&&(w.drop (k+1)).all symB):=by rw[drop_at h,List.all_cons]
theorem Wl(t:Term)(w:List Int)(hl:t.parts.length<=1000000000000)(hw:w.length<=1000000000000)(h32:∀x∈w,-2147483648<=x/\x<=2147483647):PC Tryz.prog 103 [Ha t,AE w] (optV (Fw t w)):=by
 refine Ct QQ ?_;unfold KG;(with_reducible repeat'(first|simp (disch:=omega) only[push_cast,↓zz,seval]|apply Aa|refine sp_ ?_ ?_<;>intro hc<;>push_cast at hc|omega|intro _));refine Bv (B8 (λ(k:Nat)=>k<=w.length/\w.all symB=(w.drop k).all symB) (λk=>w.length-k) (λk=>[(1,AE w),(2,.ptr 0 1 0 0),(15,AE w),(16,.int .i64 w.length),(17,.int .i64 k)]) (λ_=>[⟨6,1,true,[Ha t]⟩]) (λenv _=>[DD 0 (env 2)]) 0 (by simp) ?_ ?_)
 ·(with_reducible repeat'(first|simp (disch:=omega) only[push_cast,↓zz,seval]|apply Aa|refine sp_ ?_ ?_<;>intro hc<;>push_cast at hc|omega|intro _))
 rintro k ⟨hk,hr⟩;refine W_T ?_;(with_reducible repeat'(first|simp (disch:=omega) only[push_cast,↓zz,seval]|apply Aa|refine sp_ ?_ ?_<;>intro hc<;>push_cast at hc|omega|intro _))
 ·have e:Fw t w=none:=by
   rw[YC (by omega)] at hr;have:symB (nth w k)=false:=by simp[symB];omega
   simp[Fw,hr,this]
  rw[e];(repeat'(first|(simp(disch:=omega)only[push_cast,↓zz,seval,FJ])|omega|(with_reducible refine Aa ?_ ?_)))
 ·refine⟨k+1,?_⟩
  (with_reducible repeat'(first|simp (disch:=omega) only[push_cast,↓zz,seval]|apply Aa|refine sp_ ?_ ?_<;>intro hc<;>push_cast at hc|omega|intro _));rw[hr,YC (by omega)];have:symB (nth w k)=true:=by simp[symB];omega
  simp[this]
 ·have e:Fw t w=none:=by
   rw[YC (by omega)] at hr;have:symB (nth w k)=false:=by simp[symB];omega
   simp[Fw,hr,this]
  rw[e];(repeat'(first|(simp(disch:=omega)only[push_cast,↓zz,seval,FJ])|omega|(with_reducible refine Aa ?_ ?_)))
 ·have hall:w.all symB=true:=by rw[hr,Aw (by omega)];rfl
  clear hr;have hw32:∀j,j<w.length->IntKind.i64.wrap (nth w j)=nth w j:=λj hj=>by have:=h32 _ (Bo hj);exact IntWalk.i64_in _ (by omega)
  refine Bv (B8 (λ(s:Nat × Int)=>s.1<=t.parts.length/\sumP w t.parts t.sum=sumP w (t.parts.drop s.1) s.2) (λs=>t.parts.length-s.1) (λs=>[(1,AE w),(2,.ptr 0 1 0 0),(8,.int .i64 s.2),(31,FK t.parts),(32,.int .i64 t.parts.length),(33,.int .i64 s.1)]) (λ_=>[⟨6,1,true,[Ha t]⟩]) (λenv _=>[DD 0 (env 2)]) (0,t.sum) (by simp) ?_ ?_)
  ·(with_reducible repeat'(first|simp (disch:=omega) only[push_cast,↓zz,seval]|apply Aa|refine sp_ ?_ ?_<;>intro hc<;>push_cast at hc|omega|intro _))
  rintro⟨k,a⟩ ⟨hk,hr2⟩;simp only at hk hr2;refine W_T ?_;(with_reducible repeat'(first|simp (disch:=omega) only[push_cast,↓zz,seval,hw32]|apply Aa|refine sp_ ?_ ?_<;>intro hc<;>push_cast at hc<;>(try have hk:=IG hc)|(have q_:=Gr (nth t.parts k) w.length;refine ee q_ ?_;clear q_)|(have q_:=Hl (nth t.parts k) (nth w (nth t.parts k).at_.toNat);refine ee q_ ?_;clear q_)|(have q_:=FW t;refine ee q_ ?_;clear q_)|(have q_:=Hl t.outer a;refine ee q_ ?_;clear q_)|(have q_:=Gr (nth t.parts k) w.length;refine cc q_ ?_;clear q_;(simp(disch:=omega)only[push_cast,↓zz,seval,hw32]);(fail_if_success change False))|(have q_:=Hl (nth t.parts k) (nth w (nth t.parts k).at_.toNat);refine cc q_ ?_;clear q_;(simp(disch:=omega)only[push_cast,↓zz,seval,hw32]);(fail_if_success change False))|(have q_:=FW t;refine cc q_ ?_;clear q_;(simp(disch:=omega)only[push_cast,↓zz,seval,hw32]);(fail_if_success change False))|(have q_:=Hl t.outer a;refine cc q_ ?_;clear q_;(simp(disch:=omega)only[push_cast,↓zz,seval,hw32]);(fail_if_success change False))|omega|intro _))
  all_goals first
   |(rw[zg6 (by omega)] at hr2
     first
     |(have e:Fw t w=none:=by simp[Fw, *]
       rw[e];(repeat'(first|(simp(disch:=omega)only[push_cast,↓zz,seval,FJ])|omega|(with_reducible refine Aa ?_ ?_)));done)
     |(refine⟨(k+1,IntKind.i64.wrap (a+val1 (nth t.parts k) (nth w (nth t.parts k).at_.toNat))),?_⟩
       (with_reducible repeat'(first|simp (disch:=omega) only[push_cast,↓zz,seval]|apply Aa|refine sp_ ?_ ?_<;>intro hc<;>push_cast at hc|omega|intro _))
       rw[hr2];simp[‹EN (nth t.parts k) w.length=true›];done))
   |(rw[Aw (by omega)] at hr2
     (have hs:sumP w t.parts t.sum=some a:=hr2)
     (have hv:Fw t w=if valB t.outer a&&decide (a<=1114111) then some (IntKind.i64.wrap (t.base+valP t.outer a)) else none:=by simp only[Fw,hall,hs,AR])
     first
     |(rw[hv,Ae (by simp only[Ab,Ag,not_and];intro h;first|omega|(rw[‹valB t.outer a=false›] at h;cases h))];(repeat'(first|(simp(disch:=omega)only[push_cast,↓zz,seval,FJ])|omega|(with_reducible refine Aa ?_ ?_)));done)
     |((have hv1:val1 t.outer a=valP t.outer a:=by simp only[val1,‹valB t.outer a=true›,AR])
       rw[hv,Af (by simp only[Ab,Ag];exact⟨‹_›,by omega⟩),hv1];(repeat'(first|(simp(disch:=omega)only[push_cast,↓zz,seval,FJ])|omega|(with_reducible refine Aa ?_ ?_)));done))
theorem YD{x:Int}:HJ x=true ↔ -1114111<=x/\x<=1114111:=by simp[HJ]
theorem H8{x:Int}(h:HJ x=true):-1114111<=x/\x<=1114111:=YD.1 h
abbrev wr(n:Int):Int:=IntKind.i64.wrap n
theorem YE(n:Int):wr n=(n+9223372036854775808) % 18446744073709551616-9223372036854775808:=by
 show IntKind.i64.wrap n=_;rw[IntWalk.i64_left];unfold RowKit.wrap64;rfl
theorem zbr{n:Int}(h:-9223372036854775808<=n/\n<=9223372036854775807):wr n=n:=by rw[YE];omega
theorem wr_wr(a b:Int):wr (wr a+b)=wr (a+b):=by rw[YE,YE a,YE (a+b)];omega
theorem wr_bd(a:Int):-9223372036854775808<=wr a/\wr a<=9223372036854775807:=by rw[YE];omega
def totP(w:List Int):List Part->Int
 |[]=>0
 |p::l=>val1 p (nth w p.at_.toNat)+totP w l
def Kv(w:List Int)(l:List Part):Bool:=l.all λp=>EN p w.length
theorem YF(w:List Int):∀(l:List Part)(a:Int),wr a=a->sumP w l a=if Kv w l then some (wr (a+totP w l)) else none
 |[],a,h=>by simp[sumP,Kv,totP,h]
 |p::l,a,h=>by
  rw[sumP];cases hp:EN p w.length
  ·simp[Kv,hp]
  ·have ih:=YF w l (wr (a+val1 p (nth w p.at_.toNat))) (by rw[zbr (wr_bd _)])
   rw[Af rfl];have e:wr (wr (a+val1 p (nth w p.at_.toNat))+totP w l)=wr (a+totP w (p::l)):=by rw[wr_wr,totP];congr 1;omega
   rw[e] at ih;simp only[Kv,List.all_cons,hp,AN] at ih ⊢;exact ih
theorem YG{p:Part}{x:Int}(h:Ii p=true)(hx:0<=x/\x<=2097151):FV p=true/\valB p x=true/\valP p x=x:=by
 simp only[Ii,Ag] at h;obtain⟨h1,h2,h3⟩:=h;have hb:FV p=true:=by simp[FV,h1,h2,h3]
 refine⟨hb,(Pn hb hx).1,?_⟩;rw[valP,h1,h2,h3];show x / 2 ^ 0 % 2 ^ 21 * 2 ^ 0=x;omega
end Go.Proofs.YtbcjoeadpjfcfaaGreat
namespace Go.Proofs.YtbcjoeadpjfcfaaGreat
open Abs O1 O2 O3 Go.RowKit
abbrev shI:Sh:=.int .i64
abbrev YH:Sh:=.sl true [shI,shI]
abbrev Pq:Sh:=.sl false [YH]
abbrev zbs:Sh:=.sl false [.int .i32]
abbrev YI:Sh:=.sl true [shI,shI,shI,shI]
abbrev YJ:List Sh:=[shI,shI,shI,shI,shI,YI]
abbrev SQ:Sh:=.sl true YJ
abbrev SR:List Sh:=[shI,shI,Pq,shI,SQ]
abbrev Pr:List Sh:=[shI,Pq,SQ]
abbrev YK:List Sh:=[shI,shI,shI,shI,.sl true SR,.sl true Pr]
theorem wf_i32{n:Int}(h:(Lit.int .i32 n).wf=true):-2147483648<=n/\n<=2147483647:=by
 simpa [Lit.wf,IntKind.min,IntKind.max,IntKind.signed,IntKind.bits] using h
theorem J0{α:Type}{agg:Bool}{fs:List Sh}{x:AV}(f:α->AV)(Q:α->Prop)(hp:∀l:List α,A9 (l.map f)=true)(hpos:0<fs.length)
 (he:∀cs,IsL fs cs->∃a,AV.le (if agg then .agg cs else cs.headD .any) (f a)/\Q a) (h:Is (.sl agg fs) x):∃l:List α,AV.le x (.lst fs.length (l.map f))/\l.length<=maxLen/\∀a∈l,Q a:=by
 rcases h with rfl|⟨xs,rfl,hl,hx⟩
 ·exact⟨[],AV.le_nilS hpos,Ay _,λ_ h=>by cases h⟩
 ·have key:∀xs:List AV,(∀y∈xs,∃cs,y=(if agg then AV.agg cs else cs.headD .any)/\IsL fs cs)->∃l:List α,l.length=xs.length/\leL xs (l.map f)/\∀a∈l,Q a:=by
   intro xs
   induction xs with
   |nil=>intro _;exact⟨[],rfl,Fp,λ_ h=>by cases h⟩
   |cons y r ih =>
    intro hy;obtain⟨l,h1,h2,h3⟩:=ih λz hz=>hy z (List.mem_cons_of_mem _ hz);obtain⟨cs,rfl,hcs⟩:=hy y (List.mem_cons_self ..);obtain⟨a,h4,h5⟩:=he cs hcs;refine⟨a::l,by simp[h1],Bg h4 h2,λb hb=>?_⟩;rcases Ah.1 hb with rfl|hb
    ·exact h5
    ·exact h3 b hb
  obtain⟨l,h1,h2,h3⟩:=key xs hx;exact⟨l,AV.le_lst (by simp[h1]) (hp l) h2,by rw[h1];exact hl,h3⟩
def i64s(l:List Int):Prop:=∀n∈l,(Lit.int .i64 n).wf=true
theorem zbt{k:IntKind}{x:AV}(h:Is (.sl false [.int k]) x):∃l:List Int,AV.le x (.lst 1 (l.map (AV.int k)))/\l.length<=maxLen/\∀n∈l,(Lit.int k n).wf=true :=
 J0 (fs:=[.int k]) (AV.int k) (λn=>(Lit.int k n).wf=true) (Bt k) (by simp) (λcs h=>by
  obtain⟨_,_,rfl,⟨n,rfl,h3⟩,_⟩:=h
  exact⟨n,AV.le_refl _,h3⟩) h
def NT(s:Span):Prop:=i64s [s.lo,s.hi]
theorem z4c{x:AV}(h:Is YH x):∃l:List Span,AV.le x (By l)/\l.length<=maxLen/\∀s∈l,NT s :=
 J0 C3 NT EI (by decide) (λcs h=>by
  obtain⟨_,_,rfl,⟨a,rfl,ha⟩,_,_,rfl,⟨b,rfl,hb⟩,rfl⟩:=h
  exact⟨⟨a,b⟩,AV.le_refl _,by simp[NT,i64s,ha,hb]⟩) h
theorem Rk{x:AV}(h:Is Pq x):∃l:List (List Span),AV.le x (CO l)/\l.length<=maxLen/\∀g∈l,g.length<=maxLen/\∀s∈g,NT s :=
 J0 By (λg=>g.length<=maxLen/\∀s∈g,NT s) Bw (by decide) (λcs h=>by
  obtain⟨c,_,rfl,hc,_⟩:=h;obtain⟨l,h1,h2,h3⟩:=z4c hc
  exact⟨l,h1,h2,h3⟩) h
def U6(p:Part):Prop:=i64s [p.at_,p.drop,p.take,p.up]
theorem z4d{x:AV}(h:Is YI x):∃l:List Part,AV.le x (FK l)/\l.length<=maxLen/\∀s∈l,U6 s :=
 J0 F2 U6 Hb (by decide) (λcs h=>by
  obtain⟨_,_,rfl,⟨a,rfl,ha⟩,_,_,rfl,⟨b,rfl,hb⟩,_,_,rfl,⟨c,rfl,hc⟩,_,_,rfl,⟨d,rfl,hd⟩,rfl⟩:=h
  exact⟨⟨a,b,c,d⟩,AV.le_refl _,by simp[U6,i64s,ha,hb,hc,hd]⟩) h
def U7(t:Term):Prop:=i64s [t.base,t.drop,t.take,t.up,t.sum]/\t.parts.length<=maxLen/\∀p∈t.parts,U6 p
theorem z4e{cs:List AV}(h:IsL YJ cs):∃t:Term,AV.le (.agg cs) (Ha t)/\U7 t:=by
 obtain⟨_,_,rfl,⟨a,rfl,ha⟩,_,_,rfl,⟨b,rfl,hb⟩,_,_,rfl,⟨c,rfl,hc⟩,_,_,rfl,⟨d,rfl,hd⟩,_,_,rfl,⟨e,rfl,he⟩,x,_,rfl,hx,rfl⟩:=h;obtain⟨l,h1,h2,h3⟩:=z4d hx;exact⟨⟨a,b,c,d,e,l⟩,AV.le_agg (Bg (AV.le_refl _) (Bg (AV.le_refl _) (Bg (AV.le_refl _) (Bg (AV.le_refl _) (Bg (AV.le_refl _) (Bg h1 Fp)))))),by simp[i64s,ha,hb,hc,hd,he],h2,h3⟩
theorem U8{x:AV}(h:Is SQ x):∃l:List Term,AV.le x (Gj l)/\l.length<=maxLen/\∀t∈l,U7 t :=
 J0 Ha U7 BV (by decide) (λcs h=>by simpa using z4e h) h
def U9(g:List (List Span)):Prop:=g.length<=maxLen/\∀l∈g,l.length<=maxLen/\∀s∈l,NT s
def YL(l:List Term):Prop:=l.length<=maxLen/\∀t∈l,U7 t
def YM(r:Rule):Prop:=i64s [r.from_,r.to_,r.eat]/\U9 r.guards/\YL r.out
def SS(f:Fq):Prop:=i64s [f.from_]/\U9 f.guards/\YL f.out
theorem YN{cs:List AV}(h:IsL SR cs):∃r:Rule,AV.le (.agg cs) (QM r)/\YM r:=by
 obtain⟨_,_,rfl,⟨a,rfl,ha⟩,_,_,rfl,⟨b,rfl,hb⟩,x,_,rfl,hx,_,_,rfl,⟨c,rfl,hc⟩,y,_,rfl,hy,rfl⟩:=h;obtain⟨g,g1,g2,g3⟩:=Rk hx;obtain⟨o,o1,o2,o3⟩:=U8 hy;exact⟨⟨a,b,g,c,o⟩,AV.le_agg (Bg (AV.le_refl _) (Bg (AV.le_refl _) (Bg g1 (Bg (AV.le_refl _) (Bg o1 Fp))))),by simp[i64s,ha,hb,hc],⟨g2,g3⟩,o2,o3⟩
theorem UA{cs:List AV}(h:IsL Pr cs):∃r:Fq,AV.le (.agg cs) (KC r)/\SS r:=by
 obtain⟨_,_,rfl,⟨a,rfl,ha⟩,x,_,rfl,hx,y,_,rfl,hy,rfl⟩:=h;obtain⟨g,g1,g2,g3⟩:=Rk hx;obtain⟨o,o1,o2,o3⟩:=U8 hy;exact⟨⟨a,g,o⟩,AV.le_agg (Bg (AV.le_refl _) (Bg g1 (Bg o1 Fp))),by simp[i64s,ha],⟨g2,g3⟩,o2,o3⟩
def zg7(d:Desc):Prop:=i64s [d.in_,d.out,d.states,d.start]/\(d.rules.length<=maxLen/\∀r∈d.rules,YM r)/\d.finals.length<=maxLen/\∀f∈d.finals,SS f
theorem zbu{x:AV}(h:IsP (.rcd YK) x):∃d:Desc,AV.le x (CQ d)/\zg7 d:=by
 obtain⟨_,rfl,_,_,rfl,⟨a,rfl,ha⟩,_,_,rfl,⟨b,rfl,hb⟩,_,_,rfl,⟨c,rfl,hc⟩,_,_,rfl,⟨e,rfl,he⟩,x,_,rfl,hx,y,_,rfl,hy,rfl⟩:=h;obtain⟨r,r1,r2,r3⟩:=J0 QM YM BJ (by decide) (λcs h=>by simpa using YN h) hx;obtain⟨f,f1,f2,f3⟩:=J0 KC SS BB (by decide) (λcs h=>by simpa using UA h) hy;exact⟨⟨a,b,c,e,r,f⟩,AV.le_agg (Bg (AV.le_refl _) (Bg (AV.le_refl _) (Bg (AV.le_refl _) (Bg (AV.le_refl _) (Bg r1 (Bg f1 Fp)))))),by simp[i64s,ha,hb,hc,he],⟨r2,r3⟩,f2,f3⟩
theorem z4f{o:Option Int}(h:o.isSome=true):o=some (o.getD 0):=by cases o<;>simp_all
def Dl(r:Rule):Bool:=decide ((r.guards.length:Int)=0)
def toD(l:List Rule)(i:Nat):List Int:=(l.filter λr=>Dl r&&decide (r.from_=i)).map (·.to_)
def inD(l:List Rule)(j:Nat):Int:=((l.filter λr=>Dl r&&decide (r.to_=j)).length:Int)
def cntE(l:List Rule)(P:List Int)(j:Nat):Int:=((l.filter λr=>Dl r&&(decide (r.to_=j)&&!decide (r.from_∈P))).length:Int)
theorem Ps(l:List Rule)(j:Nat):cntE l [] j=inD l j:=by simp[cntE,inD]
theorem zbv(l:List Rule)(P:List Int)(j:Nat):0<=cntE l P j:=by simp only[cntE];omega
theorem zbw(l:List Rule)(P:List Int)(j:Nat):cntE l P j<=cntE l [] j:=by
 simp only[cntE]
 have:(l.filter λr=>Dl r&&(decide (r.to_=j)&&!decide (r.from_∈P))).length<=(l.filter λr=>Dl r&&(decide (r.to_=j)&&!decide (r.from_∈([]:List Int)))).length:=by
  induction l with
  |nil=>simp
  |cons r l ih =>
   simp only[BR];cases Dl r<;>cases decide (r.to_=(j:Int))<;>cases decide (r.from_∈P)<;>simp at ih ⊢<;>omega
 omega
theorem Pt{s j:Nat}{P:List Int}(hs:(s:Int)∉P):∀l:List Rule,cntE l (P++[(s:Int)]) j+((toD l s).count (j:Int):Int)=cntE l P j
 |[]=>by simp[cntE,toD]
 |r::l=>by
  have ih:=Pt (j:=j) hs l;simp only[cntE,toD,BR] at ih ⊢;cases he:Dl r
  ·simpa using ih
  ·simp only[AN]
   by_cases ht:r.to_=j
   ·by_cases hf:r.from_=s
    ·have h1:r.from_∈P++[(s:Int)]:=by simp[hf]
     have h2:r.from_∉P:=by rw[hf];exact hs
     simp only[ht,hf] at h1 h2 ⊢;simp only[CI,h1,h2,BX,CU,Ea,Dn,Ev,AR,Av,AT,List.length_cons,Bf,List.count_cons_self,ht]
     push_cast
     omega
    ·have h1:(r.from_∈P++[(s:Int)])↔r.from_∈P:=by simp[hf]
     by_cases h2:r.from_∈P
     ·simp only[ht,hf,h1,h2,CI,BX,CU,Dn,Av,AT]
      exact ih
     ·simp only[ht,hf,h1,h2,CI,BX,Ea,Ev,AR,Av,AT,List.length_cons]
      push_cast
      omega
   ·by_cases hf:r.from_=s
    ·simp only[ht,hf,BX,CI,Be,Av,AT,AR,Bf]
     rw[List.count_cons_of_ne ht];exact ih
    ·simp only[ht,hf,BX,Be,Av,AT]
     exact ih
theorem IH:∀{a b:List Int},a.Nodup->(∀x∈a,x∈b)->a.length<=b.length
 |[],b,_,_=>Ay _
 |x::a,b,hn,h=>by
  obtain⟨h1,h2⟩:=B6.1 hn;have hx:=h x (by simp);have:=IH (a:=a) (b:=b.erase x) h2 λy hy=>(List.mem_erase_of_ne (λ(e:y=x)=>h1 (by rw[<-e];exact hy))).2 (h y (by simp[hy]));rw[List.length_erase_of_mem hx] at this;have:=DW hx;simp only[List.length_cons];omega
def idsN(n:Nat):List Int:=(List.range n).map λ(i:Nat)=>(i:Int)
theorem YO(n:Nat):(idsN n).Nodup:=by
 rw[idsN,Cx,ER];exact (Cx.1 (D7)).imp λh e=>h (by omega)
theorem Pu{n:Nat}{x:Int}:x∈idsN n↔0<=x/\x<n:=by
 simp only[idsN,Ar,AS];constructor
 ·rintro⟨i,hi,rfl⟩;omega
 ·rintro⟨h1,h2⟩;exact⟨x.toNat,by omega,by omega⟩
def z7q(l:List Rule)(n:Nat)(C:Int->Prop):Prop:=∀j,C j->(0<=j/\j<n)/\∃r∈l,Dl r=true/\r.to_=j/\C r.from_
def cycP(l:List Rule)(n:Nat):Prop:=∃C,z7q l n C/\∃j,C j
structure KInv(l:List Rule)(n:Nat)(D:List Int)(I:Nat->Int):Prop where
 nodup:D.Nodup
 range:∀x∈D,0<=x/\x<n
 zero:∀j,j<n->((j:Int)∈D↔I j=0)
 apart:∀C,z7q l n C->∀x∈D,¬C x
theorem KInv.len{l:List Rule}{n:Nat}{D:List Int}{I:Nat->Int}(h:KInv l n D I):D.length<=n:=by
 have:=IH h.nodup λx hx=>Pu.2 (h.range x hx);simpa [idsN] using this
def J1(f:Nat->Int)(k:Nat):List Int:=((List.range k).filter λj=>decide (f j=0)).map λ(j:Nat)=>(j:Int)
theorem Wm(f:Nat->Int)(k:Nat):J1 f (k+1)=if f k=0 then J1 f k++[(k:Int)] else J1 f k:=by
 rw[J1,Fz,Cy,A7];split
 ·rename_i h;simp[J1,h]
 ·rename_i h;simp[J1,h]
theorem YP(f:Nat->Int)(k:Nat):(J1 f k).length<=k:=by
 have:=B7 (λj=>decide (f j=0)) (List.range k);simpa [J1] using this
theorem zbx{l:List Rule}{r:Rule}{j:Nat}(hr:r∈l)(he:Dl r=true)(ht:r.to_=j):0<inD l j:=by
 have:0<(l.filter λr=>Dl r&&decide (r.to_=j)).length:=DW (AX.2 ⟨hr,by simp[he,ht]⟩);simp only[inD];omega
theorem z4g{l:List Rule}{P:List Int}{r:Rule}{j:Nat}(hr:r∈l)(he:Dl r=true)(ht:r.to_=j)(hf:r.from_∉P):0<cntE l P j:=by
 have:0<(l.filter λr=>Dl r&&(decide (r.to_=j)&&!decide (r.from_∈P))).length:=DW (AX.2 ⟨hr,by simp[he,ht,hf]⟩);simp only[cntE];omega
theorem Wn(l:List Rule)(n:Nat):KInv l n (J1 (inD l) n) (cntE l []) where
 nodup:=by
  rw[J1,Cx,ER];exact ((Cx.1 (D7)).filter _).imp λh e=>h (by omega)
 range x hx:=by
  obtain⟨i,hi,rfl⟩:=Ar.1 hx;have:=(AX.1 hi).1;simp at this;omega
 zero j hj:=by
  rw[Ps];simp only[J1,Ar,AX,AS,Ag];constructor
  ·rintro⟨i,⟨h1,h2⟩,e⟩
   obtain rfl:i=j:=by omega
   exact h2
  ·intro h;exact⟨j,⟨hj,h⟩,rfl⟩
 apart C hC x hx hCx:=by
  obtain⟨i,hi,rfl⟩:=Ar.1 hx;have h0:=(AX.1 hi).2;simp only[Ag] at h0;obtain⟨_,r,hr,he,ht,_⟩:=hC _ hCx;have:=zbx hr he ht;omega
def FA(l:List Rule)(P:List Int)(s m:Nat)(j:Nat):Int:=cntE l P j-(((toD l s).take m).count (j:Int):Int)
theorem NU(l:List Rule)(P:List Int)(s:Nat):FA l P s 0=cntE l P:=by funext j;simp[FA]
theorem YQ{l:List Rule}{P:List Int}{s:Nat}(hs:(s:Int)∉P):FA l P s (toD l s).length=cntE l (P++[(s:Int)]):=by
 funext j;have:=Pt (j:=j) hs l;rw[FA,AB];omega
theorem UB{l:List Rule}{P:List Int}{s m j:Nat}(hs:(s:Int)∉P):cntE l (P++[(s:Int)]) j<=FA l P s m j:=by
 have h1:=Pt (j:=j) hs l;have h2:=(ES m (toD l s)).count_le (j:Int);rw[FA];omega
theorem Kw{l:List Rule}{P:List Int}{s m t:Nat}(hm:m<(toD l s).length)(ht:nth (toD l s) m=t):FA l P s (m+1)=λj=>if j=t then FA l P s m t-1 else FA l P s m j:=by
 funext j;rw[FA,take_at hm,List.count_append,ht];by_cases e:j=t
 ·subst e;simp[FA];omega
 ·have h0:List.count (j:Int) [(t:Int)]=0:=List.count_eq_zero.2 (by simp;omega)
  rw[Ae e,h0,FA];omega
theorem Rl{l:List Rule}{P:List Int}{s m t:Nat}(hs:(s:Int)∉P)(hm:m<(toD l s).length)(ht:nth (toD l s) m=t):0<FA l P s m t:=by
 have h1:=UB (l:=l) (m:=m+1) (j:=t) hs;have h2:=zbv l (P++[(s:Int)]) t;rw[Kw hm ht] at h1;simp only[AR] at h1;omega
theorem YR{l:List Rule}{n:Nat}{P td:List Int}{s m t:Nat}(hs:(s:Int)∉P)(hm:m<(toD l s).length)(ht:nth (toD l s) m=t)(htn:t<n)(h:KInv l n (P++[(s:Int)]++td) (FA l P s m)):
 KInv l n (P++[(s:Int)]++if FA l P s m t-1=0 then td++[(t:Int)] else td) (FA l P s (m+1)):=by
 have hp:=Rl hs hm ht
 have hno:(t:Int)∉P++[(s:Int)]++td:=λhh=>by
  have:=(h.zero t htn).1 hh;omega
 have hst:=Kw (P:=P) hm ht;split
 ·rename_i h0
  rw[<-Ax];refine⟨C9.2 ⟨h.nodup,by simp,λa ha b hb=>?_⟩,λx hx=>?_,λj hj=>?_,λC hC x hx hCx=>?_⟩
  ·simp only[Aq] at hb
   subst hb;exact λe=>hno (e ▸ ha)
  ·rcases Ap.1 hx with hx|hx
   ·exact h.range x hx
   ·simp only[Aq] at hx;omega
  ·rw[hst,Ap,Aq]
   by_cases e:j=t
   ·subst e;simp[h0]
   ·simp only[Ae e]
    rw[<-h.zero j hj];exact⟨λhh=>hh.elim id λhh=>absurd hh (by omega),.inl⟩
  ·rcases Ap.1 hx with hx|hx
   ·exact h.apart C hC x hx hCx
   ·simp only[Aq] at hx
    subst hx;obtain⟨_,r,hr,he,hrt,hrf⟩:=hC _ hCx;have hf:r.from_∉P++[(s:Int)]:=λhh=>h.apart C hC _ (Ap.2 (.inl hh)) hrf;have h1:=z4g hr he hrt hf;have h2:=UB (l:=l) (m:=m+1) (j:=t) hs;rw[hst] at h2;simp only[AR] at h2;omega
 ·rename_i h0
  refine⟨h.nodup,h.range,λj hj=>?_,h.apart⟩;rw[hst];by_cases e:j=t
  ·subst e;simp only[AR];exact⟨λhh=>absurd hh hno,λhh=>absurd hh h0⟩
  ·simp only[Ae e];exact h.zero j hj
theorem YS{l:List Rule}{n:Nat}{P:List Int}(hl:∀r∈l,0<=r.from_/\r.from_<n)(h:KInv l n P (cntE l P)):P.length<n↔cycP l n:=by
 constructor
 ·intro hlt
  refine⟨λj=>(0<=j/\j<n)/\j∉P,λj hj=>⟨hj.1,?_⟩,?_⟩
  ·have h0:cntE l P j.toNat≠0:=λh0=>hj.2 (by
    have:=(h.zero j.toNat (by omega)).2 h0
    rwa [show ((j.toNat:Nat):Int)=j by omega] at this)
   have:0<(l.filter λr=>Dl r&&(decide (r.to_=(j.toNat:Nat))&&!decide (r.from_∈P))).length:=by
    simp only[cntE] at h0;omega
   obtain⟨r,hr⟩:=List.exists_mem_of_length_pos this;obtain⟨h1,h2⟩:=AX.1 hr;simp only[Ab,Ag,Cn,BM] at h2;exact⟨r,h1,h2.1,by rw[h2.2.1];omega,hl r h1,h2.2.2⟩
  ·refine AJ λhno=>?_
   have:=IH (YO n) λx hx=>AJ λhp=>hno ⟨x,Pu.1 hx,hp⟩;simp[idsN] at this;omega
 ·rintro⟨C,hC,j,hj⟩
  have hr:=(hC j hj).1;have hjP:j∉P:=λhh=>h.apart C hC j hh hj
  have:=IH (a:=j::P) (b:=idsN n) (B6.2 ⟨hjP,h.nodup⟩) λx hx=>by
   rcases Ah.1 hx with rfl|hx
   ·exact Pu.2 hr
   ·exact Pu.2 (h.range x hx)
  simp[idsN] at this;omega
def onF(l:List Rule)(on:Nat->Bool)(j:Nat):Bool:=l.any λr=>Dl r&&(on r.from_.toNat&&decide (r.to_=j))
def onK(l:List Rule):Nat->Nat->Bool
 |0=>λ_=>true
 |k+1=>onF l (onK l k)
def Wo(l:List Rule)(on:Nat->Bool):Bool:=l.any λr=>Dl r&&on r.from_.toNat
def cycR(l:List Rule)(n:Nat):Bool:=(List.range (n+1)).all λk=>Wo l (onK l k)
theorem z4h{l:List Rule}{p q:Nat->Bool}(h:∀j,p j=true->q j=true)(j:Nat):onF l p j=true->onF l q j=true:=by
 simp only[onF,BG,Ab,Ag];rintro⟨r,hr,h1,h2,h3⟩;exact⟨r,hr,h1,h _ h2,h3⟩
theorem Pv(l:List Rule):∀(k j:Nat),onK l (k+1) j=true->onK l k j=true
 |0,j,_=>rfl
 |k+1,j,h=>z4h (λj=>Pv l k j) j h
theorem filter_lt{p q:Nat->Bool}(h:∀j,p j=true->q j=true):∀{l:List Nat}{x:Nat},x∈l->q x=true->p x=false->(l.filter p).length<(l.filter q).length
 |[],_,hx,_,_=>by cases hx
 |y::l,x,hx,hq,hp=>by
  have hle:∀l:List Nat,(l.filter p).length<=(l.filter q).length:=λl=>by
   induction l with
   |nil=>simp
   |cons a l ih =>
    simp only[BR];have:=h a;cases hpa:p a<;>cases hqa:q a<;>simp_all<;>omega
  simp only[BR];rcases Ah.1 hx with rfl|hx
  ·have:=hle l
   simp only[hp,hq,Av,AT,AR,List.length_cons];omega
  ·have ih:=filter_lt h hx hq hp
   have:=h y;cases hpa:p y<;>cases hqa:q y<;>simp_all<;>omega
theorem z4i{l:List Rule}{n:Nat}(hl:∀r∈l,(0<=r.from_/\r.from_<n)/\0<=r.to_/\r.to_<n):cycR l n=true↔cycP l n:=by
 rw[cycR,AU];constructor
 ·intro h
  have hex:∃k,k<=n/\∀j,j<n->onK l k j=true->onK l (k+1) j=true:=by
   refine AJ λhno=>?_
   have hstep:∀k,k<=n->∃j,j<n/\onK l k j=true/\onK l (k+1) j=false:=λk hk=>AJ λhc=>hno ⟨k,hk,λj hj h1=>by
    cases h2:onK l (k+1) j
    ·exact absurd ⟨j,hj,h1,h2⟩ hc
    ·rfl⟩
   have key:∀k,k<=n+1->((List.range n).filter (onK l k)).length+k<=n:=λk=>by
    induction k with
    |zero =>
     intro _;have:=B7 (onK l 0) (List.range n);simpa using this
    |succ k ih =>
     intro hk;obtain⟨j,hj,h1,h2⟩:=hstep k (by omega);have:=filter_lt (λj=>Pv l k j) (AS.2 hj) h1 h2;have:=ih (by omega);omega
   have:=key (n+1) (Ac _);omega
  obtain⟨k,hk,hs⟩:=hex;refine⟨λj=>0<=j/\j<n/\onK l k j.toNat=true,λj hj=>⟨⟨hj.1,hj.2.1⟩,?_⟩,?_⟩
  ·have h1:=hs j.toNat (by omega) hj.2.2
   simp only[onK,onF,BG,Ab,Ag] at h1;obtain⟨r,hr,he,hf,ht⟩:=h1;have hb:=hl r hr;exact⟨r,hr,he,by omega,by omega,by omega,hf⟩
  ·have h1:=h k (by simp;omega)
   simp only[Wo,BG,Ab] at h1;obtain⟨r,hr,_,hf⟩:=h1;have hb:=hl r hr;exact⟨r.from_,by omega,by omega,hf⟩
 ·rintro⟨C,hC,j,hj⟩ k _
  have key:∀k i,C i->onK l k i.toNat=true:=λk=>by
   induction k with
   |zero=>exact λ_ _=>rfl
   |succ k ih =>
    intro i hi;obtain⟨h1,r,hr,he,ht,hf⟩:=hC i hi;simp only[onK,onF,BG,Ab,Ag];exact⟨r,hr,he,ih _ hf,by omega⟩
  obtain⟨_,r,hr,he,_,hf⟩:=hC j hj;simp only[Wo,BG,Ab];exact⟨r,hr,he,key k _ hf⟩
end Go.Proofs.YtbcjoeadpjfcfaaGreat
namespace Go.Proofs.YtbcjoeadpjfcfaaGreat.Abs
theorem Wp{n b:Nat}{env:Env}{l l':List Grp}{g w v d:Nat}{ex:Bool}{x:AV}(ks:List Nat)(hw:0<w)(hlt:g<l.length)(hg:l.getD g default=⟨w,v,ex,[x]⟩)(hk:g∉ks)
 (hok:CM d ((hl l).only ks) x) (hl':(EE 0 ks l).set g ⟨w,v,ex,[frzV d ((hl l).only ks) x]⟩=l'):Ent n b env (hl l) env (hl l'):=λS val hb hS hv=>by
 subst hl';have hS1:=Ln ks hS;have he:=GC ks hS;refine⟨S.kill (hl l) ks,rfl,he.down hb,?_,λi hi=>VRel.mono he _ (hv i hi)⟩;have hlk:g<(EE 0 ks l).length:=by rw[Gz];exact hlt
 have hat0:∀j,j<l.length->((hl l).kill ks).at_ j=(EE 0 ks l).getD j default:=λj hj=>by
  rw[JF 0 ks l j hj,AO];rfl
 have hn:(hl ((EE 0 ks l).set g ⟨w,v,ex,[frzV d ((hl l).only ks) x]⟩)).n=((hl l).kill ks).n:=by simp[hl,As.kill,Gz]
 have hlen:((hl l).kill ks).n=l.length:=rfl
 have hat:∀j,j<l.length->(hl ((EE 0 ks l).set g ⟨w,v,ex,[frzV d ((hl l).only ks) x]⟩)).at_ j=if j=g then ⟨w,v,ex,[frzV d ((hl l).only ks) x]⟩ else ((hl l).kill ks).at_ j:=λj hj=>by
  rw[Dj];by_cases e:j=g
  ·subst e;rw[Af rfl];exact Jn _ hlk
  ·rw[Ae e,hat0 j hj];exact Gc _ (CH e)
 have hgk:((hl l).kill ks).at_ g=⟨w,v,ex,[x]⟩:=by
  show (if g∈ks then _ else _)=_;rw[Ae hk,Dj,hg]
 have h1:GRel (S.kill (hl l) ks) ⟨w,v,ex,[x]⟩ g:=by have:=hS1.grp g (by rw[hlen];exact hlt);rwa [hgk] at this
 have h0:GRel S ⟨w,v,ex,[x]⟩ g:=by have:=hS.grp g hlt;rwa [Dj,hg] at this
 have hG:GRel (S.kill (hl l) ks) ⟨w,v,ex,[frzV d ((hl l).only ks) x]⟩ g:=by
  refine⟨h1.ver,h1.wid,λ_ hc=>?_,λhh=>h1.len hh,λhh he=>h1.full hh he,λhh=>by simp only at hh;omega⟩;obtain⟨⟨cells,TT,vs,a1,a2,a3,a4⟩,_⟩:=h0.live hw hc;refine⟨⟨cells,TT,vs,a1,a2,?_,a4⟩,(h1.live hw hc).2⟩;obtain⟨u,r,rfl,hu,hr⟩:=a3;exact⟨u,r,rfl,Lp ks hS d hok hu,hr.mono he⟩
 have hhas:∀j,j<l.length->((hl ((EE 0 ks l).set g ⟨w,v,ex,[frzV d ((hl l).only ks) x]⟩)).at_ j).has ((S.kill (hl l) ks).cap j)->(((hl l).kill ks).at_ j).has ((S.kill (hl l) ks).cap j):=λj hj h=>by
  rw[hat j hj] at h;by_cases e:j=g
  ·subst e;rw[Af rfl] at h;rw[hgk];exact h
  ·rw[Ae e] at h;exact h
 refine⟨hS1.n.trans hn.symm,λj hj=>?_,λj j' a c hne p q=>hS1.apart j j' (by rwa [hn] at a) (by rwa [hn] at c) hne (hhas j (by rwa [hn] at a) p) (hhas j' (by rwa [hn] at c) q),hS1.im⟩;rw[hn] at hj;rw[hat j hj];by_cases e:j=g
 ·subst e;rw[Af rfl];exact hG
 ·rw[Ae e];exact hS1.grp j hj
mutual
theorem z7r{m:Nat}{σ:Nat->Nat}(h:∀g,g<m->σ g=g):∀x:AV,ltV m x->ren σ x=x
 |.any,_|.bool _,_|.int _ _,_|.str _,_|.nilS,_|.nul,_|.emp,_|.nilP,_|.nilF,_|.yld _,_|.lst _ _,_|.full _ _,_|.cptr _,_=>rfl
 |.map g v,hx=>by rw[ren,h g hx]
 |.ref g v o n,hx=>by rw[ren,h g hx]
 |.ptr g v i o,hx=>by rw[ren,h g hx]
 |.agg cs,hx=>by rw[ren,Kx h cs hx]
 |.tup cs,hx=>by rw[ren,Kx h cs hx]
 |.fn f cs,hx=>by rw[ren,Kx h cs hx]
theorem Kx{m:Nat}{σ:Nat->Nat}(h:∀g,g<m->σ g=g):∀xs:List AV,ltL m xs->renL σ xs=xs
 |[],_=>rfl
 |x::xs,hx=>by rw[renL,z7r h x hx.1,Kx h xs hx.2]
end
theorem z4j{m N g:Nat}(h:g<m):sg (List.range m) N g=g:=by
 unfold sg;rw[Af (by simpa using h)];simp[List.getD,h]
theorem YT{m:Nat}{σ:Nat->Nat}(h:∀g,g<m->σ g=g){G:Grp}(hG:ltL m G.xs):renG σ G=G:=by
 cases G with
 |mk w v e xs=>rw[reG,Kx h xs hG]
theorem NV:∀(r extra pre:List Grp)(l:List Grp),l.length=r.length->setG ((List.range r.length).map (·+pre.length)) r (pre++l++extra)=pre++r++extra
 |[],extra,pre,l,h=>by
  have:l=[]:=Ao (by simpa using h);subst this;simp[setG]
 |G::r,extra,pre,[],h=>by simp at h
 |G::r,extra,pre,a::l,h=>by
  rw[List.length_cons,List.range_succ_eq_map,Bf,CN,Yu];have e1:(pre++a::l++extra).set (0+pre.length) G=(pre++[G])++l++extra:=by simp
  have e2:(List.range r.length).map ((λx=>x+pre.length) ∘ Nat.succ)=(List.range r.length).map (·+(pre++[G]).length):=AD λi _=>by simp;omega
  rw[e1,e2,NV r extra (pre++[G]) l (by simpa using h)];simp
theorem YU{P:Program}{f:Nat}{xs:List AV}{l0 extra:List Grp}{K0 K:AV->As->Prop}(h:B4 P f xs (hl l0) K0)(hlt:ltL l0.length xs)(hltG:∀G∈l0,ltL l0.length G.xs)
 (hK:∀y H',K0 y H'->∃l',H'=hl l'/\l'.length=l0.length/\ltV l0.length y/\(∀G∈l',ltL l0.length G.xs)/\@nx y (hl (l'++extra)) ⟨K⟩):@OP P f xs (hl (l0++extra)) ⟨K⟩:=by
 have hs:∀g,g<l0.length->sg (List.range l0.length) (l0++extra).length g=g:=λg hg=>z4j hg;have hll:(List.range l0.length).length=l0.length:=by simp
 refine Ju (List.range l0.length) h D7 (λk hk=>by simp at hk ⊢;omega) (Kx hs xs hlt) ?_ (by rw[hll];exact hlt) (by rw[hll];exact hltG) ?_
 ·refine BH (by simp) λi h1 h2=>?_
  have hi:i<l0.length:=by simpa using h1
  simp only[Es,DR];rw[YT hs (hltG _ (BI hi))];simp[List.getD,Az hi,hi]
 ·intro y H' hy
  obtain⟨l',rfl,h1,h2,h3,h4⟩:=hK y H' hy;refine⟨l',rfl,by rw[hll,h1];exact Ac _,?_⟩;rw[z7r hs y h2];have e1:l'.map (renG (sg (List.range l0.length) (l0++extra).length))=l':=(AD λG hG=>YT hs (h3 G hG)).trans (List.map_id _);rw[e1];have e2:=NV l' extra [] l0 h1.symm;simp only[List.length_nil,Nat.add_zero,List.map_id',List.nil_append,h1] at e2;rw[e2];exact h4
end Go.Proofs.YtbcjoeadpjfcfaaGreat.Abs
set_option maxRecDepth 100000
namespace Go.Proofs.YtbcjoeadpjfcfaaGreat
open Abs
def G6:AC:=(sr_ [o1 4 0 .box,o1 5 1 .box,o1 6 2 .box,bf_ 8] (.seq (sr_ [o1 15 4 l6,v_ 16 3,k2 17 23 15 16] (i_ 17 (sr_ [k0 18 24,v_ 8 18] .ret) .skip)) (sr_ [o1 20 4 l6,v_ 21 3,m_ 22 [k_ (.fn 26 []),s_ 20,s_ 21,k_ (.int .i64 100)] .call,v_ 19 22,o1 23 19 (.extract 0),o1 24 19 (.extract 1),v_ 9 23,v_ 10 24] (sr_ [o1 25 4 l6,o0 11 (.alloc (.agg [(.int .i64 0),(.int .i64 0),(.int .i64 0),(.int .i64 0),.nilS,.nilS]) 6),n2 11 25 (.store 6)] (.seq (.gry [false,true,true,false,true,true,false,false,false] [m_ 26 [] (.bslice 5 0 (.agg [(.int .i64 0),(.int .i64 0),.nilS,(.int .i64 0),.nilS]) []),m_ 27 [s_ 4] f4_,m_ 28 [s_ 27] ld,m_ 29 [s_ 26,s_ 28] (.app 5 72 (.agg [(.int .i64 0),(.int .i64 0),.nilS,(.int .i64 0),.nilS])),m_ 30 [s_ 5] (.load true 5),m_ 31 [s_ 30] (.bslice 5 1 (.agg [(.int .i64 0),(.int .i64 0),.nilS,(.int .i64 0),.nilS]) [0]),m_ 32 [s_ 29,s_ 31] (.app 5 72 (.agg [(.int .i64 0),(.int .i64 0),.nilS,(.int .i64 0),.nilS])),m_ 33 [s_ 11] f4_,h_ [s_ 33,s_ 32] st]) (.seq (.gry [false,true,true,false,true,true,false,false,false] [m_ 34 [] (.bslice 3 0 (.agg [(.int .i64 0),.nilS,.nilS]) []),m_ 35 [s_ 4] f5_,m_ 36 [s_ 35] ld,m_ 37 [s_ 34,s_ 36] (.app 3 56 (.agg [(.int .i64 0),.nilS,.nilS])),m_ 38 [s_ 6] (.load true 3),m_ 39 [s_ 38] (.bslice 3 1 (.agg [(.int .i64 0),.nilS,.nilS]) [0]),m_ 40 [s_ 37,s_ 39] (.app 3 56 (.agg [(.int .i64 0),.nilS,.nilS])),m_ 41 [s_ 11] f5_,h_ [s_ 41,s_ 40] st]) (.seq (sr_ [o1 42 11 l6,k1 43 15 42,o1 44 43 nt,v_ 45 44,g_ 46 45 false [s_ 10] .mv,g_ 47 45 false [s_ 46,k_ (.int .i64 0)] bne_,m_ 48 [s_ 45,k_ (.bool true),s_ 47] .pick,v_ 49 48,g_ 50 49 false [s_ 11] l6,g_ 51 49 false [k_ (.fn 39 []),s_ 50] .call,g_ 52 49 false [s_ 51,k_ (.int .i64 0)] bne_,m_ 53 [s_ 49,k_ (.bool true),s_ 52] .pick] (i_ 53 (sr_ [k0 54 24,v_ 8 54] .ret) .skip)) (.seq (sr_ [z_ 12] (.block 0 (.loop (.seq (sr_ [v_ 55 12,v_ 56 9,o1 57 56 ln,o2 58 55 57 bls_] (ex_ 58 0)) (.seq (.block 1 (.seq (.dreg [o1 62 11 l6,v_ 63 3,v_ 64 9,v_ 65 12,o2 66 64 65 a1_,o1 67 66 ld,k3 68 37 62 63 67,v_ 61 68,o1 69 61 (.extract 0),o1 70 61 (.extract 1),v_ 13 69,v_ 14 70]) (sr_ [v_ 71 13,o1 72 71 nt,v_ 73 72,g_ 74 73 false [s_ 14] .mv,g_ 75 73 false [s_ 74,k_ (.int .i64 0)] bne_,m_ 76 [s_ 73,k_ (.bool true),s_ 75] .pick] (i_ 76 (sr_ [bf_ 8] .ret) .skip)))) (.reg [v_ 59 12,i1_ 60 59,v_ 12 60])))))) (sr_ [k0 77 24,v_ 8 77] .ret)))))))))
theorem Il:Bp Tryz.prog 11 4=some ⟨78,4,[(.slot 8)],G6⟩:=by kernel_rfl
end Go.Proofs.YtbcjoeadpjfcfaaGreat
