/-
  Parts of the proof that the law holds whatever the input; without conditions.
-/
import Derived.Test.YtbcjoeadpjfcfaaGreatProg
import Derived.KernelRfl
import Derived.Test.YtbcjoeadpjfcfaaGreatEA2
import Derived.Test.YtbcjoeadpjfcfaaGreatEA3
set_option maxRecDepth 100000
namespace Go.Proofs.YtbcjoeadpjfcfaaGreat
open Abs
def Fo:AC:=(sr_ [bf_ 8] (.seq (sr_ [v_ 12 0,o1 13 12 .nilCheck,o1 14 13 (.faddr false 8 1),o1 15 14 ld,c2 16 15 (.int .i64 0) beq_] (i_ 16 (sr_ [bf_ 8] .ret) .skip)) (sr_ [v_ 17 0,o1 18 17 .nilCheck,o1 19 18 (.faddr false 8 1),o1 20 19 ld,c2 21 20 (.int .i64 1) bsu_,o1 22 17 .nilCheck,o1 23 22 (.faddr false 8 1),n2 23 21 st] (.seq (.grx [false,false,true,true,false,false,false,true,true,false,true,false,false,false,false,false,false,false,false] [m_ 24 [s_ 0] .mv,m_ 25 [s_ 24] .nilCheck,m_ 26 [s_ 25] (.faddr false 7 1),m_ 27 [s_ 26] ld,m_ 28 [s_ 1] .mv,m_ 29 [s_ 0] .mv,m_ 30 [s_ 29] .nilCheck,m_ 31 [s_ 30] (.faddr false 7 1),m_ 32 [s_ 31] ld,m_ 33 [s_ 1] .mv,m_ 34 [s_ 32,s_ 33] a1_,m_ 35 [s_ 34] ld,m_ 36 [s_ 2] .mv,m_ 37 [s_ 3] .mv,m_ 38 [s_ 36,s_ 37] (.build [(.int .i64 0),.nilS] [(0,1),(1,1)] [0,1]),m_ 39 [s_ 38] (.bslice 2 1 (.agg [(.int .i64 0),.nilS]) [0]),m_ 40 [s_ 35,s_ 39] (.app 2 32 (.agg [(.int .i64 0),.nilS])),m_ 41 [s_ 27,s_ 28] a1_,h_ [s_ 41,s_ 40] st]) (.seq (sr_ [v_ 42 0,o1 43 42 .nilCheck,o1 44 43 (.faddr false 6 1),o1 45 44 ld,v_ 46 2,o2 47 45 46 a1_,o1 48 47 ld,o1 49 48 ln,z_ 50] (.block 0 (.loop (sr_ [o2 51 50 49 bls_] (.seq (ex_ 51 0) (.seq (.block 1 (sr_ [o2 52 48 50 a1_,o1 53 52 ld,v_ 10 53] (sr_ [v_ 54 0,o1 55 54 .nilCheck,o1 56 55 (.faddr true 0 6),o1 57 56 f4_,o1 58 57 ld,v_ 59 10,o2 60 58 59 a5_,o1 61 60 (.load true 5),o0 11 (.alloc (.agg [(.int .i64 0),(.int .i64 0),.nilS,(.int .i64 0),.nilS]) 5),n2 11 61 (.store 5)] (.seq (.dtl [v_ 62 0,v_ 63 1,o1 64 11 f1_,o1 65 64 ld,v_ 66 3,o1 67 11 f4_,o1 68 67 ld,o2 69 66 68 (.bslice 1 2 .nilS [0,1]),k1 70 96 69] [m_ 71 [k_ (.fn 90 []),s_ 62,s_ 63,s_ 65,s_ 70] .call,o1 72 71 nt]) (i_ 72 (sr_ [bf_ 8] .ret) .skip))))) (.reg [i1_ 73 50,v_ 50 73]))))))) (sr_ [bt_ 8] .ret))))))
theorem Iy:As Tryz.prog 90 4=some ⟨74,4,[(.slot 8)],Fo⟩:=by kernel_rfl
def Kr:AC:=(sr_ [bf_ 4] (.seq (sr_ [z_ 5] (.block 0 (.loop (.seq (sr_ [v_ 7 5,v_ 8 1,o1 9 8 ln,o2 10 7 9 bls_] (ex_ 10 0)) (.seq (.block 1 (sr_ [v_ 13 1,v_ 14 5,o2 15 13 14 a1_,o1 16 15 ld,v_ 6 16] (sr_ [v_ 17 6,o1 18 17 ln,c2 19 18 (.int .i64 0) beq_,v_ 20 19,g_ 21 20 false [s_ 6] .mv,g_ 22 20 false [s_ 21] ln,g_ 23 20 false [s_ 22,k_ (.int .i64 64)] bgt_,m_ 24 [s_ 20,k_ (.bool true),s_ 23] .pick,v_ 25 24,g_ 26 25 false [s_ 6] .mv,g_ 27 25 false [s_ 6] .mv,g_ 28 25 false [k_ (.fn 128 []),s_ 27] .call,g_ 29 25 false [k_ (.fn 98 []),s_ 26,s_ 28] .call,g_ 30 25 false [s_ 29] nt,m_ 31 [s_ 25,k_ (.bool true),s_ 30] .pick,v_ 32 31,g_ 33 32 false [s_ 6] .mv,g_ 34 32 false [s_ 0] .mv,g_ 35 32 false [k_ (.fn 130 []),s_ 34] .call,g_ 36 32 false [k_ (.fn 129 []),s_ 33,s_ 35,k_ (.int .i64 2)] .call,g_ 37 32 false [s_ 36] ln,g_ 38 32 false [s_ 37,k_ (.int .i64 0)] bgt_,m_ 39 [s_ 32,k_ (.bool true),s_ 38] .pick] (i_ 39 (sr_ [bf_ 4] .ret) .skip)))) (.reg [v_ 11 5,i1_ 12 11,v_ 5 12])))))) (sr_ [v_ 40 1,o1 41 40 ln,c2 42 41 (.int .i64 4) ble_,v_ 4 42] .ret)))
theorem Sv:As Tryz.prog 91 2=some ⟨43,2,[(.slot 4)],Kr⟩:=by kernel_rfl
def Ks:AC:=(sr_ [o1 3 0 .box,bf_ 6] (.seq (sr_ [z_ 7] (.block 0 (.loop (.seq (sr_ [v_ 8 7,v_ 9 1,o1 10 9 ln,o2 11 8 10 bls_,v_ 12 11,g1 13 12 1 .mv,g1 14 12 13 ln,g_ 15 12 true [s_ 14,k_ (.int .i64 64)] ble_,m_ 16 [s_ 12,s_ 15,k_ (.bool false)] .pick] (ex_ 16 0)) (.seq (.block 1 (.seq (.dtl [v_ 19 1,v_ 20 7,o2 21 19 20 a6_,o1 22 21 l6,o1 23 3 f0_,o1 24 23 ld,o1 25 3 f1_,o1 26 25 ld,v_ 27 2] [m_ 28 [k_ (.fn 131 []),s_ 22,s_ 24,s_ 26,s_ 27] .call,o1 29 28 nt]) (i_ 29 (sr_ [bf_ 6] .ret) .skip))) (.reg [v_ 17 7,i1_ 18 17,v_ 7 18])))))) (sr_ [v_ 30 1,o1 31 30 ln,c2 32 31 (.int .i64 64) ble_,v_ 6 32] .ret)))
theorem Sw:As Tryz.prog 92 3=some ⟨33,3,[(.slot 6)],Ks⟩:=by kernel_rfl
def L3:AC:=(sr_ [o1 1 0 .box,bf_ 2] (sr_ [o1 9 1 f2_,o1 10 9 ld,o2 11 10 10 (.mkSlice 1 1 (.bool false)),v_ 3 11] (.seq (sr_ [v_ 12 3,o1 13 12 ln,z_ 14] (.block 0 (.loop (sr_ [o2 15 14 13 bls_] (.seq (ex_ 15 0) (.seq (.block 1 (sr_ [v_ 16 14,v_ 4 16] (.reg [v_ 17 3,v_ 18 4,o2 19 17 18 a1_,h_ [s_ 19,k_ (.bool true)] st]))) (.reg [i1_ 20 14,v_ 14 20]))))))) (.seq (sr_ [z_ 5] (.block 2 (.loop (.seq (sr_ [v_ 21 5,o1 22 1 f2_,o1 23 22 ld,o2 24 21 23 ble_] (ex_ 24 2)) (.seq (.block 3 (sr_ [o1 27 1 f2_,o1 28 27 ld,o2 29 28 28 (.mkSlice 1 1 (.bool false)),v_ 6 29] (sr_ [bf_ 7] (.seq (sr_ [z_ 8] (.block 4 (.loop (.seq (sr_ [v_ 30 8,o1 31 1 f4_,o1 32 31 ld,o1 33 32 ln,o2 34 30 33 bls_] (ex_ 34 4)) (.seq (.block 5 (sr_ [o1 37 1 f4_,o1 38 37 ld,v_ 39 8,o2 40 38 39 a5_,o1 41 40 f2_,o1 42 41 ld,o1 43 42 ln,c2 44 43 (.int .i64 0) beq_,v_ 45 44,g1 46 45 3 .mv,g1 47 45 1 f4_,g1 48 45 47 ld,g1 49 45 8 .mv,g2 50 45 48 49 a5_,g1 51 45 50 f0_,g1 52 45 51 ld,g2 53 45 46 52 a1_,g1 54 45 53 ld,m_ 55 [s_ 45,s_ 54,k_ (.bool false)] .pick] (i_ 55 (sr_ [v_ 56 6,o1 57 1 f4_,o1 58 57 ld,v_ 59 8,o2 60 58 59 a5_,o1 61 60 f1_,o1 62 61 ld,o2 63 56 62 a1_,h_ [s_ 63,k_ (.bool true)] st] (.reg [bt_ 7])) .skip))) (.reg [v_ 35 8,i1_ 36 35,v_ 8 36])))))) (.seq (sr_ [v_ 64 7,o1 65 64 nt] (i_ 65 (sr_ [bf_ 2] .ret) .skip)) (.reg [v_ 66 6,v_ 3 66])))))) (.reg [v_ 25 5,i1_ 26 25,v_ 5 26])))))) (sr_ [bt_ 2] .ret)))))
theorem V7:As Tryz.prog 93 1=some ⟨67,1,[(.slot 2)],L3⟩:=by kernel_rfl
def Kt:AC:=(sr_ [o1 4 0 .box,ns_ 8,bf_ 9] (sr_ [o1 13 4 l6,v_ 14 1,v_ 15 2,k3 16 57 13 14 15,v_ 10 16] (.seq (sr_ [v_ 17 3,v_ 11 17] (.block 0 (.loop (.seq (sr_ [v_ 18 11,o1 19 4 f4_,o1 20 19 ld,o1 21 20 ln,o2 22 18 21 bls_] (ex_ 22 0)) (.seq (.block 1 (sr_ [o1 25 4 f4_,o1 26 25 ld,v_ 27 11,o2 28 26 27 a5_,o1 29 28 f0_,o1 30 29 ld,v_ 31 10,o2 32 30 31 beq_,v_ 33 32,g1 34 33 4 f4_,g1 35 33 34 ld,g1 36 33 11 .mv,g2 37 33 35 36 a5_,g1 38 33 37 f2_,g1 39 33 38 ld,g1 40 33 39 ln,g_ 41 33 true [s_ 40,k_ (.int .i64 0)] beq_,m_ 42 [s_ 33,s_ 41,k_ (.bool false)] .pick] (i_ 42 (sr_ [ns_ 12] (sr_ [v_ 43 12,v_ 44 2,o2 45 43 44 (.app 1 8 (.int .i64 0)),v_ 12 45] (sr_ [v_ 46 12,v_ 47 11,o1 48 47 (.bslice 1 1 (.int .i64 0) [0]),o2 49 46 48 (.app 1 8 (.int .i64 0)),v_ 8 49,bt_ 9] .ret))) .skip))) (.reg [v_ 23 11,i1_ 24 23,v_ 11 24])))))) (sr_ [ns_ 8,bf_ 9] .ret))))
theorem Sx:As Tryz.prog 94 4=some ⟨50,4,[(.slot 8),(.slot 9)],Kt⟩:=by kernel_rfl
def Bz:AC:=(sr_ [ns_ 2] (.seq (sr_ [v_ 3 0,c2 4 3 .nilS (.eqn false)] (i_ 4 (sr_ [ns_ 2] .ret) .skip)) (sr_ [o0 5 (.bslice 2 0 (.agg [(.int .i64 0),(.int .i64 0)]) []),v_ 6 0,o2 7 5 6 (.app 2 16 (.agg [(.int .i64 0),(.int .i64 0)])),v_ 2 7] .ret)))
theorem Ch:As Tryz.prog 95 1=some ⟨8,1,[(.slot 2)],Bz⟩:=by kernel_rfl
def Cc:AC:=(sr_ [ns_ 2] (sr_ [z_ 3] (.seq (sr_ [v_ 9 0,o1 10 9 ln,z_ 11] (.block 0 (.loop (sr_ [o2 12 11 10 bls_] (.seq (ex_ 12 0) (.seq (.block 1 (sr_ [o2 13 9 11 a1_,o1 14 13 ld,v_ 5 14] (sr_ [v_ 15 3,v_ 16 5,o1 17 16 ln,o2 18 15 17 bad_,v_ 3 18] (sr_ [v_ 19 3,c2 20 19 (.int .i64 0) bls_] (i_ 20 (.reg [c1 21 (.str [108,101,110,32,111,117,116,32,111,102,32,114,97,110,103,101]) .no,h_ [s_ 21] .no]) .skip))))) (.reg [i1_ 22 11,v_ 11 22]))))))) (sr_ [v_ 23 3,m_ 24 [k_ (.fn 132 []),k_ .nilS,s_ 23] .call,v_ 6 24] (.seq (sr_ [v_ 25 0,o1 26 25 ln,z_ 27] (.block 2 (.loop (sr_ [o2 28 27 26 bls_] (.seq (ex_ 28 2) (.seq (.block 3 (sr_ [o2 29 25 27 a1_,o1 30 29 ld,v_ 8 30] (.reg [v_ 31 6,v_ 32 8,o2 33 31 32 (.app 6 64 (.agg [(.int .i64 0),(.int .i64 0),(.int .i64 0),(.int .i64 0),(.int .i64 0),.nilS])),v_ 6 33]))) (.reg [i1_ 34 27,v_ 27 34]))))))) (sr_ [v_ 35 6,v_ 2 35] .ret))))))
theorem C2:As Tryz.prog 96 1=some ⟨36,1,[(.slot 2)],Cc⟩:=by kernel_rfl
def B0:AC:=(sr_ [ns_ 2] (.seq (sr_ [v_ 3 0,c2 4 3 .nilS (.eqn false)] (i_ 4 (sr_ [ns_ 2] .ret) .skip)) (sr_ [o0 5 (.bslice 4 0 (.agg [(.int .i64 0),(.int .i64 0),(.int .i64 0),(.int .i64 0)]) []),v_ 6 0,o2 7 5 6 (.app 4 32 (.agg [(.int .i64 0),(.int .i64 0),(.int .i64 0),(.int .i64 0)])),v_ 2 7] .ret)))
theorem Ci:As Tryz.prog 97 1=some ⟨8,1,[(.slot 2)],B0⟩:=by kernel_rfl
def N4:AC:=(sr_ [bf_ 4] (.seq (sr_ [v_ 6 0,o1 7 6 ln,v_ 8 1,o1 9 8 ln,o2 10 7 9 bne_] (i_ 10 (sr_ [bf_ 4] .ret) .skip)) (.seq (sr_ [z_ 5] (.block 0 (.loop (.seq (sr_ [v_ 11 5,v_ 12 0,o1 13 12 ln,o2 14 11 13 bls_] (ex_ 14 0)) (.seq (.block 1 (.seq (.dreg [v_ 17 0,v_ 18 5,o2 19 17 18 a2_,o1 20 19 (.load true 2),v_ 21 1,v_ 22 5,o2 23 21 22 a2_,o1 24 23 (.load true 2),o2 25 20 24 (.eqs true [1,1])]) (i_ 25 (sr_ [bf_ 4] .ret) .skip))) (.reg [v_ 15 5,i1_ 16 15,v_ 5 16])))))) (sr_ [bt_ 4] .ret))))
theorem Y8:As Tryz.prog 98 2=some ⟨26,2,[(.slot 4)],N4⟩:=by kernel_rfl
def N5:AC:=(sr_ [o1 2 0 .box,o1 3 1 .box,bf_ 4] (.seq (sr_ [o1 6 2 f0_,o1 7 6 ld,o1 8 3 f0_,o1 9 8 ld,o2 10 7 9 bne_,v_ 11 10,g_ 12 11 false [s_ 2] f1_,g_ 13 11 false [s_ 12] ld,g_ 14 11 false [s_ 3] f1_,g_ 15 11 false [s_ 14] ld,g_ 16 11 false [s_ 13,s_ 15] bne_,m_ 17 [s_ 11,k_ (.bool true),s_ 16] .pick,v_ 18 17,g_ 19 18 false [s_ 2] f2_,g_ 20 18 false [s_ 19] ld,g_ 21 18 false [s_ 3] f2_,g_ 22 18 false [s_ 21] ld,g_ 23 18 false [s_ 20,s_ 22] bne_,m_ 24 [s_ 18,k_ (.bool true),s_ 23] .pick,v_ 25 24,g_ 26 25 false [s_ 2] f3_,g_ 27 25 false [s_ 26] ld,g_ 28 25 false [s_ 3] f3_,g_ 29 25 false [s_ 28] ld,g_ 30 25 false [s_ 27,s_ 29] bne_,m_ 31 [s_ 25,k_ (.bool true),s_ 30] .pick,v_ 32 31,g_ 33 32 false [s_ 2] f4_,g_ 34 32 false [s_ 33] ld,g_ 35 32 false [s_ 3] f4_,g_ 36 32 false [s_ 35] ld,g_ 37 32 false [s_ 34,s_ 36] bne_,m_ 38 [s_ 32,k_ (.bool true),s_ 37] .pick,v_ 39 38,g_ 40 39 false [s_ 2] f5_,g_ 41 39 false [s_ 40] ld,g_ 42 39 false [s_ 41] ln,g_ 43 39 false [s_ 3] f5_,g_ 44 39 false [s_ 43] ld,g_ 45 39 false [s_ 44] ln,g_ 46 39 false [s_ 42,s_ 45] bne_,m_ 47 [s_ 39,k_ (.bool true),s_ 46] .pick] (i_ 47 (sr_ [bf_ 4] .ret) .skip)) (.seq (sr_ [z_ 5] (.block 0 (.loop (.seq (sr_ [v_ 48 5,o1 49 2 f5_,o1 50 49 ld,o1 51 50 ln,o2 52 48 51 bls_] (ex_ 52 0)) (.seq (.block 1 (.seq (.dreg [o1 55 2 f5_,o1 56 55 ld,v_ 57 5,o2 58 56 57 a4_,o1 59 58 (.load true 4),o1 60 3 f5_,o1 61 60 ld,v_ 62 5,o2 63 61 62 a4_,o1 64 63 (.load true 4),o2 65 59 64 (.eqs true [1,1,1,1])]) (i_ 65 (sr_ [bf_ 4] .ret) .skip))) (.reg [v_ 53 5,i1_ 54 53,v_ 5 54])))))) (sr_ [bt_ 4] .ret))))
theorem Y9:As Tryz.prog 99 2=some ⟨66,2,[(.slot 4)],N5⟩:=by kernel_rfl
def Qk:AC:=(sr_ [bf_ 4] (.seq (sr_ [z_ 5] (.block 0 (.loop (.seq (sr_ [v_ 6 5,v_ 7 0,o1 8 7 ln,o2 9 6 8 bls_] (ex_ 9 0)) (.seq (.block 1 (sr_ [v_ 12 0,v_ 13 5,o2 14 12 13 a2_,o1 15 14 f0_,o1 16 15 ld,v_ 17 1,o2 18 16 17 ble_,v_ 19 18,g1 20 19 1 .mv,g1 21 19 0 .mv,g1 22 19 5 .mv,g2 23 19 21 22 a2_,g1 24 19 23 f1_,g1 25 19 24 ld,g2 26 19 20 25 ble_,m_ 27 [s_ 19,s_ 26,k_ (.bool false)] .pick,v_ 28 27,g1 29 28 1 .mv,g_ 30 28 true [s_ 29,k_ (.int .i64 (-1073741824))] bge_,m_ 31 [s_ 28,s_ 30,k_ (.bool false)] .pick,v_ 32 31,g1 33 32 1 .mv,g_ 34 32 true [s_ 33,k_ (.int .i64 1073741824)] ble_,m_ 35 [s_ 32,s_ 34,k_ (.bool false)] .pick] (i_ 35 (sr_ [bt_ 4] .ret) .skip))) (.reg [v_ 10 5,i1_ 11 10,v_ 5 11])))))) (sr_ [bf_ 4] .ret)))
theorem z2d:As Tryz.prog 110 2=some ⟨36,2,[(.slot 4)],Qk⟩:=by kernel_rfl
def N6:AC:=(sr_ [o0 2 (.alloc (.agg [(.int .i64 0),(.int .i64 0),(.int .i64 0),(.int .i64 0)]) 4)] (sr_ [v_ 3 0,c2 4 3 (.int .i64 21) (.build [(.int .i64 0),(.int .i64 0),(.int .i64 0),(.int .i64 0)] [(0,1),(1,1),(2,1),(3,1)] [0,2]),n2 2 4 (.store 4)] .ret))
theorem Za:As Tryz.prog 113 1=some ⟨5,1,[(.cell 2 true 4)],N6⟩:=by kernel_rfl
def Ql:AC:=(sr_ [o1 1 0 .box,bf_ 2] (sr_ [o1 3 1 f0_,o1 4 3 ld,k1 5 72 4,o1 6 5 ln,c2 7 6 (.int .i64 0) bgt_,v_ 8 7,g1 9 8 1 f1_,g1 10 8 9 ld,g_ 11 8 true [k_ (.fn 72 []),s_ 10] .call,g1 12 8 11 ln,g_ 13 8 true [s_ 12,k_ (.int .i64 0)] bgt_,m_ 14 [s_ 8,s_ 13,k_ (.bool false)] .pick,v_ 15 14,g1 16 15 1 f2_,g1 17 15 16 ld,g_ 18 15 true [s_ 17,k_ (.int .i64 1)] bge_,m_ 19 [s_ 15,s_ 18,k_ (.bool false)] .pick,v_ 20 19,g1 21 20 1 f2_,g1 22 20 21 ld,g_ 23 20 true [s_ 22,k_ (.int .i64 1024)] ble_,m_ 24 [s_ 20,s_ 23,k_ (.bool false)] .pick,v_ 25 24,g1 26 25 1 l6,g1 27 25 1 f3_,g1 28 25 27 ld,g_ 29 25 true [k_ (.fn 119 []),s_ 26,s_ 28] .call,m_ 30 [s_ 25,s_ 29,k_ (.bool false)] .pick,v_ 31 30,g1 32 31 1 f4_,g1 33 31 32 ld,g1 34 31 33 ln,g_ 35 31 true [s_ 34,k_ (.int .i64 4096)] ble_,m_ 36 [s_ 31,s_ 35,k_ (.bool false)] .pick,v_ 37 36,g1 38 37 1 f5_,g1 39 37 38 ld,g1 40 37 39 ln,g_ 41 37 true [s_ 40,k_ (.int .i64 4096)] ble_,m_ 42 [s_ 37,s_ 41,k_ (.bool false)] .pick,v_ 2 42] .ret))
theorem z2e:As Tryz.prog 117 1=some ⟨43,1,[(.slot 2)],Ql⟩:=by kernel_rfl
def Qm:AC:=(sr_ [o1 2 0 .box,o1 3 1 .box,bf_ 4] (sr_ [o1 6 3 f2_,o1 7 6 ld,o1 8 7 ln,v_ 5 8] (.seq (sr_ [o1 9 2 l6,o1 10 3 f0_,o1 11 10 ld,k2 12 119 9 11,o1 13 12 nt,v_ 14 13,g_ 15 14 false [s_ 2] l6,g_ 16 14 false [s_ 3] f1_,g_ 17 14 false [s_ 16] ld,g_ 18 14 false [k_ (.fn 119 []),s_ 15,s_ 17] .call,g_ 19 14 false [s_ 18] nt,m_ 20 [s_ 14,k_ (.bool true),s_ 19] .pick,v_ 21 20,g_ 22 21 false [s_ 2] f0_,g_ 23 21 false [s_ 22] ld,g_ 24 21 false [s_ 3] f2_,g_ 25 21 false [s_ 24] ld,g_ 26 21 false [k_ (.fn 120 []),s_ 23,s_ 25] .call,g_ 27 21 false [s_ 26] nt,m_ 28 [s_ 21,k_ (.bool true),s_ 27] .pick,v_ 29 28,g_ 30 29 false [s_ 3] f3_,g_ 31 29 false [s_ 30] ld,g_ 32 29 false [s_ 5] .mv,g_ 33 29 false [s_ 32,k_ (.int .i64 1)] .min,g_ 34 29 false [s_ 31,s_ 33] bls_,m_ 35 [s_ 29,k_ (.bool true),s_ 34] .pick,v_ 36 35,g_ 37 36 false [s_ 3] f3_,g_ 38 36 false [s_ 37] ld,g_ 39 36 false [s_ 5] .mv,g_ 40 36 false [s_ 38,s_ 39] bgt_,m_ 41 [s_ 36,k_ (.bool true),s_ 40] .pick] (i_ 41 (sr_ [bf_ 4] .ret) .skip)) (sr_ [o1 42 2 l6,o1 43 3 f4_,o1 44 43 ld,o1 45 3 f2_,o1 46 45 ld,k3 47 121 42 44 46,v_ 4 47] .ret))))
theorem z2f:As Tryz.prog 118 2=some ⟨48,2,[(.slot 4)],Qm⟩:=by kernel_rfl
def N7:AC:=(sr_ [o1 2 0 .box,bf_ 4] (sr_ [v_ 5 1,c2 6 5 (.int .i64 0) bge_,v_ 7 6,g1 8 7 1 .mv,g1 9 7 2 f2_,g1 10 7 9 ld,g2 11 7 8 10 bls_,m_ 12 [s_ 7,s_ 11,k_ (.bool false)] .pick,v_ 4 12] .ret))
theorem Zb:As Tryz.prog 119 2=some ⟨13,2,[(.slot 4)],N7⟩:=by kernel_rfl
def L4:AC:=(sr_ [bf_ 4] (.seq (sr_ [v_ 8 1,o1 9 8 ln,c2 10 9 (.int .i64 4) bgt_] (i_ 10 (sr_ [bf_ 4] .ret) .skip)) (sr_ [v_ 11 0,k1 12 72 11,v_ 5 12] (.seq (sr_ [v_ 13 1,o1 14 13 ln,z_ 15] (.block 0 (.loop (sr_ [o2 16 15 14 bls_] (.seq (ex_ 16 0) (.seq (.block 1 (sr_ [o2 17 13 15 a1_,o1 18 17 ld,v_ 7 18] (sr_ [v_ 19 7,o1 20 19 ln,c2 21 20 (.int .i64 0) beq_,v_ 22 21,g_ 23 22 false [s_ 7] .mv,g_ 24 22 false [s_ 23] ln,g_ 25 22 false [s_ 24,k_ (.int .i64 64)] bgt_,m_ 26 [s_ 22,k_ (.bool true),s_ 25] .pick,v_ 27 26,g_ 28 27 false [s_ 7] .mv,g_ 29 27 false [k_ (.fn 145 []),s_ 28] .call,g_ 30 27 false [s_ 29] nt,m_ 31 [s_ 27,k_ (.bool true),s_ 30] .pick,v_ 32 31,g_ 33 32 false [s_ 7] .mv,g_ 34 32 false [s_ 5] .mv,g_ 35 32 false [k_ (.fn 146 []),s_ 33,s_ 34] .call,g_ 36 32 false [s_ 35] nt,m_ 37 [s_ 32,k_ (.bool true),s_ 36] .pick] (i_ 37 (sr_ [bf_ 4] .ret) .skip)))) (.reg [i1_ 38 15,v_ 15 38]))))))) (sr_ [bt_ 4] .ret)))))
theorem V8:As Tryz.prog 120 2=some ⟨39,2,[(.slot 4)],L4⟩:=by kernel_rfl
def L5:AC:=(sr_ [o1 3 0 .box,bf_ 6] (.seq (sr_ [v_ 9 1,o1 10 9 ln,c2 11 10 (.int .i64 64) bgt_] (i_ 11 (sr_ [bf_ 6] .ret) .skip)) (.seq (sr_ [v_ 12 1,o1 13 12 ln,z_ 14] (.block 0 (.loop (sr_ [o2 15 14 13 bls_] (.seq (ex_ 15 0) (.seq (.block 1 (sr_ [o2 16 12 14 a6_,o1 17 16 l6,o0 8 (.alloc (.agg [(.int .i64 0),(.int .i64 0),(.int .i64 0),(.int .i64 0),(.int .i64 0),.nilS]) 6),n2 8 17 (.store 6)] (sr_ [o1 18 8 l6,o1 19 3 f0_,o1 20 19 ld,o1 21 3 f1_,o1 22 21 ld,v_ 23 2,m_ 24 [k_ (.fn 147 []),s_ 18,s_ 20,s_ 22,s_ 23] .call,o1 25 24 nt] (i_ 25 (sr_ [bf_ 6] .ret) .skip)))) (.reg [i1_ 26 14,v_ 14 26]))))))) (sr_ [bt_ 6] .ret))))
theorem V9:As Tryz.prog 121 3=some ⟨27,3,[(.slot 6)],L5⟩:=by kernel_rfl
def N8:AC:=(sr_ [o1 1 0 .box,bf_ 2] (sr_ [o1 14 1 f2_,o1 15 14 ld,o2 16 15 15 (.mkSlice 1 24 .nilS),v_ 3 16] (sr_ [o1 17 1 f2_,o1 18 17 ld,o2 19 18 18 (.mkSlice 1 8 (.int .i64 0)),v_ 4 19] (.seq (sr_ [o1 20 1 f4_,o1 21 20 ld,o1 22 21 ln,z_ 23] (.block 0 (.loop (sr_ [o2 24 23 22 bls_] (.seq (ex_ 24 0) (.seq (.block 1 (sr_ [o2 25 21 23 a5_,o1 26 25 (.load true 5),o0 6 (.alloc (.agg [(.int .i64 0),(.int .i64 0),.nilS,(.int .i64 0),.nilS]) 5),n2 6 26 (.store 5)] (sr_ [o1 27 6 f2_,o1 28 27 ld,o1 29 28 ln,c2 30 29 (.int .i64 0) beq_] (i_ 30 (.seq (.grx [false,true,true,false,true,true,true,false,true,true,false,false,false,false] [m_ 31 [s_ 3] .mv,m_ 32 [s_ 6] f0_,m_ 33 [s_ 32] ld,m_ 34 [s_ 3] .mv,m_ 35 [s_ 6] f0_,m_ 36 [s_ 35] ld,m_ 37 [s_ 34,s_ 36] a1_,m_ 38 [s_ 37] ld,m_ 39 [s_ 6] f1_,m_ 40 [s_ 39] ld,m_ 41 [s_ 40] (.bslice 1 1 (.int .i64 0) [0]),m_ 42 [s_ 38,s_ 41] (.app 1 8 (.int .i64 0)),m_ 43 [s_ 31,s_ 33] a1_,h_ [s_ 43,s_ 42] st]) (.reg [v_ 44 4,o1 45 6 f1_,o1 46 45 ld,o2 47 44 46 a1_,o1 48 47 ld,i1_ 49 48,o2 50 44 46 a1_,n2 50 49 st])) .skip)))) (.reg [i1_ 51 23,v_ 23 51]))))))) (sr_ [ns_ 7] (.seq (sr_ [v_ 52 4,o1 53 52 ln,z_ 54] (.block 2 (.loop (sr_ [o2 55 54 53 bls_] (.seq (ex_ 55 2) (.seq (.block 3 (sr_ [v_ 56 54,o2 57 52 54 a1_,o1 58 57 ld,v_ 8 56,v_ 9 58] (sr_ [v_ 59 9,c2 60 59 (.int .i64 0) beq_] (i_ 60 (.reg [v_ 61 7,v_ 62 8,o1 63 62 (.bslice 1 1 (.int .i64 0) [0]),o2 64 61 63 (.app 1 8 (.int .i64 0)),v_ 7 64]) .skip)))) (.reg [i1_ 65 54,v_ 54 65]))))))) (sr_ [z_ 10] (.seq (.block 4 (.loop (.seq (sr_ [v_ 66 7,o1 67 66 ln,c2 68 67 (.int .i64 0) bgt_] (ex_ 68 4)) (.seq (.block 5 (sr_ [v_ 71 7,c2 72 71 (.int .i64 0) a1_,o1 73 72 ld,v_ 11 73] (sr_ [v_ 74 7,c2 75 74 (.int .i64 1) (.slice 1 true false false),v_ 7 75] (sr_ [v_ 76 3,v_ 77 11,o2 78 76 77 a1_,o1 79 78 ld,o1 80 79 ln,z_ 81] (.block 6 (.loop (sr_ [o2 82 81 80 bls_] (.seq (ex_ 82 6) (.seq (.block 7 (sr_ [o2 83 79 81 a1_,o1 84 83 ld,v_ 13 84] (sr_ [v_ 85 4,v_ 86 13,o2 87 85 86 a1_,o1 88 87 ld,c2 89 88 (.int .i64 1) bsu_,o2 90 85 86 a1_,n2 90 89 st] (sr_ [v_ 91 4,v_ 92 13,o2 93 91 92 a1_,o1 94 93 ld,c2 95 94 (.int .i64 0) beq_] (i_ 95 (.reg [v_ 96 7,v_ 97 13,o1 98 97 (.bslice 1 1 (.int .i64 0) [0]),o2 99 96 98 (.app 1 8 (.int .i64 0)),v_ 7 99]) .skip))))) (.reg [i1_ 100 81,v_ 81 100])))))))))) (.reg [v_ 69 10,i1_ 70 69,v_ 10 70]))))) (sr_ [v_ 101 10,o1 102 1 f2_,o1 103 102 ld,o2 104 101 103 bls_,v_ 2 104] .ret)))))))))
theorem Zc:As Tryz.prog 122 1=some ⟨105,1,[(.slot 2)],N8⟩:=by kernel_rfl
def N9:AC:=(sr_ [ns_ 2] (sr_ [v_ 3 0,m_ 4 [k_ (.fn 129 []),s_ 3,k_ .nilS,k_ (.int .i64 0)] .call,v_ 2 4] .ret))
theorem Zd:As Tryz.prog 128 1=some ⟨5,1,[(.slot 2)],N9⟩:=by kernel_rfl
def Oa:AC:=(sr_ [ns_ 6] (sr_ [ns_ 7] (sr_ [v_ 15 0,v_ 16 1,k2 17 149 15 16,v_ 8 17] (.seq (sr_ [z_ 9] (.block 0 (.loop (.seq (sr_ [v_ 18 9,v_ 19 8,o1 20 19 ln,o2 21 18 20 bls_] (ex_ 21 0)) (.seq (.block 1 (.seq (.dtl [v_ 24 0,v_ 25 8,v_ 26 9,o2 27 25 26 a1_,o1 28 27 ld,k2 29 110 24 28,v_ 30 1,v_ 31 8,v_ 32 9,o2 33 31 32 a1_,o1 34 33 ld] [k2 35 110 30 34,v_ 10 29,v_ 11 35]) (sr_ [v_ 36 10,v_ 37 36,g_ 38 37 false [s_ 11] .mv,m_ 39 [s_ 37,k_ (.bool true),s_ 38] .pick,v_ 12 39] (.seq (sr_ [v_ 40 2,c2 41 40 (.int .i64 1) beq_] (i_ 41 (.reg [v_ 42 10,v_ 43 42,g1 44 43 11 .mv,m_ 45 [s_ 43,s_ 44,k_ (.bool false)] .pick,v_ 12 45]) .skip)) (.seq (sr_ [v_ 46 2,c2 47 46 (.int .i64 2) beq_] (i_ 47 (.reg [v_ 48 10,v_ 49 48,g1 50 49 11 .mv,g1 51 49 50 nt,m_ 52 [s_ 49,s_ 51,k_ (.bool false)] .pick,v_ 12 52]) .skip)) (.seq (sr_ [v_ 53 12,o1 54 53 nt] (i_ 54 (.exit 1) .skip)) (sr_ [c1 13 (.int .i64 1073741824) .mv] (.seq (sr_ [v_ 55 9,i1_ 56 55,v_ 57 8,o1 58 57 ln,o2 59 56 58 bls_] (i_ 59 (.reg [v_ 60 8,v_ 61 9,i1_ 62 61,o2 63 60 62 a1_,o1 64 63 ld,c2 65 64 (.int .i64 1) bsu_,v_ 13 65]) .skip)) (sr_ [v_ 66 7,o1 67 66 ln,v_ 14 67] (.seq (.dreg [v_ 68 14,c2 69 68 (.int .i64 0) bgt_,v_ 70 69,g1 71 70 7 .mv,g1 72 70 14 .mv,g_ 73 70 true [s_ 72,k_ (.int .i64 1)] bsu_,g2 74 70 71 73 a2_,g1 75 70 74 f1_,g1 76 70 75 ld,g1 77 70 8 .mv,g1 78 70 9 .mv,g2 79 70 77 78 a1_,g1 80 70 79 ld,g_ 81 70 true [s_ 80,k_ (.int .i64 1)] bsu_,g2 82 70 76 81 beq_,m_ 83 [s_ 70,s_ 82,k_ (.bool false)] .pick]) (i_ 83 (.reg [v_ 84 7,v_ 85 14,c2 86 85 (.int .i64 1) bsu_,v_ 87 13,o2 88 84 86 a2_,o1 89 88 f1_,n2 89 87 st]) (.reg [v_ 90 7,v_ 91 8,v_ 92 9,o2 93 91 92 a1_,o1 94 93 ld,v_ 95 13,o2 96 94 95 (.build [(.int .i64 0),(.int .i64 0)] [(0,1),(1,1)] [0,1]),o1 97 96 (.bslice 2 1 (.agg [(.int .i64 0),(.int .i64 0)]) [0]),o2 98 90 97 (.app 2 16 (.agg [(.int .i64 0),(.int .i64 0)])),v_ 7 98])))))))))))) (.reg [v_ 22 9,i1_ 23 22,v_ 9 23])))))) (sr_ [v_ 99 7,v_ 6 99] .ret)))))
theorem Ze:As Tryz.prog 129 3=some ⟨100,3,[(.slot 6)],Oa⟩:=by kernel_rfl
def Ku:AC:=(sr_ [ns_ 2] (.seq (sr_ [v_ 3 0,c2 4 3 (.int .i64 1) beq_] (i_ 4 (sr_ [m_ 5 [k_ (.int .i64 0),k_ (.int .i64 255)] (.build [(.int .i64 0),(.int .i64 0)] [(0,1),(1,1)] [0,1]),o1 6 5 (.bslice 2 1 (.agg [(.int .i64 0),(.int .i64 0)]) [0]),v_ 2 6] .ret) .skip)) (.seq (sr_ [v_ 7 0,c2 8 7 (.int .i64 2) beq_] (i_ 8 (sr_ [m_ 9 [k_ (.int .i64 0),k_ (.int .i64 55295)] (.build [(.int .i64 0),(.int .i64 0)] [(0,1),(1,1)] [0,1]),m_ 10 [k_ (.int .i64 57344),k_ (.int .i64 1114111)] (.build [(.int .i64 0),(.int .i64 0)] [(0,1),(1,1)] [0,1]),o2 11 9 10 (.bslice 2 2 (.agg [(.int .i64 0),(.int .i64 0)]) [0,1]),v_ 2 11] .ret) .skip)) (sr_ [ns_ 2] .ret))))
theorem Sy:As Tryz.prog 130 1=some ⟨12,1,[(.slot 2)],Ku⟩:=by kernel_rfl
def Ob:AC:=(sr_ [o1 4 0 .box,bf_ 8] (.seq (sr_ [o1 19 4 l6,v_ 20 1,v_ 21 2,v_ 22 3,o1 23 22 ln,m_ 24 [k_ (.fn 150 []),s_ 19,s_ 20,s_ 21,s_ 23] .call,o1 25 24 nt] (i_ 25 (sr_ [bf_ 8] .ret) .skip)) (sr_ [o1 27 4 l6,v_ 28 1,v_ 29 3,k3 30 151 27 28 29,v_ 26 30,o1 31 26 (.extract 0),o1 32 26 (.extract 1),v_ 9 31,v_ 10 32] (.seq (sr_ [v_ 33 10,o1 34 33 nt] (i_ 34 (sr_ [bf_ 8] .ret) .skip)) (.seq (sr_ [v_ 35 2,c2 36 35 (.int .i64 2) beq_] (i_ 36 (sr_ [v_ 37 9,v_ 38 2,k1 39 130 38,m_ 40 [k_ (.fn 129 []),s_ 37,s_ 39,k_ (.int .i64 2)] .call,o1 41 40 ln,c2 42 41 (.int .i64 0) beq_,v_ 8 42] .ret) .skip)) (.seq (.dtl [o1 43 4 f1_,o1 44 43 ld,k1 45 152 44,o1 46 4 f2_,o1 47 46 ld,k1 48 152 47,o1 49 4 f3_,o1 50 49 ld] [k1 51 152 50,v_ 11 45,v_ 12 48,v_ 13 51]) (.seq (sr_ [z_ 14] (.block 0 (.loop (.seq (sr_ [v_ 52 14,v_ 53 9,o1 54 53 ln,o2 55 52 54 bls_] (ex_ 55 0)) (.seq (.block 1 (.seq (.dreg [v_ 58 9,v_ 59 14,o2 60 58 59 a2_,o1 61 60 f0_,o1 62 61 ld,v_ 63 11,o2 64 62 63 (.bin .quo),v_ 65 9,v_ 66 14,o2 67 65 66 a2_,o1 68 67 f1_,o1 69 68 ld,v_ 70 11,o2 71 69 70 (.bin .quo),v_ 15 64,v_ 16 71]) (sr_ [v_ 72 15,v_ 17 72] (.block 2 (.loop (.seq (sr_ [v_ 73 17,v_ 74 16,o2 75 73 74 ble_] (ex_ 75 2)) (.seq (.block 3 (.seq (sr_ [v_ 78 17,v_ 79 15,o2 80 78 79 bsu_,c2 81 80 (.int .i64 300) bgt_,v_ 82 81,g1 83 82 12 .mv,g_ 84 82 true [s_ 83,k_ (.int .i64 300)] bgt_,m_ 85 [s_ 82,s_ 84,k_ (.bool false)] .pick] (i_ 85 (sr_ [v_ 86 17,v_ 87 15,o2 88 86 87 bsu_,c2 89 88 (.int .i64 700) bgt_] (i_ 89 (sr_ [bf_ 8] .ret) .skip)) (sr_ [v_ 90 17,v_ 91 15,o2 92 90 91 bsu_,v_ 93 12,o2 94 92 93 bgt_] (i_ 94 (.exit 2) .skip)))) (.seq (.dreg [o1 95 4 f0_,o1 96 95 ld,v_ 97 17,v_ 98 12,o2 99 97 98 (.bin .rem),v_ 100 13,o2 101 99 100 (.bin .mul),o2 102 96 101 bad_,v_ 18 102]) (sr_ [v_ 103 18,c2 104 103 (.int .i64 0) bls_,v_ 105 104,g_ 106 105 false [s_ 18] .mv,g_ 107 105 false [s_ 106,k_ (.int .i64 255)] bgt_,m_ 108 [s_ 105,k_ (.bool true),s_ 107] .pick] (i_ 108 (sr_ [bf_ 8] .ret) .skip))))) (.reg [v_ 76 17,i1_ 77 76,v_ 17 77])))))))) (.reg [v_ 56 14,i1_ 57 56,v_ 14 57])))))) (sr_ [bt_ 8] .ret))))))))
theorem Zf:As Tryz.prog 131 4=some ⟨109,4,[(.slot 8)],Ob⟩:=by kernel_rfl
def Cj:AC:=(sr_ [ns_ 4] (.seq (sr_ [v_ 5 1,c2 6 5 (.int .i64 0) bls_] (i_ 6 (.reg [c1 7 (.str [99,97,110,110,111,116,32,98,101,32,110,101,103,97,116,105,118,101]) .no,h_ [s_ 7] .no]) .skip)) (.seq (sr_ [v_ 8 1,v_ 9 0,o1 10 9 .cap,v_ 11 0,o1 12 11 ln,o2 13 10 12 bsu_,o2 14 8 13 bsu_,v_ 1 14] (sr_ [v_ 15 1,c2 16 15 (.int .i64 0) bgt_] (i_ 16 (.reg [v_ 17 0,v_ 18 0,o1 19 18 .cap,o2 20 17 19 (.slice 6 false true false),v_ 21 1,o2 22 20 21 (.appZ 6 64 (.agg [(.int .i64 0),(.int .i64 0),(.int .i64 0),(.int .i64 0),(.int .i64 0),.nilS])),v_ 23 0,o1 24 23 ln,o2 25 22 24 (.slice 6 false true false),v_ 0 25]) .skip))) (sr_ [v_ 26 0,v_ 4 26] .ret))))
theorem Dc:As Tryz.prog 132 2=some ⟨27,2,[(.slot 4)],Cj⟩:=by kernel_rfl
def Oc:AC:=(sr_ [o1 2 0 .box,bf_ 4] (sr_ [o1 5 2 f0_,o1 6 5 ld,c2 7 6 (.int .i64 0) bge_,v_ 8 7,g1 9 8 2 f0_,g1 10 8 9 ld,g1 11 8 1 .mv,g2 12 8 10 11 bls_,m_ 13 [s_ 8,s_ 12,k_ (.bool false)] .pick,v_ 14 13,g1 15 14 2 (.load true 4),g_ 16 14 true [k_ (.fn 153 []),s_ 15] .call,m_ 17 [s_ 14,s_ 16,k_ (.bool false)] .pick,v_ 4 17] .ret))
theorem Zg:As Tryz.prog 135 2=some ⟨18,2,[(.slot 4)],Oc⟩:=by kernel_rfl
def Od:AC:=(sr_ [o1 2 0 .box,z_ 4,bf_ 5] (.seq (sr_ [o1 6 2 (.load true 4),k1 7 153 6,o1 8 7 nt,v_ 9 8,g_ 10 9 false [s_ 1] .mv,g_ 11 9 false [s_ 10,k_ (.int .i64 0)] bls_,m_ 12 [s_ 9,k_ (.bool true),s_ 11] .pick,v_ 13 12,g_ 14 13 false [s_ 1] .mv,g_ 15 13 false [s_ 14,k_ (.int .i64 2097151)] bgt_,m_ 16 [s_ 13,k_ (.bool true),s_ 15] .pick] (i_ 16 (sr_ [z_ 4,bf_ 5] .ret) .skip)) (.seq (.dreg [v_ 17 1,o1 18 2 f1_,o1 19 18 ld,o2 20 17 19 (.bin .shr),o1 21 2 f2_,o1 22 21 ld,m_ 23 [k_ (.int .i64 1),s_ 22] (.bin .shl),c2 24 23 (.int .i64 1) bsu_,o2 25 20 24 (.bin .and),o1 26 2 f3_,o1 27 26 ld,o2 28 25 27 (.bin .shl),v_ 4 28,bt_ 5]) .ret)))
theorem Zh:As Tryz.prog 136 2=some ⟨29,2,[(.slot 4),(.slot 5)],Od⟩:=by kernel_rfl
def Oe:AC:=(sr_ [o1 1 0 .box,o0 2 (.alloc (.agg [(.int .i64 0),(.int .i64 0),(.int .i64 0),(.int .i64 0)]) 4)] (sr_ [o1 3 1 f1_,o1 4 3 ld,o1 5 1 f2_,o1 6 5 ld,o1 7 1 f3_,o1 8 7 ld,o3 9 4 6 8 (.build [(.int .i64 0),(.int .i64 0),(.int .i64 0),(.int .i64 0)] [(0,1),(1,1),(2,1),(3,1)] [1,2,3]),n2 2 9 (.store 4)] .ret))
theorem Zi:As Tryz.prog 137 1=some ⟨10,1,[(.cell 2 true 4)],Oe⟩:=by kernel_rfl
def Iz:AC:=(sr_ [z_ 2] (.seq (.cond (.const (.bool false)) (sr_ [v_ 3 0,o1 4 3 (.conv .u32),k1 5 162 4,v_ 2 5] .ret) .skip) (sr_ [v_ 6 0,k1 7 163 6,v_ 2 7] .ret)))
theorem Qn:As Tryz.prog 139 1=some ⟨8,1,[(.slot 2)],Iz⟩:=by kernel_rfl
def L6:AC:=(sr_ [o1 2 0 .box,bf_ 4] (sr_ [o1 5 2 (.load true 4),k1 6 164 5,v_ 7 6,g1 8 7 2 f0_,g1 9 7 8 ld,g_ 10 7 true [s_ 9,k_ (.int .i64 0)] bge_,m_ 11 [s_ 7,s_ 10,k_ (.bool false)] .pick,v_ 12 11,g1 13 12 2 f0_,g1 14 12 13 ld,g1 15 12 1 .mv,g2 16 12 14 15 bls_,m_ 17 [s_ 12,s_ 16,k_ (.bool false)] .pick,v_ 4 17] .ret))
theorem Wa:As Tryz.prog 141 2=some ⟨18,2,[(.slot 4)],L6⟩:=by kernel_rfl
def L8:AC:=(sr_ [o1 2 0 .box,z_ 4,bf_ 5] (.seq (sr_ [o1 6 2 (.load true 4),k1 7 164 6,o1 8 7 nt,v_ 9 8,g_ 10 9 false [s_ 1] .mv,g_ 11 9 false [s_ 10,k_ (.int .i64 0)] bls_,m_ 12 [s_ 9,k_ (.bool true),s_ 11] .pick,v_ 13 12,g_ 14 13 false [s_ 1] .mv,g_ 15 13 false [s_ 14,k_ (.int .i64 2097152)] bge_,m_ 16 [s_ 13,k_ (.bool true),s_ 15] .pick] (i_ 16 (sr_ [z_ 4,bf_ 5] .ret) .skip)) (.seq (.dreg [v_ 17 1,o1 18 2 f1_,o1 19 18 ld,k1 20 152 19,o2 21 17 20 (.bin .quo),o1 22 2 f2_,o1 23 22 ld,k1 24 152 23,o2 25 21 24 (.bin .rem),o1 26 2 f3_,o1 27 26 ld,k1 28 152 27,o2 29 25 28 (.bin .mul),v_ 4 29,bt_ 5]) .ret)))
theorem Wb:As Tryz.prog 142 2=some ⟨30,2,[(.slot 4),(.slot 5)],L8⟩:=by kernel_rfl
def L9:AC:=(sr_ [o1 1 0 .box,o0 2 (.alloc (.agg [(.int .i64 0),(.int .i64 0),(.int .i64 0),(.int .i64 0)]) 4)] (sr_ [o1 3 1 f1_,o1 4 3 ld,o1 5 1 f2_,o1 6 5 ld,o1 7 1 f3_,o1 8 7 ld,o3 9 4 6 8 (.build [(.int .i64 0),(.int .i64 0),(.int .i64 0),(.int .i64 0)] [(0,1),(1,1),(2,1),(3,1)] [1,2,3]),n2 2 9 (.store 4)] .ret))
theorem Wc:As Tryz.prog 143 1=some ⟨10,1,[(.cell 2 true 4)],L9⟩:=by kernel_rfl
def Of:AC:=(sr_ [bf_ 2] (sr_ [c1 3 (.int .i64 (-1073741826)) .mv] (.seq (sr_ [v_ 6 0,o1 7 6 ln,z_ 8] (.block 0 (.loop (sr_ [o2 9 8 7 bls_] (.seq (ex_ 9 0) (.seq (.block 1 (sr_ [o2 10 6 8 a2_,o1 11 10 (.load true 2),o0 5 (.alloc (.agg [(.int .i64 0),(.int .i64 0)]) 2),n2 5 11 (.store 2)] (.seq (sr_ [o1 12 5 f0_,o1 13 12 ld,o1 14 5 f1_,o1 15 14 ld,o2 16 13 15 bgt_,v_ 17 16,g_ 18 17 false [s_ 5] f0_,g_ 19 17 false [s_ 18] ld,g_ 20 17 false [s_ 19,k_ (.int .i64 (-1073741824))] bls_,m_ 21 [s_ 17,k_ (.bool true),s_ 20] .pick,v_ 22 21,g_ 23 22 false [s_ 5] f1_,g_ 24 22 false [s_ 23] ld,g_ 25 22 false [s_ 24,k_ (.int .i64 1073741824)] bgt_,m_ 26 [s_ 22,k_ (.bool true),s_ 25] .pick,v_ 27 26,g_ 28 27 false [s_ 5] f0_,g_ 29 27 false [s_ 28] ld,g_ 30 27 false [s_ 3] .mv,g_ 31 27 false [s_ 30,k_ (.int .i64 1)] bad_,g_ 32 27 false [s_ 29,s_ 31] ble_,m_ 33 [s_ 27,k_ (.bool true),s_ 32] .pick] (i_ 33 (sr_ [bf_ 2] .ret) .skip)) (.reg [o1 34 5 f1_,o1 35 34 ld,v_ 3 35])))) (.reg [i1_ 36 8,v_ 8 36]))))))) (sr_ [bt_ 2] .ret))))
theorem Zj:As Tryz.prog 145 1=some ⟨37,1,[(.slot 2)],Of⟩:=by kernel_rfl
def Ma:AC:=(sr_ [bf_ 4] (sr_ [v_ 5 0,v_ 6 1,k2 7 165 5 6,o1 8 7 ln,c2 9 8 (.int .i64 0) beq_,v_ 4 9] .ret))
theorem Wd:As Tryz.prog 146 2=some ⟨10,2,[(.slot 4)],Ma⟩:=by kernel_rfl
def Qo:AC:=(sr_ [o1 4 0 .box,bf_ 8] (.seq (sr_ [o1 11 4 l6,v_ 12 1,v_ 13 2,v_ 14 3,o1 15 14 ln,m_ 16 [k_ (.fn 166 []),s_ 11,s_ 12,s_ 13,s_ 15] .call,o1 17 16 nt] (i_ 17 (sr_ [bf_ 8] .ret) .skip)) (sr_ [o1 19 4 l6,v_ 20 3,k2 21 167 19 20,v_ 18 21,o1 22 18 (.extract 0),o1 23 18 (.extract 1),v_ 9 22,v_ 10 23] (sr_ [v_ 24 10,v_ 25 24,g1 26 25 9 .mv,g1 27 25 2 .mv,g_ 28 25 true [k_ (.fn 72 []),s_ 27] .call,g_ 29 25 true [k_ (.fn 146 []),s_ 26,s_ 28] .call,m_ 30 [s_ 25,s_ 29,k_ (.bool false)] .pick,v_ 8 30] .ret))))
theorem z2g:As Tryz.prog 147 4=some ⟨31,4,[(.slot 8)],Qo⟩:=by kernel_rfl
def I0:AC:=(sr_ [ns_ 4] (sr_ [c1 9 (.int .i64 (-1073741824)) (.bslice 1 1 (.int .i64 0) [0]),v_ 5 9] (.seq (sr_ [z_ 6] (.block 0 (.loop (.seq (sr_ [v_ 10 6,c2 11 10 (.int .i64 2) bls_] (ex_ 11 0)) (.seq (.block 1 (sr_ [v_ 14 0,v_ 7 14] (.seq (sr_ [v_ 15 6,c2 16 15 (.int .i64 1) beq_] (i_ 16 (.reg [v_ 17 1,v_ 7 17]) .skip)) (sr_ [z_ 8] (.block 2 (.loop (.seq (sr_ [v_ 18 8,v_ 19 7,o1 20 19 ln,o2 21 18 20 bls_] (ex_ 21 2)) (.seq (.block 3 (.seq (sr_ [v_ 24 7,v_ 25 8,o2 26 24 25 a2_,o1 27 26 f0_,o1 28 27 ld,c2 29 28 (.int .i64 (-1073741824)) bgt_,v_ 30 29,g1 31 30 7 .mv,g1 32 30 8 .mv,g2 33 30 31 32 a2_,g1 34 30 33 f0_,g1 35 30 34 ld,g_ 36 30 true [s_ 35,k_ (.int .i64 1073741824)] ble_,m_ 37 [s_ 30,s_ 36,k_ (.bool false)] .pick] (i_ 37 (.reg [v_ 38 5,v_ 39 7,v_ 40 8,o2 41 39 40 a2_,o1 42 41 f0_,o1 43 42 ld,k2 44 168 38 43,v_ 5 44]) .skip)) (sr_ [v_ 45 7,v_ 46 8,o2 47 45 46 a2_,o1 48 47 f1_,o1 49 48 ld,c2 50 49 (.int .i64 (-1073741824)) bge_,v_ 51 50,g1 52 51 7 .mv,g1 53 51 8 .mv,g2 54 51 52 53 a2_,g1 55 51 54 f1_,g1 56 51 55 ld,g_ 57 51 true [s_ 56,k_ (.int .i64 1073741824)] bls_,m_ 58 [s_ 51,s_ 57,k_ (.bool false)] .pick] (i_ 58 (.reg [v_ 59 5,v_ 60 7,v_ 61 8,o2 62 60 61 a2_,o1 63 62 f1_,o1 64 63 ld,i1_ 65 64,k2 66 168 59 65,v_ 5 66]) .skip)))) (.reg [v_ 22 8,i1_ 23 22,v_ 8 23]))))))))) (.reg [v_ 12 6,i1_ 13 12,v_ 6 13])))))) (sr_ [v_ 67 5,v_ 4 67] .ret))))
theorem Qp:As Tryz.prog 149 2=some ⟨68,2,[(.slot 4)],I0⟩:=by kernel_rfl
def Mb:AC:=(sr_ [o1 4 0 .box,bf_ 8] (.seq (sr_ [v_ 10 1,c2 11 10 (.int .i64 1) bne_,v_ 12 11,g1 13 12 1 .mv,g_ 14 12 true [s_ 13,k_ (.int .i64 2)] bne_,m_ 15 [s_ 12,s_ 14,k_ (.bool false)] .pick,v_ 16 15,g_ 17 16 false [s_ 2] .mv,g_ 18 16 false [s_ 17,k_ (.int .i64 1)] bne_,g_ 19 16 false [s_ 18] .mv,g1 20 19 2 .mv,g_ 21 19 true [s_ 20,k_ (.int .i64 2)] bne_,g_ 22 16 false [s_ 19,s_ 21,k_ (.bool false)] .pick,m_ 23 [s_ 16,k_ (.bool true),s_ 22] .pick,v_ 24 23,g_ 25 24 false [s_ 4] l6,g_ 26 24 false [k_ (.fn 169 []),s_ 25] .call,g_ 27 24 false [s_ 26] nt,m_ 28 [s_ 24,k_ (.bool true),s_ 27] .pick] (i_ 28 (sr_ [bf_ 8] .ret) .skip)) (.seq (sr_ [z_ 9] (.block 0 (.loop (.seq (sr_ [v_ 29 9,o1 30 4 f5_,o1 31 30 ld,o1 32 31 ln,o2 33 29 32 bls_] (ex_ 33 0)) (.seq (.block 1 (sr_ [o1 36 4 f5_,o1 37 36 ld,v_ 38 9,o2 39 37 38 a4_,o1 40 39 (.load true 4),v_ 41 3,k2 42 141 40 41,o1 43 42 nt,v_ 44 43,g_ 45 44 false [s_ 1] .mv,g_ 46 44 false [s_ 45,k_ (.int .i64 2)] beq_,g_ 47 44 false [s_ 46] .mv,g1 48 47 9 .mv,g_ 49 47 true [s_ 48,k_ (.int .i64 0)] bgt_,g1 50 47 49 .mv,g_ 51 50 false [s_ 4] f5_,g_ 52 50 false [s_ 51] ld,g_ 53 50 false [s_ 9] .mv,g_ 54 50 false [s_ 52,s_ 53] a4_,g_ 55 50 false [s_ 54] (.load true 4),g_ 56 50 false [k_ (.fn 170 []),s_ 55] .call,g_ 57 50 false [s_ 56] nt,g_ 58 47 true [s_ 50,k_ (.bool true),s_ 57] .pick,g_ 59 44 false [s_ 47,s_ 58,k_ (.bool false)] .pick,m_ 60 [s_ 44,k_ (.bool true),s_ 59] .pick] (i_ 60 (sr_ [bf_ 8] .ret) .skip))) (.reg [v_ 34 9,i1_ 35 34,v_ 9 35])))))) (sr_ [v_ 61 2,c2 62 61 (.int .i64 1) beq_,v_ 63 62,g_ 64 63 false [s_ 4] l6,g_ 65 63 false [k_ (.fn 171 []),s_ 64] .call,m_ 66 [s_ 63,k_ (.bool true),s_ 65] .pick,v_ 8 66] .ret))))
theorem We:As Tryz.prog 150 4=some ⟨67,4,[(.slot 8)],Mb⟩:=by kernel_rfl
def Mc:AC:=(sr_ [o1 3 0 .box,ns_ 6,bf_ 7] (.seq (sr_ [v_ 19 1,c2 20 19 (.int .i64 2) beq_,v_ 21 20,g1 22 21 3 f5_,g1 23 21 22 ld,g1 24 21 23 ln,g_ 25 21 true [s_ 24,k_ (.int .i64 1)] beq_,m_ 26 [s_ 21,s_ 25,k_ (.bool false)] .pick] (i_ 26 (.seq (.dtl [v_ 27 2,o1 28 3 f5_,o1 29 28 ld,c2 30 29 (.int .i64 0) a4_,o1 31 30 f0_,o1 32 31 ld,o2 33 27 32 a1_,o1 34 33 ld,k1 35 128 34,o1 36 3 f4_,o1 37 36 ld] [k2 38 172 35 37,v_ 8 38]) (.seq (.dreg [v_ 39 8,v_ 40 8,c2 41 40 (.int .i64 0) a2_,o1 42 41 f0_,o1 43 42 ld,c2 44 43 (.int .i64 0) bge_,v_ 45 44,g1 46 45 8 .mv,g1 47 45 8 .mv,g1 48 45 47 ln,g_ 49 45 true [s_ 48,k_ (.int .i64 1)] bsu_,g2 50 45 46 49 a2_,g1 51 45 50 f1_,g1 52 45 51 ld,g_ 53 45 true [s_ 52,k_ (.int .i64 1114111)] ble_,m_ 54 [s_ 45,s_ 53,k_ (.bool false)] .pick,v_ 6 39,v_ 7 54]) .ret)) .skip)) (sr_ [o1 55 3 f4_,o1 56 55 ld,o1 57 56 (.bslice 1 1 (.int .i64 0) [0]),v_ 9 57] (.seq (sr_ [z_ 10] (.block 0 (.loop (.seq (sr_ [v_ 58 10,v_ 59 2,o1 60 59 ln,o2 61 58 60 bls_] (ex_ 61 0)) (.seq (.block 1 (sr_ [ns_ 11] (sr_ [bf_ 12] (.seq (sr_ [z_ 13] (.block 2 (.loop (.seq (sr_ [v_ 64 13,c2 65 64 (.int .i64 256) bls_,v_ 66 65,g1 67 66 1 .mv,g_ 68 66 true [s_ 67,k_ (.int .i64 1)] beq_,m_ 69 [s_ 66,s_ 68,k_ (.bool false)] .pick] (ex_ 69 2)) (.seq (.block 3 (.seq (sr_ [v_ 72 2,v_ 73 10,o2 74 72 73 a1_,o1 75 74 ld,v_ 76 13,k2 77 110 75 76,o1 78 77 nt] (i_ 78 (.exit 3) .skip)) (sr_ [z_ 14] (.seq (sr_ [z_ 15] (.block 4 (.loop (.seq (sr_ [v_ 79 15,o1 80 3 f5_,o1 81 80 ld,o1 82 81 ln,o2 83 79 82 bls_] (ex_ 83 4)) (.seq (.block 5 (sr_ [o1 86 3 f5_,o1 87 86 ld,v_ 88 15,o2 89 87 88 a4_,o1 90 89 f0_,o1 91 90 ld,v_ 92 10,o2 93 91 92 beq_] (i_ 93 (sr_ [o1 95 3 f5_,o1 96 95 ld,v_ 97 15,o2 98 96 97 a4_,o1 99 98 (.load true 4),v_ 100 13,k2 101 142 99 100,v_ 94 101,o1 102 94 (.extract 0),o1 103 94 (.extract 1),v_ 16 102,v_ 17 103] (sr_ [v_ 104 14,v_ 105 16,o2 106 104 105 bad_,v_ 14 106] (.reg [bt_ 12]))) .skip))) (.reg [v_ 84 15,i1_ 85 84,v_ 15 85])))))) (.reg [v_ 107 11,v_ 108 14,k2 109 173 107 108,v_ 11 109]))))) (.reg [v_ 70 13,i1_ 71 70,v_ 13 71])))))) (.seq (sr_ [v_ 110 12,o1 111 110 nt] (i_ 111 (.exit 1) .skip)) (sr_ [bt_ 18] (sr_ [v_ 113 9,v_ 114 11,k2 115 174 113 114,v_ 112 115,o1 116 112 (.extract 0),o1 117 112 (.extract 1),v_ 9 116,v_ 18 117] (sr_ [v_ 118 18,o1 119 118 nt] (i_ 119 (sr_ [ns_ 6,bf_ 7] .ret) .skip))))))))) (.reg [v_ 62 10,i1_ 63 62,v_ 10 63])))))) (.seq (.dreg [v_ 120 9,k1 121 175 120,v_ 122 9,c2 123 122 (.int .i64 0) a1_,o1 124 123 ld,c2 125 124 (.int .i64 0) bge_,v_ 126 125,g1 127 126 9 .mv,g1 128 126 9 .mv,g1 129 126 128 ln,g_ 130 126 true [s_ 129,k_ (.int .i64 1)] bsu_,g2 131 126 127 130 a1_,g1 132 126 131 ld,g_ 133 126 true [s_ 132,k_ (.int .i64 1114111)] ble_,m_ 134 [s_ 126,s_ 133,k_ (.bool false)] .pick,v_ 6 121,v_ 7 134]) .ret)))))
theorem Wg:As Tryz.prog 151 3=some ⟨135,3,[(.slot 6),(.slot 7)],Mc⟩:=by kernel_rfl
def Qq:AC:=(sr_ [z_ 2] (sr_ [c1 3 (.int .i64 1) .mv] (.seq (sr_ [z_ 4] (.block 0 (.loop (.seq (sr_ [v_ 5 4,v_ 6 0,o2 7 5 6 bls_] (ex_ 7 0)) (.seq (.block 1 (.reg [v_ 10 3,m_ 11 [k_ (.int .i64 2),s_ 10] (.bin .mul),v_ 3 11])) (.reg [v_ 8 4,i1_ 9 8,v_ 4 9])))))) (sr_ [v_ 12 3,v_ 2 12] .ret))))
theorem z2h:As Tryz.prog 152 1=some ⟨13,1,[(.slot 2)],Qq⟩:=by kernel_rfl
def Qr:AC:=(sr_ [o1 1 0 .box,bf_ 2] (sr_ [o1 3 1 f1_,o1 4 3 ld,c2 5 4 (.int .i64 0) bge_,v_ 6 5,g1 7 6 1 f1_,g1 8 6 7 ld,g_ 9 6 true [s_ 8,k_ (.int .i64 21)] bls_,m_ 10 [s_ 6,s_ 9,k_ (.bool false)] .pick,v_ 11 10,g1 12 11 1 f2_,g1 13 11 12 ld,g_ 14 11 true [s_ 13,k_ (.int .i64 1)] bge_,m_ 15 [s_ 11,s_ 14,k_ (.bool false)] .pick,v_ 16 15,g1 17 16 1 f2_,g1 18 16 17 ld,g_ 19 16 true [s_ 18,k_ (.int .i64 21)] ble_,m_ 20 [s_ 16,s_ 19,k_ (.bool false)] .pick,v_ 21 20,g1 22 21 1 f3_,g1 23 21 22 ld,g_ 24 21 true [s_ 23,k_ (.int .i64 0)] bge_,m_ 25 [s_ 21,s_ 24,k_ (.bool false)] .pick,v_ 26 25,g1 27 26 1 f3_,g1 28 26 27 ld,g_ 29 26 true [s_ 28,k_ (.int .i64 21)] bls_,m_ 30 [s_ 26,s_ 29,k_ (.bool false)] .pick,v_ 31 30,g1 32 31 1 f3_,g1 33 31 32 ld,g_ 34 31 true [s_ 33,k_ (.int .i64 0)] beq_,g1 35 31 34 .mv,g_ 36 35 false [s_ 1] f2_,g_ 37 35 false [s_ 36] ld,g_ 38 35 false [s_ 37,k_ (.int .i64 6)] ble_,g_ 39 31 true [s_ 35,k_ (.bool true),s_ 38] .pick,m_ 40 [s_ 31,s_ 39,k_ (.bool false)] .pick,v_ 2 40] .ret))
theorem z2i:As Tryz.prog 153 1=some ⟨41,1,[(.slot 2)],Qr⟩:=by kernel_rfl
def G9:AC:=(sr_ [z_ 2] (.seq (sr_ [v_ 3 0,c2 4 3 (.int .u64 4294967296) bge_] (i_ 4 (sr_ [v_ 5 0,c2 6 5 (.int .u64 32) (.bin .shr),v_ 0 6] (.reg [c1 2 (.int .i64 32) .mv])) .skip)) (.seq (sr_ [v_ 7 0,c2 8 7 (.int .u64 65536) bge_] (i_ 8 (sr_ [v_ 9 0,c2 10 9 (.int .u64 16) (.bin .shr),v_ 0 10] (.reg [v_ 11 2,c2 12 11 (.int .i64 16) bad_,v_ 2 12])) .skip)) (.seq (sr_ [v_ 13 0,c2 14 13 (.int .u64 256) bge_] (i_ 14 (sr_ [v_ 15 0,c2 16 15 (.int .u64 8) (.bin .shr),v_ 0 16] (.reg [v_ 17 2,c2 18 17 (.int .i64 8) bad_,v_ 2 18])) .skip)) (sr_ [v_ 19 2,v_ 20 0,o1 21 20 (.conv .u8),m_ 22 [k_ (.str [0,1,2,2,3,3,3,3,4,4,4,4,4,4,4,4,5,5,5,5,5,5,5,5,5,5,5,5,5,5,5,5,6,6,6,6,6,6,6,6,6,6,6,6,6,6,6,6,6,6,6,6,6,6,6,6,6,6,6,6,6,6,6,6,7,7,7,7,7,7,7,7,7,7,7,7,7,7,7,7,7,7,7,7,7,7,7,7,7,7,7,7,7,7,7,7,7,7,7,7,7,7,7,7,7,7,7,7,7,7,7,7,7,7,7,7,7,7,7,7,7,7,7,7,7,7,7,7,8,8,8,8,8,8,8,8,8,8,8,8,8,8,8,8,8,8,8,8,8,8,8,8,8,8,8,8,8,8,8,8,8,8,8,8,8,8,8,8,8,8,8,8,8,8,8,8,8,8,8,8,8,8,8,8,8,8,8,8,8,8,8,8,8,8,8,8,8,8,8,8,8,8,8,8,8,8,8,8,8,8,8,8,8,8,8,8,8,8,8,8,8,8,8,8,8,8,8,8,8,8,8,8,8,8,8,8,8,8,8,8,8,8,8,8,8,8,8,8,8,8,8,8,8,8,8,8]),s_ 21] .indexStr,o1 23 22 (.conv .i64),o2 24 19 23 bad_,v_ 2 24] .ret)))))
theorem M9:As Tryz.prog 163 1=some ⟨25,1,[(.slot 2)],G9⟩:=by kernel_rfl
def Og:AC:=(sr_ [o1 1 0 .box,bf_ 2] (.seq (sr_ [o1 3 1 f1_,o1 4 3 ld,c2 5 4 (.int .i64 0) bls_,v_ 6 5,g_ 7 6 false [s_ 1] f1_,g_ 8 6 false [s_ 7] ld,g_ 9 6 false [s_ 8,k_ (.int .i64 20)] bgt_,m_ 10 [s_ 6,k_ (.bool true),s_ 9] .pick,v_ 11 10,g_ 12 11 false [s_ 1] f2_,g_ 13 11 false [s_ 12] ld,g_ 14 11 false [s_ 13,k_ (.int .i64 1)] bls_,m_ 15 [s_ 11,k_ (.bool true),s_ 14] .pick,v_ 16 15,g_ 17 16 false [s_ 1] f2_,g_ 18 16 false [s_ 17] ld,g_ 19 16 false [s_ 18,k_ (.int .i64 21)] bgt_,m_ 20 [s_ 16,k_ (.bool true),s_ 19] .pick,v_ 21 20,g_ 22 21 false [s_ 1] f3_,g_ 23 21 false [s_ 22] ld,g_ 24 21 false [s_ 23,k_ (.int .i64 0)] bls_,m_ 25 [s_ 21,k_ (.bool true),s_ 24] .pick,v_ 26 25,g_ 27 26 false [s_ 1] f3_,g_ 28 26 false [s_ 27] ld,g_ 29 26 false [s_ 28,k_ (.int .i64 20)] bgt_,m_ 30 [s_ 26,k_ (.bool true),s_ 29] .pick] (i_ 30 (sr_ [bf_ 2] .ret) .skip)) (sr_ [o1 31 1 f3_,o1 32 31 ld,c2 33 32 (.int .i64 0) beq_,v_ 34 33,g_ 35 34 false [s_ 1] f2_,g_ 36 34 false [s_ 35] ld,g_ 37 34 false [s_ 36,k_ (.int .i64 6)] ble_,m_ 38 [s_ 34,k_ (.bool true),s_ 37] .pick,v_ 2 38] .ret)))
theorem Zk:As Tryz.prog 164 1=some ⟨39,1,[(.slot 2)],Og⟩:=by kernel_rfl
def Oh:AC:=(sr_ [ns_ 4] (sr_ [ns_ 5] (sr_ [c1 6 (.int .i64 (-1073741824)) .mv] (.seq (sr_ [v_ 9 1,k1 10 181 9,o1 11 10 ln,z_ 12] (.block 0 (.loop (sr_ [o2 13 12 11 bls_] (.seq (ex_ 13 0) (.seq (.block 1 (sr_ [o2 14 10 12 a2_,o1 15 14 (.load true 2),o0 8 (.alloc (.agg [(.int .i64 0),(.int .i64 0)]) 2),n2 8 15 (.store 2)] (sr_ [v_ 16 5,v_ 17 6,o1 18 8 f0_,o1 19 18 ld,c2 20 19 (.int .i64 1) bsu_,o2 21 17 20 (.build [(.int .i64 0),(.int .i64 0)] [(0,1),(1,1)] [0,1]),o1 22 21 (.bslice 2 1 (.agg [(.int .i64 0),(.int .i64 0)]) [0]),o2 23 16 22 (.app 2 16 (.agg [(.int .i64 0),(.int .i64 0)])),v_ 5 23] (.reg [o1 24 8 f1_,o1 25 24 ld,i1_ 26 25,v_ 6 26])))) (.reg [i1_ 27 12,v_ 12 27]))))))) (sr_ [v_ 28 5,v_ 29 6,c2 30 29 (.int .i64 1073741824) (.build [(.int .i64 0),(.int .i64 0)] [(0,1),(1,1)] [0,1]),o1 31 30 (.bslice 2 1 (.agg [(.int .i64 0),(.int .i64 0)]) [0]),o2 32 28 31 (.app 2 16 (.agg [(.int .i64 0),(.int .i64 0)])),v_ 5 32] (sr_ [v_ 33 0,v_ 34 5,k2 35 182 33 34,v_ 4 35] .ret))))))
theorem Zl:As Tryz.prog 165 2=some ⟨36,2,[(.slot 4)],Oh⟩:=by kernel_rfl
def Oi:AC:=(sr_ [o1 4 0 .box,bf_ 8] (.seq (sr_ [v_ 11 1,k1 12 72 11,o1 13 12 ln,c2 14 13 (.int .i64 0) beq_,v_ 15 14,g_ 16 15 false [s_ 2] .mv,g_ 17 15 false [k_ (.fn 72 []),s_ 16] .call,g_ 18 15 false [s_ 17] ln,g_ 19 15 false [s_ 18,k_ (.int .i64 0)] beq_,m_ 20 [s_ 15,k_ (.bool true),s_ 19] .pick,v_ 21 20,g_ 22 21 false [s_ 4] l6,g_ 23 21 false [k_ (.fn 183 []),s_ 22] .call,g_ 24 21 false [s_ 23] nt,m_ 25 [s_ 21,k_ (.bool true),s_ 24] .pick] (i_ 25 (sr_ [bf_ 8] .ret) .skip)) (.seq (sr_ [o1 26 4 f5_,o1 27 26 ld,o1 28 27 ln,z_ 29] (.block 0 (.loop (sr_ [o2 30 29 28 bls_] (.seq (ex_ 30 0) (.seq (.block 1 (sr_ [o2 31 27 29 a4_,o1 32 31 (.load true 4),o0 10 (.alloc (.agg [(.int .i64 0),(.int .i64 0),(.int .i64 0),(.int .i64 0)]) 4),n2 10 32 (.store 4)] (.seq (.dreg [o1 33 10 (.load true 4),v_ 34 3,k2 35 135 33 34,o1 36 35 nt,v_ 37 36,g_ 38 37 false [s_ 1] .mv,g_ 39 37 false [s_ 38,k_ (.int .i64 2)] beq_,g_ 40 37 false [s_ 39] .mv,g1 41 40 10 (.load true 4),g1 42 40 10 f0_,g1 43 40 42 ld,g_ 44 40 true [k_ (.fn 113 []),s_ 43] .call,g2 45 40 41 44 (.eqs true [1,1,1,1]),g_ 46 37 false [s_ 40,s_ 45,k_ (.bool false)] .pick,m_ 47 [s_ 37,k_ (.bool true),s_ 46] .pick]) (i_ 47 (sr_ [bf_ 8] .ret) .skip)))) (.reg [i1_ 48 29,v_ 29 48]))))))) (sr_ [v_ 49 1,c2 50 49 (.int .i64 2) bne_,v_ 51 50,g_ 52 51 false [s_ 4] f5_,g_ 53 51 false [s_ 52] ld,g_ 54 51 false [s_ 53] ln,g_ 55 51 false [s_ 54,k_ (.int .i64 1)] ble_,m_ 56 [s_ 51,k_ (.bool true),s_ 55] .pick,v_ 57 56,g1 58 57 2 .mv,g_ 59 57 true [s_ 58,k_ (.int .i64 2)] bne_,g1 60 57 59 .mv,g_ 61 60 false [s_ 4] l6,g_ 62 60 false [k_ (.fn 184 []),s_ 61] .call,g_ 63 57 true [s_ 60,k_ (.bool true),s_ 62] .pick,m_ 64 [s_ 57,s_ 63,k_ (.bool false)] .pick,v_ 8 64] .ret))))
theorem Zm:As Tryz.prog 166 4=some ⟨65,4,[(.slot 8)],Oi⟩:=by kernel_rfl
def Oj:AC:=(sr_ [o1 2 0 .box,ns_ 4,bf_ 5] (sr_ [o1 9 2 l6,v_ 10 1,k2 11 185 9 10,v_ 8 11,o1 12 8 (.extract 0),o1 13 8 (.extract 1),v_ 6 12,v_ 7 13] (.seq (sr_ [v_ 14 7,o1 15 14 nt] (i_ 15 (sr_ [ns_ 4,bf_ 5] .ret) .skip)) (.seq (sr_ [v_ 16 6,o1 17 16 ln,c2 18 17 (.int .i64 0) beq_] (i_ 18 (sr_ [ns_ 4,bt_ 5] .ret) .skip)) (.seq (.dtl [o1 19 2 l6,k1 20 137 19,v_ 21 6,k2 22 187 20 21,o1 23 2 f0_,o1 24 23 ld] [k2 25 186 22 24,v_ 4 25,bt_ 5]) .ret)))))
theorem Zn:As Tryz.prog 167 2=some ⟨26,2,[(.slot 4),(.slot 5)],Oj⟩:=by kernel_rfl
def Qs:AC:=(sr_ [ns_ 4] (sr_ [v_ 9 0,o1 10 9 ln,z_ 5,v_ 6 10] (.seq (.block 0 (.loop (.seq (sr_ [v_ 11 5,v_ 12 6,o2 13 11 12 bls_] (ex_ 13 0)) (.block 1 (sr_ [v_ 14 5,v_ 15 6,o2 16 14 15 bad_,c2 17 16 (.int .i64 2) (.bin .quo),v_ 7 17] (sr_ [v_ 18 0,v_ 19 7,o2 20 18 19 a1_,o1 21 20 ld,v_ 22 1,o2 23 21 22 bls_] (i_ 23 (.reg [v_ 24 7,i1_ 25 24,v_ 5 25]) (.reg [v_ 26 7,v_ 6 26])))))))) (.seq (sr_ [v_ 27 5,v_ 28 0,o1 29 28 ln,o2 30 27 29 bls_,v_ 31 30,g1 32 31 0 .mv,g1 33 31 5 .mv,g2 34 31 32 33 a1_,g1 35 31 34 ld,g1 36 31 1 .mv,g2 37 31 35 36 beq_,m_ 38 [s_ 31,s_ 37,k_ (.bool false)] .pick] (i_ 38 (sr_ [v_ 39 0,v_ 4 39] .ret) .skip)) (sr_ [v_ 40 0,c1 41 (.int .i64 0) (.bslice 1 1 (.int .i64 0) [0]),o2 42 40 41 (.app 1 8 (.int .i64 0)),v_ 0 42] (.seq (sr_ [v_ 43 0,o1 44 43 ln,c2 45 44 (.int .i64 1) bsu_,v_ 8 45] (.block 2 (.loop (.seq (sr_ [v_ 46 8,v_ 47 5,o2 48 46 47 bgt_] (ex_ 48 2)) (.seq (.block 3 (.reg [v_ 51 0,v_ 52 8,v_ 53 0,v_ 54 8,c2 55 54 (.int .i64 1) bsu_,o2 56 53 55 a1_,o1 57 56 ld,o2 58 51 52 a1_,n2 58 57 st])) (.reg [v_ 49 8,c2 50 49 (.int .i64 1) bsu_,v_ 8 50])))))) (sr_ [v_ 59 0,v_ 60 5,v_ 61 1,o2 62 59 60 a1_,n2 62 61 st] (sr_ [v_ 63 0,v_ 4 63] .ret))))))))
theorem z2j:As Tryz.prog 168 2=some ⟨64,2,[(.slot 4)],Qs⟩:=by kernel_rfl
def I1:AC:=(sr_ [o1 1 0 .box,bf_ 2] (.seq (sr_ [o1 4 1 f0_,o1 5 4 ld,k1 6 188 5,o1 7 6 nt,v_ 8 7,g_ 9 8 false [s_ 1] f4_,g_ 10 8 false [s_ 9] ld,g_ 11 8 false [k_ (.fn 188 []),s_ 10] .call,g_ 12 8 false [s_ 11] nt,m_ 13 [s_ 8,k_ (.bool true),s_ 12] .pick,v_ 14 13,g_ 15 14 false [s_ 1] l6,g_ 16 14 false [k_ (.fn 143 []),s_ 15] .call,g_ 17 14 false [k_ (.fn 164 []),s_ 16] .call,g_ 18 14 false [s_ 17] nt,m_ 19 [s_ 14,k_ (.bool true),s_ 18] .pick,v_ 20 19,g_ 21 20 false [s_ 1] f5_,g_ 22 20 false [s_ 21] ld,g_ 23 20 false [s_ 22] ln,g_ 24 20 false [s_ 23,k_ (.int .i64 4)] bgt_,m_ 25 [s_ 20,k_ (.bool true),s_ 24] .pick] (i_ 25 (sr_ [bf_ 2] .ret) .skip)) (.seq (sr_ [c1 3 (.int .i64 1) .mv] (.block 0 (.loop (.seq (sr_ [v_ 26 3,o1 27 1 f5_,o1 28 27 ld,o1 29 28 ln,o2 30 26 29 bls_] (ex_ 30 0)) (.seq (.block 1 (.seq (.dreg [o1 33 1 f5_,o1 34 33 ld,v_ 35 3,o2 36 34 35 a4_,o1 37 36 f3_,o1 38 37 ld,o1 39 1 f5_,o1 40 39 ld,v_ 41 3,c2 42 41 (.int .i64 1) bsu_,o2 43 40 42 a4_,o1 44 43 f3_,o1 45 44 ld,o2 46 38 45 ble_]) (i_ 46 (sr_ [bf_ 2] .ret) .skip))) (.reg [v_ 31 3,i1_ 32 31,v_ 3 32])))))) (sr_ [bt_ 2] .ret))))
theorem Qt:As Tryz.prog 169 1=some ⟨47,1,[(.slot 2)],I1⟩:=by kernel_rfl
def Qu:AC:=(sr_ [o1 1 0 .box,bf_ 2] (sr_ [o1 3 1 f1_,o1 4 3 ld,c2 5 4 (.int .i64 0) beq_,v_ 6 5,g1 7 6 1 f2_,g1 8 6 7 ld,g_ 9 6 true [s_ 8,k_ (.int .i64 21)] beq_,m_ 10 [s_ 6,s_ 9,k_ (.bool false)] .pick,v_ 11 10,g1 12 11 1 f3_,g1 13 11 12 ld,g_ 14 11 true [s_ 13,k_ (.int .i64 0)] beq_,m_ 15 [s_ 11,s_ 14,k_ (.bool false)] .pick,v_ 2 15] .ret))
theorem z2k:As Tryz.prog 170 1=some ⟨16,1,[(.slot 2)],Qu⟩:=by kernel_rfl
def Md:AC:=(sr_ [o1 1 0 .box,bf_ 2] (sr_ [o1 3 1 f0_,o1 4 3 ld,c2 5 4 (.int .i64 0) beq_,v_ 6 5,g1 7 6 1 l6,g_ 8 6 true [k_ (.fn 143 []),s_ 7] .call,g_ 9 6 true [k_ (.fn 170 []),s_ 8] .call,m_ 10 [s_ 6,s_ 9,k_ (.bool false)] .pick,v_ 2 10] .ret))
theorem Wh:As Tryz.prog 171 1=some ⟨11,1,[(.slot 2)],Md⟩:=by kernel_rfl
def Ol:AC:=(sr_ [ns_ 4] (.seq (sr_ [v_ 8 1,c2 9 8 (.int .i64 2147483648) bgt_,v_ 10 9,g_ 11 10 false [s_ 1] .mv,g_ 12 10 false [s_ 11,k_ (.int .i64 (-2147483648))] bls_,m_ 13 [s_ 10,k_ (.bool true),s_ 12] .pick] (i_ 13 (sr_ [ns_ 4] .ret) .skip)) (sr_ [v_ 14 0,k1 15 128 14,v_ 5 15] (sr_ [ns_ 6] (.seq (sr_ [z_ 7] (.block 0 (.loop (.seq (sr_ [v_ 16 7,v_ 17 5,o1 18 17 ln,o2 19 16 18 bls_] (ex_ 19 0)) (.seq (.block 1 (.dtl [v_ 22 6,v_ 23 5,v_ 24 7,o2 25 23 24 a2_,o1 26 25 f0_,o1 27 26 ld,v_ 28 1,o2 29 27 28 bad_,v_ 30 5,v_ 31 7,o2 32 30 31 a2_,o1 33 32 f1_,o1 34 33 ld,v_ 35 1,o2 36 34 35 bad_,o2 37 29 36 (.build [(.int .i64 0),(.int .i64 0)] [(0,1),(1,1)] [0,1]),o1 38 37 (.bslice 2 1 (.agg [(.int .i64 0),(.int .i64 0)]) [0])] [o2 39 22 38 (.app 2 16 (.agg [(.int .i64 0),(.int .i64 0)])),v_ 6 39])) (.reg [v_ 20 7,i1_ 21 20,v_ 7 21])))))) (sr_ [v_ 40 6,k1 41 128 40,v_ 4 41] .ret))))))
theorem Zo:As Tryz.prog 172 2=some ⟨42,2,[(.slot 4)],Ol⟩:=by kernel_rfl
def Qv:AC:=(sr_ [ns_ 4] (sr_ [v_ 9 0,o1 10 9 ln,z_ 5,v_ 6 10] (.seq (.block 0 (.loop (.seq (sr_ [v_ 11 5,v_ 12 6,o2 13 11 12 bls_] (ex_ 13 0)) (.block 1 (sr_ [v_ 14 5,v_ 15 6,o2 16 14 15 bad_,c2 17 16 (.int .i64 2) (.bin .quo),v_ 7 17] (sr_ [v_ 18 0,v_ 19 7,o2 20 18 19 a1_,o1 21 20 ld,v_ 22 1,o2 23 21 22 bls_] (i_ 23 (.reg [v_ 24 7,i1_ 25 24,v_ 5 25]) (.reg [v_ 26 7,v_ 6 26])))))))) (.seq (sr_ [v_ 27 5,v_ 28 0,o1 29 28 ln,o2 30 27 29 bls_,v_ 31 30,g1 32 31 0 .mv,g1 33 31 5 .mv,g2 34 31 32 33 a1_,g1 35 31 34 ld,g1 36 31 1 .mv,g2 37 31 35 36 beq_,m_ 38 [s_ 31,s_ 37,k_ (.bool false)] .pick] (i_ 38 (sr_ [v_ 39 0,v_ 4 39] .ret) .skip)) (sr_ [v_ 40 0,c1 41 (.int .i64 0) (.bslice 1 1 (.int .i64 0) [0]),o2 42 40 41 (.app 1 8 (.int .i64 0)),v_ 0 42] (.seq (sr_ [v_ 43 0,o1 44 43 ln,c2 45 44 (.int .i64 1) bsu_,v_ 8 45] (.block 2 (.loop (.seq (sr_ [v_ 46 8,v_ 47 5,o2 48 46 47 bgt_] (ex_ 48 2)) (.seq (.block 3 (.reg [v_ 51 0,v_ 52 8,v_ 53 0,v_ 54 8,c2 55 54 (.int .i64 1) bsu_,o2 56 53 55 a1_,o1 57 56 ld,o2 58 51 52 a1_,n2 58 57 st])) (.reg [v_ 49 8,c2 50 49 (.int .i64 1) bsu_,v_ 8 50])))))) (sr_ [v_ 59 0,v_ 60 5,v_ 61 1,o2 62 59 60 a1_,n2 62 61 st] (sr_ [v_ 63 0,v_ 4 63] .ret))))))))
theorem z2l:As Tryz.prog 173 2=some ⟨64,2,[(.slot 4)],Qv⟩:=by kernel_rfl
def Om:AC:=(sr_ [ns_ 4,bf_ 5] (.seq (sr_ [v_ 14 0,o1 15 14 ln,v_ 16 1,o1 17 16 ln,o2 18 15 17 (.bin .mul),c2 19 18 (.int .i64 4000) ble_] (i_ 19 (sr_ [ns_ 6] (.seq (sr_ [z_ 7] (.block 0 (.loop (.seq (sr_ [v_ 20 7,v_ 21 0,o1 22 21 ln,o2 23 20 22 bls_] (ex_ 23 0)) (.seq (.block 1 (sr_ [z_ 8] (.block 2 (.loop (.seq (sr_ [v_ 26 8,v_ 27 1,o1 28 27 ln,o2 29 26 28 bls_] (ex_ 29 2)) (.seq (.block 3 (.seq (.seq (.dreg [v_ 32 0,v_ 33 7,o2 34 32 33 a1_,o1 35 34 ld,v_ 36 1,v_ 37 8,o2 38 36 37 a1_,o1 39 38 ld,o2 40 35 39 bad_,c2 41 40 (.int .i64 1114111) bgt_]) (i_ 41 (sr_ [ns_ 4,bf_ 5] .ret) .skip)) (.dtl [v_ 42 6,v_ 43 0,v_ 44 7,o2 45 43 44 a1_,o1 46 45 ld,v_ 47 1,v_ 48 8,o2 49 47 48 a1_,o1 50 49 ld,o2 51 46 50 bad_] [k2 52 173 42 51,v_ 6 52]))) (.reg [v_ 30 8,i1_ 31 30,v_ 8 31]))))))) (.reg [v_ 24 7,i1_ 25 24,v_ 7 25])))))) (sr_ [v_ 53 6,v_ 4 53,bt_ 5] .ret))) .skip)) (sr_ [m_ 54 [k_ (.int .i64 2228223),k_ (.int .i64 2228223)] (.mkSlice 1 1 (.bool false)),v_ 9 54] (.seq (sr_ [z_ 10] (.block 4 (.loop (.seq (sr_ [v_ 55 10,v_ 56 0,o1 57 56 ln,o2 58 55 57 bls_] (ex_ 58 4)) (.seq (.block 5 (sr_ [z_ 11] (.block 6 (.loop (.seq (sr_ [v_ 61 11,v_ 62 1,o1 63 62 ln,o2 64 61 63 bls_] (ex_ 64 6)) (.seq (.block 7 (.seq (.seq (.dreg [v_ 67 0,v_ 68 10,o2 69 67 68 a1_,o1 70 69 ld,v_ 71 1,v_ 72 11,o2 73 71 72 a1_,o1 74 73 ld,o2 75 70 74 bad_,c2 76 75 (.int .i64 1114111) bgt_]) (i_ 76 (sr_ [ns_ 4,bf_ 5] .ret) .skip)) (.dtl [v_ 77 9,v_ 78 0,v_ 79 10,o2 80 78 79 a1_,o1 81 80 ld,v_ 82 1,v_ 83 11,o2 84 82 83 a1_,o1 85 84 ld,o2 86 81 85 bad_,c2 87 86 (.int .i64 1114111) bad_,o2 88 77 87 a1_] [h_ [s_ 88,k_ (.bool true)] st]))) (.reg [v_ 65 11,i1_ 66 65,v_ 11 66]))))))) (.reg [v_ 59 10,i1_ 60 59,v_ 10 60])))))) (sr_ [ns_ 12] (.seq (sr_ [z_ 13] (.block 8 (.loop (.seq (sr_ [v_ 89 13,v_ 90 9,o1 91 90 ln,o2 92 89 91 bls_] (ex_ 92 8)) (.seq (.block 9 (sr_ [v_ 95 9,v_ 96 13,o2 97 95 96 a1_,o1 98 97 ld] (i_ 98 (.reg [v_ 99 12,v_ 100 13,c2 101 100 (.int .i64 1114111) bsu_,o1 102 101 (.bslice 1 1 (.int .i64 0) [0]),o2 103 99 102 (.app 1 8 (.int .i64 0)),v_ 12 103]) .skip))) (.reg [v_ 93 13,i1_ 94 93,v_ 13 94])))))) (sr_ [v_ 104 12,v_ 4 104,bt_ 5] .ret)))))))
theorem Zp:As Tryz.prog 174 2=some ⟨105,2,[(.slot 4),(.slot 5)],Om⟩:=by kernel_rfl
def Me:AC:=(sr_ [ns_ 2] (sr_ [ns_ 3] (.seq (sr_ [z_ 4] (.block 0 (.loop (.seq (sr_ [v_ 6 4,v_ 7 0,o1 8 7 ln,o2 9 6 8 bls_] (ex_ 9 0)) (.seq (.block 1 (sr_ [v_ 12 3,o1 13 12 ln,v_ 5 13] (.seq (.dreg [v_ 14 5,c2 15 14 (.int .i64 0) bgt_,v_ 16 15,g1 17 16 3 .mv,g1 18 16 5 .mv,g_ 19 16 true [s_ 18,k_ (.int .i64 1)] bsu_,g2 20 16 17 19 a2_,g1 21 16 20 f1_,g1 22 16 21 ld,g1 23 16 0 .mv,g1 24 16 4 .mv,g2 25 16 23 24 a1_,g1 26 16 25 ld,g_ 27 16 true [s_ 26,k_ (.int .i64 1)] bsu_,g2 28 16 22 27 beq_,m_ 29 [s_ 16,s_ 28,k_ (.bool false)] .pick]) (i_ 29 (.reg [v_ 30 3,v_ 31 5,c2 32 31 (.int .i64 1) bsu_,v_ 33 0,v_ 34 4,o2 35 33 34 a1_,o1 36 35 ld,o2 37 30 32 a2_,o1 38 37 f1_,n2 38 36 st]) (.dtl [v_ 39 3,v_ 40 0,v_ 41 4,o2 42 40 41 a1_,o1 43 42 ld,v_ 44 0,v_ 45 4,o2 46 44 45 a1_,o1 47 46 ld,o2 48 43 47 (.build [(.int .i64 0),(.int .i64 0)] [(0,1),(1,1)] [0,1]),o1 49 48 (.bslice 2 1 (.agg [(.int .i64 0),(.int .i64 0)]) [0])] [o2 50 39 49 (.app 2 16 (.agg [(.int .i64 0),(.int .i64 0)])),v_ 3 50]))))) (.reg [v_ 10 4,i1_ 11 10,v_ 4 11])))))) (sr_ [v_ 51 3,v_ 2 51] .ret))))
theorem Wi:As Tryz.prog 175 1=some ⟨52,1,[(.slot 2)],Me⟩:=by kernel_rfl
def Qw:AC:=(sr_ [ns_ 2] (sr_ [v_ 10 0,o1 11 10 ln,m_ 12 [k_ (.int .i64 0),s_ 11] (.mkSlice 2 16 (.agg [(.int .i64 0),(.int .i64 0)])),v_ 3 12] (.seq (sr_ [v_ 13 0,o1 14 13 ln,z_ 15] (.block 0 (.loop (sr_ [o2 16 15 14 bls_] (.seq (ex_ 16 0) (.seq (.block 1 (sr_ [o2 17 13 15 a2_,o1 18 17 (.load true 2),o0 5 (.alloc (.agg [(.int .i64 0),(.int .i64 0)]) 2),n2 5 18 (.store 2)] (sr_ [o1 19 5 f0_,o1 20 19 ld,c2 21 20 (.int .i64 (-1073741824)) .max,o1 22 5 f1_,o1 23 22 ld,c2 24 23 (.int .i64 1073741824) .min,o1 25 5 f0_,n2 25 21 st,o1 26 5 f1_,n2 26 24 st] (sr_ [o1 27 5 f0_,o1 28 27 ld,o1 29 5 f1_,o1 30 29 ld,o2 31 28 30 ble_] (i_ 31 (.reg [v_ 32 3,o1 33 5 (.load true 2),o1 34 33 (.bslice 2 1 (.agg [(.int .i64 0),(.int .i64 0)]) [0]),o2 35 32 34 (.app 2 16 (.agg [(.int .i64 0),(.int .i64 0)])),v_ 3 35]) .skip))))) (.reg [i1_ 36 15,v_ 15 36]))))))) (sr_ [v_ 37 3,m_ 38 [k_ (.fn 190 []),s_ 37,k_ (.fn 191 [])] .call] (sr_ [v_ 39 3,c2 40 39 (.int .i64 0) (.slice 2 false true false),v_ 6 40] (.seq (sr_ [v_ 41 3,o1 42 41 ln,z_ 43] (.block 2 (.loop (sr_ [o2 44 43 42 bls_] (.seq (ex_ 44 2) (.seq (.block 3 (sr_ [o2 45 41 43 a2_,o1 46 45 (.load true 2),o0 8 (.alloc (.agg [(.int .i64 0),(.int .i64 0)]) 2),n2 8 46 (.store 2)] (.seq (sr_ [v_ 47 6,o1 48 47 ln,v_ 9 48] (.seq (.dreg [v_ 49 9,c2 50 49 (.int .i64 0) bgt_,v_ 51 50,g1 52 51 8 f0_,g1 53 51 52 ld,g1 54 51 6 .mv,g1 55 51 9 .mv,g_ 56 51 true [s_ 55,k_ (.int .i64 1)] bsu_,g2 57 51 54 56 a2_,g1 58 51 57 f1_,g1 59 51 58 ld,g_ 60 51 true [s_ 59,k_ (.int .i64 1)] bad_,g2 61 51 53 60 ble_,m_ 62 [s_ 51,s_ 61,k_ (.bool false)] .pick]) (i_ 62 (.seq (.dtl [v_ 63 6,v_ 64 9,c2 65 64 (.int .i64 1) bsu_,v_ 66 6,v_ 67 9,c2 68 67 (.int .i64 1) bsu_,o2 69 66 68 a2_,o1 70 69 f1_,o1 71 70 ld,o1 72 8 f1_,o1 73 72 ld,o2 74 71 73 .max,o2 75 63 65 a2_,o1 76 75 f1_] [n2 76 74 st]) (.exit 3)) .skip))) (.reg [v_ 77 6,o1 78 8 (.load true 2),o1 79 78 (.bslice 2 1 (.agg [(.int .i64 0),(.int .i64 0)]) [0]),o2 80 77 79 (.app 2 16 (.agg [(.int .i64 0),(.int .i64 0)])),v_ 6 80])))) (.reg [i1_ 81 43,v_ 43 81]))))))) (sr_ [v_ 82 6,v_ 2 82] .ret)))))))
theorem z2m:As Tryz.prog 181 1=some ⟨83,1,[(.slot 2)],Qw⟩:=by kernel_rfl
def Qy:AC:=(sr_ [ns_ 4] (sr_ [v_ 7 0,k1 8 181 7,v_ 9 1,k1 10 181 9,v_ 0 8,v_ 1 10] (sr_ [ns_ 5] (.seq (.block 0 (.loop (.seq (sr_ [v_ 11 0,o1 12 11 ln,c2 13 12 (.int .i64 0) bgt_,v_ 14 13,g1 15 14 1 .mv,g1 16 14 15 ln,g_ 17 14 true [s_ 16,k_ (.int .i64 0)] bgt_,m_ 18 [s_ 14,s_ 17,k_ (.bool false)] .pick] (ex_ 18 0)) (.block 1 (.seq (.greg [v_ 19 0,c2 20 19 (.int .i64 0) a2_,o1 21 20 f0_,o1 22 21 ld,v_ 23 1,c2 24 23 (.int .i64 0) a2_,o1 25 24 f0_,o1 26 25 ld,o2 27 22 26 .max,v_ 28 0,c2 29 28 (.int .i64 0) a2_,o1 30 29 f1_,o1 31 30 ld,v_ 32 1,c2 33 32 (.int .i64 0) a2_,o1 34 33 f1_,o1 35 34 ld,o2 36 31 35 .min,o2 37 27 36 (.build [(.int .i64 0),(.int .i64 0)] [(0,1),(1,1)] [0,1]),o0 6 (.alloc (.agg [(.int .i64 0),(.int .i64 0)]) 2),n2 6 37 (.store 2)]) (.seq (sr_ [o1 38 6 f0_,o1 39 38 ld,o1 40 6 f1_,o1 41 40 ld,o2 42 39 41 ble_] (i_ 42 (.reg [v_ 43 5,o1 44 6 (.load true 2),o1 45 44 (.bslice 2 1 (.agg [(.int .i64 0),(.int .i64 0)]) [0]),o2 46 43 45 (.app 2 16 (.agg [(.int .i64 0),(.int .i64 0)])),v_ 5 46]) .skip)) (.seq (.dreg [v_ 47 0,c2 48 47 (.int .i64 0) a2_,o1 49 48 f1_,o1 50 49 ld,v_ 51 1,c2 52 51 (.int .i64 0) a2_,o1 53 52 f1_,o1 54 53 ld,o2 55 50 54 bls_]) (i_ 55 (.reg [v_ 56 0,c2 57 56 (.int .i64 1) (.slice 2 true false false),v_ 0 57]) (.reg [v_ 58 1,c2 59 58 (.int .i64 1) (.slice 2 true false false),v_ 1 59]))))))))) (sr_ [v_ 60 5,v_ 4 60] .ret)))))
theorem z2n:As Tryz.prog 182 2=some ⟨61,2,[(.slot 4)],Qy⟩:=by kernel_rfl
def Kv:AC:=(sr_ [o1 1 0 .box,bf_ 2] (sr_ [o1 3 1 f0_,o1 4 3 ld,k1 5 193 4,v_ 6 5,g1 7 6 1 f4_,g1 8 6 7 ld,g_ 9 6 true [k_ (.fn 193 []),s_ 8] .call,m_ 10 [s_ 6,s_ 9,k_ (.bool false)] .pick,v_ 11 10,g1 12 11 1 l6,g_ 13 11 true [k_ (.fn 137 []),s_ 12] .call,g_ 14 11 true [k_ (.fn 135 []),s_ 13,k_ (.int .i64 1)] .call,m_ 15 [s_ 11,s_ 14,k_ (.bool false)] .pick,v_ 16 15,g1 17 16 1 f5_,g1 18 16 17 ld,g_ 19 16 true [k_ (.fn 194 []),s_ 18] .call,m_ 20 [s_ 16,s_ 19,k_ (.bool false)] .pick,v_ 2 20] .ret))
theorem Sz:As Tryz.prog 183 1=some ⟨21,1,[(.slot 2)],Kv⟩:=by kernel_rfl
def On:AC:=(sr_ [o1 1 0 .box,bf_ 2] (sr_ [o1 3 1 f0_,o1 4 3 ld,c2 5 4 (.int .i64 0) beq_,v_ 6 5,g1 7 6 1 l6,g_ 8 6 true [k_ (.fn 137 []),s_ 7] .call,g_ 9 6 true [k_ (.fn 113 []),k_ (.int .i64 0)] .call,g2 10 6 8 9 (.eqs false [1,1,1,1]),m_ 11 [s_ 6,s_ 10,k_ (.bool false)] .pick,v_ 2 11] .ret))
theorem Zq:As Tryz.prog 184 1=some ⟨12,1,[(.slot 2)],On⟩:=by kernel_rfl
def Oo:AC:=(sr_ [o1 2 0 .box,ns_ 4,bf_ 5] (.seq (sr_ [v_ 12 1,o1 13 12 ln,c2 14 13 (.int .i64 4) bgt_,v_ 15 14,g_ 16 15 false [s_ 2] l6,g_ 17 15 false [k_ (.fn 183 []),s_ 16] .call,g_ 18 15 false [s_ 17] nt,m_ 19 [s_ 15,k_ (.bool true),s_ 18] .pick] (i_ 19 (sr_ [ns_ 4,bf_ 5] .ret) .skip)) (sr_ [bt_ 6] (sr_ [v_ 20 1,o1 21 20 ln,o2 22 21 21 (.mkSlice 1 24 .nilS),v_ 7 22] (.seq (sr_ [v_ 23 1,o1 24 23 ln,z_ 25] (.block 0 (.loop (sr_ [o2 26 25 24 bls_] (.seq (ex_ 26 0) (.seq (.block 1 (sr_ [v_ 27 25,o2 28 23 25 a1_,o1 29 28 ld,v_ 8 27,v_ 9 29] (sr_ [v_ 30 7,v_ 31 8,v_ 32 9,k0 33 195,k2 34 182 32 33,o2 35 30 31 a1_,n2 35 34 st] (.reg [v_ 36 6,v_ 37 36,g1 38 37 7 .mv,g1 39 37 8 .mv,g2 40 37 38 39 a1_,g1 41 37 40 ld,g1 42 37 41 ln,g_ 43 37 true [s_ 42,k_ (.int .i64 0)] bgt_,m_ 44 [s_ 37,s_ 43,k_ (.bool false)] .pick,v_ 6 44])))) (.reg [i1_ 45 25,v_ 25 45]))))))) (.seq (sr_ [o1 46 2 f5_,o1 47 46 ld,o1 48 47 ln,z_ 49] (.block 2 (.loop (sr_ [o2 50 49 48 bls_] (.seq (ex_ 50 2) (.seq (.block 3 (sr_ [o2 51 47 49 a4_,o1 52 51 (.load true 4),o0 11 (.alloc (.agg [(.int .i64 0),(.int .i64 0),(.int .i64 0),(.int .i64 0)]) 4),n2 11 52 (.store 4)] (sr_ [o1 53 11 (.load true 4),v_ 54 1,o1 55 54 ln,k2 56 135 53 55,o1 57 56 nt] (i_ 57 (sr_ [ns_ 4,bf_ 5] .ret) .skip)))) (.reg [i1_ 58 49,v_ 49 58]))))))) (.seq (sr_ [v_ 59 6,o1 60 59 nt] (i_ 60 (sr_ [ns_ 4,bt_ 5] .ret) .skip)) (sr_ [o1 61 2 l6,v_ 62 7,k2 63 196 61 62,o1 64 63 (.extract 0),o1 65 63 (.extract 1),v_ 4 64,v_ 5 65] .ret))))))))
theorem Zr:As Tryz.prog 185 2=some ⟨66,2,[(.slot 4),(.slot 5)],Oo⟩:=by kernel_rfl
def Qz:AC:=(sr_ [ns_ 4] (.seq (sr_ [v_ 7 1,c2 8 7 (.int .i64 (-2147483648)) bls_,v_ 9 8,g_ 10 9 false [s_ 1] .mv,g_ 11 9 false [s_ 10,k_ (.int .i64 2147483648)] bgt_,m_ 12 [s_ 9,k_ (.bool true),s_ 11] .pick] (i_ 12 (sr_ [ns_ 4] .ret) .skip)) (sr_ [v_ 13 0,k1 14 181 13,v_ 5 14] (.seq (sr_ [v_ 15 5,o1 16 15 ln,z_ 17] (.block 0 (.loop (sr_ [o2 18 17 16 bls_] (.seq (ex_ 18 0) (.seq (.block 1 (sr_ [v_ 19 17,v_ 6 19] (sr_ [v_ 20 5,v_ 21 6,o2 22 20 21 a2_,o1 23 22 f0_,o1 24 23 ld,v_ 25 1,o2 26 24 25 bad_,o2 27 20 21 a2_,o1 28 27 f0_,n2 28 26 st] (.reg [v_ 29 5,v_ 30 6,o2 31 29 30 a2_,o1 32 31 f1_,o1 33 32 ld,v_ 34 1,o2 35 33 34 bad_,o2 36 29 30 a2_,o1 37 36 f1_,n2 37 35 st])))) (.reg [i1_ 38 17,v_ 17 38]))))))) (sr_ [v_ 39 5,k1 40 181 39,v_ 4 40] .ret)))))
theorem z2o:As Tryz.prog 186 2=some ⟨41,2,[(.slot 4)],Qz⟩:=by kernel_rfl
def I2:AC:=(sr_ [o1 2 0 .box,ns_ 4] (.seq (sr_ [o1 13 2 (.load true 4),k1 14 153 13,o1 15 14 nt] (i_ 15 (sr_ [ns_ 4] .ret) .skip)) (sr_ [o1 16 2 f2_,o1 17 16 ld,m_ 18 [k_ (.int .i64 1),s_ 17] (.bin .shl),c2 19 18 (.int .i64 1) bsu_,v_ 5 19] (sr_ [ns_ 6] (.seq (sr_ [v_ 20 1,m_ 21 [k_ (.int .i64 0),k_ (.int .i64 2097151)] (.build [(.int .i64 0),(.int .i64 0)] [(0,1),(1,1)] [0,1]),o1 22 21 (.bslice 2 1 (.agg [(.int .i64 0),(.int .i64 0)]) [0]),k2 23 182 20 22,o1 24 23 ln,z_ 25] (.block 0 (.loop (sr_ [o2 26 25 24 bls_] (.seq (ex_ 26 0) (.seq (.block 1 (sr_ [o2 27 23 25 a2_,o1 28 27 (.load true 2),o0 8 (.alloc (.agg [(.int .i64 0),(.int .i64 0)]) 2),n2 8 28 (.store 2)] (.seq (.dreg [o1 29 8 f0_,o1 30 29 ld,o1 31 2 f1_,o1 32 31 ld,o2 33 30 32 (.bin .shr),o1 34 8 f1_,o1 35 34 ld,o1 36 2 f1_,o1 37 36 ld,o2 38 35 37 (.bin .shr),v_ 9 33,v_ 10 38]) (.seq (sr_ [v_ 39 10,v_ 40 9,o2 41 39 40 bsu_,v_ 42 5,o2 43 41 42 bge_] (i_ 43 (sr_ [v_ 44 5,m_ 45 [k_ (.int .i64 0),s_ 44] (.build [(.int .i64 0),(.int .i64 0)] [(0,1),(1,1)] [0,1]),o1 46 45 (.bslice 2 1 (.agg [(.int .i64 0),(.int .i64 0)]) [0]),v_ 6 46] (.exit 0)) .skip)) (sr_ [v_ 47 9,v_ 48 5,o2 49 47 48 (.bin .and),v_ 50 10,v_ 51 5,o2 52 50 51 (.bin .and),o2 53 49 52 ble_] (i_ 53 (.reg [v_ 54 6,v_ 55 9,v_ 56 5,o2 57 55 56 (.bin .and),v_ 58 10,v_ 59 5,o2 60 58 59 (.bin .and),o2 61 57 60 (.build [(.int .i64 0),(.int .i64 0)] [(0,1),(1,1)] [0,1]),o1 62 61 (.bslice 2 1 (.agg [(.int .i64 0),(.int .i64 0)]) [0]),o2 63 54 62 (.app 2 16 (.agg [(.int .i64 0),(.int .i64 0)])),v_ 6 63]) (.reg [v_ 64 6,v_ 65 10,v_ 66 5,o2 67 65 66 (.bin .and),m_ 68 [k_ (.int .i64 0),s_ 67] (.build [(.int .i64 0),(.int .i64 0)] [(0,1),(1,1)] [0,1]),v_ 69 9,v_ 70 5,o2 71 69 70 (.bin .and),v_ 72 5,o2 73 71 72 (.build [(.int .i64 0),(.int .i64 0)] [(0,1),(1,1)] [0,1]),o2 74 68 73 (.bslice 2 2 (.agg [(.int .i64 0),(.int .i64 0)]) [0,1]),o2 75 64 74 (.app 2 16 (.agg [(.int .i64 0),(.int .i64 0)])),v_ 6 75]))))))) (.reg [i1_ 76 25,v_ 25 76]))))))) (sr_ [v_ 77 6,k1 78 181 77,v_ 6 78] (.seq (sr_ [o1 79 2 f3_,o1 80 79 ld,c2 81 80 (.int .i64 0) beq_] (i_ 81 (sr_ [v_ 82 6,v_ 4 82] .ret) .skip)) (sr_ [o0 11 (.alloc .nilS 1)] (.seq (sr_ [v_ 83 6,k1 84 197 83] (.block 2 (.rng (.slot 84) [85] (.reg [v_ 12 85]) (.block 3 (.dtl [o1 86 11 ld,v_ 87 12,o1 88 2 f3_,o1 89 88 ld,o2 90 87 89 (.bin .shl),v_ 91 12,o1 92 2 f3_,o1 93 92 ld,o2 94 91 93 (.bin .shl),o2 95 90 94 (.build [(.int .i64 0),(.int .i64 0)] [(0,1),(1,1)] [0,1]),o1 96 95 (.bslice 2 1 (.agg [(.int .i64 0),(.int .i64 0)]) [0])] [o2 97 86 96 (.app 2 16 (.agg [(.int .i64 0),(.int .i64 0)])),n2 11 97 st]))))) (sr_ [o1 98 11 ld,k1 99 181 98,v_ 4 99] .ret))))))))))
theorem Oq:As Tryz.prog 187 2=some ⟨100,2,[(.slot 4)],I2⟩:=by kernel_rfl
def Mf:AC:=(sr_ [bf_ 2] (sr_ [v_ 3 0,m_ 4 [k_ (.int .i64 (-1114111)),s_ 3] ble_,v_ 5 4,g1 6 5 0 .mv,g_ 7 5 true [s_ 6,k_ (.int .i64 1114111)] ble_,m_ 8 [s_ 5,s_ 7,k_ (.bool false)] .pick,v_ 2 8] .ret))
theorem Wj:As Tryz.prog 188 1=some ⟨9,1,[(.slot 2)],Mf⟩:=by kernel_rfl
def Cv:AC:=(sr_ [v_ 5 0,o1 6 5 ln,v_ 4 6] (.reg [v_ 7 0,v_ 8 4,v_ 9 4,o1 10 9 (.conv .u64),k1 11 139 10,v_ 12 1,m_ 13 [k_ (.fn 198 []),s_ 7,k_ (.int .i64 0),s_ 8,s_ 11,s_ 12] .call]))
theorem Eu:As Tryz.prog 190 2=some ⟨14,2,[],Cv⟩:=by kernel_rfl
def Or:AC:=(sr_ [bf_ 2] (sr_ [v_ 3 0,c2 4 3 (.int .i64 (-1114111)) bge_,v_ 5 4,g1 6 5 0 .mv,g_ 7 5 true [s_ 6,k_ (.int .i64 1114111)] ble_,m_ 8 [s_ 5,s_ 7,k_ (.bool false)] .pick,v_ 2 8] .ret))
theorem Zs:As Tryz.prog 193 1=some ⟨9,1,[(.slot 2)],Or⟩:=by kernel_rfl
def Mg:AC:=(sr_ [bf_ 2] (.seq (sr_ [v_ 5 0,o1 6 5 ln,z_ 7] (.block 0 (.loop (sr_ [o2 8 7 6 bls_] (.seq (ex_ 8 0) (.seq (.block 1 (sr_ [v_ 9 7,o2 10 5 7 a4_,o1 11 10 (.load true 4),o0 4 (.alloc (.agg [(.int .i64 0),(.int .i64 0),(.int .i64 0),(.int .i64 0)]) 4),v_ 3 9,n2 4 11 (.store 4)] (.seq (.dreg [v_ 12 3,c2 13 12 (.int .i64 0) bgt_,v_ 14 13,g1 15 14 4 f3_,g1 16 14 15 ld,g1 17 14 0 .mv,g1 18 14 3 .mv,g_ 19 14 true [s_ 18,k_ (.int .i64 1)] bsu_,g2 20 14 17 19 a4_,g1 21 14 20 f3_,g1 22 14 21 ld,g2 23 14 16 22 ble_,m_ 24 [s_ 14,s_ 23,k_ (.bool false)] .pick]) (i_ 24 (sr_ [bf_ 2] .ret) .skip)))) (.reg [i1_ 25 7,v_ 7 25]))))))) (sr_ [v_ 26 0,o1 27 26 ln,c2 28 27 (.int .i64 4) ble_,v_ 2 28] .ret)))
theorem Wl:As Tryz.prog 194 1=some ⟨29,1,[(.slot 2)],Mg⟩:=by kernel_rfl
def Kw:AC:=(sr_ [ns_ 0] (sr_ [m_ 1 [k_ (.int .i64 0),k_ (.int .i64 1114111)] (.build [(.int .i64 0),(.int .i64 0)] [(0,1),(1,1)] [0,1]),o1 2 1 (.bslice 2 1 (.agg [(.int .i64 0),(.int .i64 0)]) [0]),v_ 0 2] .ret))
theorem S6:As Tryz.prog 195 0=some ⟨3,0,[(.slot 0)],Kw⟩:=by kernel_rfl
def A6:AC:=(sr_ [o1 2 0 .box,ns_ 4,bf_ 5] (sr_ [o0 17 .mkMap,v_ 6 17] (sr_ [ns_ 7] (.seq (sr_ [o1 18 2 f5_,o1 19 18 ld,o1 20 19 ln,z_ 21] (.block 0 (.loop (sr_ [o2 22 21 20 bls_] (.seq (ex_ 22 0) (.seq (.block 1 (sr_ [o2 23 19 21 a4_,o1 24 23 (.load true 4),o0 9 (.alloc (.agg [(.int .i64 0),(.int .i64 0),(.int .i64 0),(.int .i64 0)]) 4),n2 9 24 (.store 4)] (.seq (sr_ [v_ 25 6,o1 26 9 f0_,o1 27 26 ld,o2 28 25 27 (.mapGet .nilS),o1 29 28 ln,c2 30 29 (.int .i64 0) beq_] (i_ 30 (.reg [v_ 31 7,o1 32 9 f0_,o1 33 32 ld,o1 34 33 (.bslice 1 1 (.int .i64 0) [0]),o2 35 31 34 (.app 1 8 (.int .i64 0)),v_ 7 35]) .skip)) (.grx [false,true,true,false,true,true,false,true,false,false,false] [m_ 36 [s_ 6] .mv,m_ 37 [s_ 9] f0_,m_ 38 [s_ 37] ld,m_ 39 [s_ 6] .mv,m_ 40 [s_ 9] f0_,m_ 41 [s_ 40] ld,m_ 42 [s_ 39,s_ 41] (.mapGet .nilS),m_ 43 [s_ 9] (.load true 4),m_ 44 [s_ 43] (.bslice 4 1 (.agg [(.int .i64 0),(.int .i64 0),(.int .i64 0),(.int .i64 0)]) [0]),m_ 45 [s_ 42,s_ 44] (.app 4 32 (.agg [(.int .i64 0),(.int .i64 0),(.int .i64 0),(.int .i64 0)])),h_ [s_ 36,s_ 38,s_ 45] .mapSet])))) (.reg [i1_ 46 21,v_ 21 46]))))))) (sr_ [o1 47 2 f4_,o1 48 47 ld,o1 49 2 f4_,o1 50 49 ld,o2 51 48 50 (.build [(.int .i64 0),(.int .i64 0)] [(0,1),(1,1)] [0,1]),o1 52 51 (.bslice 2 1 (.agg [(.int .i64 0),(.int .i64 0)]) [0]),v_ 10 52] (.seq (sr_ [v_ 53 7,o1 54 53 ln,z_ 55] (.block 2 (.loop (sr_ [o2 56 55 54 bls_] (.seq (ex_ 56 2) (.seq (.block 3 (sr_ [o2 57 53 55 a1_,o1 58 57 ld,v_ 12 58] (.dtl [v_ 59 10,v_ 60 6,v_ 61 12,o2 62 60 61 (.mapGet .nilS),v_ 63 1,v_ 64 12,o2 65 63 64 a1_,o1 66 65 ld,k2 67 201 62 66] [k2 68 200 59 67,v_ 10 68]))) (.reg [i1_ 69 55,v_ 55 69]))))))) (sr_ [v_ 71 10,k1 72 202 71,v_ 70 72,o1 73 70 (.extract 0),o1 74 70 (.extract 1),v_ 13 73,v_ 14 74] (sr_ [v_ 76 10,k1 77 203 76,v_ 75 77,o1 78 75 (.extract 0),o1 79 75 (.extract 1),v_ 15 78,v_ 16 79] (sr_ [v_ 80 10,v_ 81 10,o1 82 81 ln,c2 83 82 (.int .i64 0) bgt_,v_ 84 83,g1 85 84 13 .mv,g_ 86 84 true [s_ 85,k_ (.int .i64 0)] bge_,m_ 87 [s_ 84,s_ 86,k_ (.bool false)] .pick,v_ 88 87,g1 89 88 15 .mv,g_ 90 88 true [s_ 89,k_ (.int .i64 1114111)] ble_,m_ 91 [s_ 88,s_ 90,k_ (.bool false)] .pick,v_ 4 80,v_ 5 91] .ret)))))))))
theorem Ba:As Tryz.prog 196 2=some ⟨92,2,[(.slot 4),(.slot 5)],A6⟩:=by kernel_rfl
def Q0:AC:=(sr_ [c1 2 .nilF .mv] (sr_ [v_ 4 0,k1 5 181 4,o0 3 (.alloc .nilS 1),n2 3 5 st] (sr_ [o1 6 3 (.mkFunc 204),v_ 2 6] .ret)))
theorem z2p:As Tryz.prog 197 1=some ⟨7,1,[(.slot 2)],Q0⟩:=by kernel_rfl
def C7:AC:=(sr_ [bt_ 10] (sr_ [bt_ 11] (.block 0 (.loop (.block 1 (sr_ [v_ 21 2,v_ 22 1,o2 23 21 22 bsu_,v_ 12 23] (.seq (sr_ [v_ 24 12,c2 25 24 (.int .i64 12) ble_] (i_ 25 (sr_ [v_ 26 0,v_ 27 1,v_ 28 2,v_ 29 4,m_ 30 [k_ (.fn 205 []),s_ 26,s_ 27,s_ 28,s_ 29] .call] .ret) .skip)) (.seq (sr_ [v_ 31 3,c2 32 31 (.int .i64 0) beq_] (i_ 32 (sr_ [v_ 33 0,v_ 34 1,v_ 35 2,v_ 36 4,m_ 37 [k_ (.fn 206 []),s_ 33,s_ 34,s_ 35,s_ 36] .call] .ret) .skip)) (.seq (sr_ [v_ 38 10,o1 39 38 nt] (i_ 39 (sr_ [v_ 40 0,v_ 41 1,v_ 42 2,v_ 43 4,m_ 44 [k_ (.fn 207 []),s_ 40,s_ 41,s_ 42,s_ 43] .call] (.reg [v_ 45 3,c2 46 45 (.int .i64 1) bsu_,v_ 3 46])) .skip)) (sr_ [v_ 48 0,v_ 49 1,v_ 50 2,v_ 51 4,m_ 52 [k_ (.fn 208 []),s_ 48,s_ 49,s_ 50,s_ 51] .call,v_ 47 52,o1 53 47 (.extract 0),o1 54 47 (.extract 1),v_ 13 53,v_ 14 54] (.seq (sr_ [v_ 55 14,c2 56 55 (.int .i64 2) beq_] (i_ 56 (sr_ [v_ 57 0,v_ 58 1,v_ 59 2,v_ 60 4,m_ 61 [k_ (.fn 209 []),s_ 57,s_ 58,s_ 59,s_ 60] .call] (sr_ [v_ 62 2,c2 63 62 (.int .i64 1) bsu_,v_ 64 13,v_ 65 1,o2 66 64 65 bsu_,o2 67 63 66 bsu_,v_ 13 67] (.reg [c1 14 (.int .i64 1) .mv]))) .skip)) (.seq (sr_ [v_ 68 10,v_ 69 68,g1 70 69 11 .mv,m_ 71 [s_ 69,s_ 70,k_ (.bool false)] .pick,v_ 72 71,g1 73 72 14 .mv,g_ 74 72 true [s_ 73,k_ (.int .i64 1)] beq_,m_ 75 [s_ 72,s_ 74,k_ (.bool false)] .pick] (i_ 75 (sr_ [v_ 76 0,v_ 77 1,v_ 78 2,v_ 79 4,m_ 80 [k_ (.fn 210 []),s_ 76,s_ 77,s_ 78,s_ 79] .call] (i_ 80 .ret .skip)) .skip)) (.seq (.seq (.dtl [v_ 81 1,c2 82 81 (.int .i64 0) bgt_,v_ 83 82,g1 84 83 4 .mv,g1 85 83 0 .mv,g1 86 83 1 .mv,g_ 87 83 true [s_ 86,k_ (.int .i64 1)] bsu_,g2 88 83 85 87 a2_,g1 89 83 88 (.load true 2),g1 90 83 0 .mv,g1 91 83 13 .mv,g2 92 83 90 91 a2_,g1 93 83 92 (.load true 2)] [g_ 94 83 true [s_ 84,s_ 89,s_ 93] .call,g_ 95 83 true [s_ 94,k_ (.int .i64 0)] bls_,g1 96 83 95 nt,m_ 97 [s_ 83,s_ 96,k_ (.bool false)] .pick]) (i_ 97 (sr_ [v_ 98 0,v_ 99 1,v_ 100 2,v_ 101 13,v_ 102 4,m_ 103 [k_ (.fn 211 []),s_ 98,s_ 99,s_ 100,s_ 101,s_ 102] .call,v_ 15 103] (sr_ [v_ 104 15,v_ 1 104] (.exit 1))) .skip)) (sr_ [v_ 106 0,v_ 107 1,v_ 108 2,v_ 109 13,v_ 110 4,m_ 111 [k_ (.fn 212 []),s_ 106,s_ 107,s_ 108,s_ 109,s_ 110] .call,v_ 105 111,o1 112 105 (.extract 0),o1 113 105 (.extract 1),v_ 16 112,v_ 17 113] (sr_ [v_ 114 17,v_ 11 114] (sr_ [v_ 115 16,v_ 116 1,o2 117 115 116 bsu_,v_ 118 2,v_ 119 16,o2 120 118 119 bsu_,v_ 18 117,v_ 19 120] (sr_ [v_ 121 12,c2 122 121 (.int .i64 8) (.bin .quo),v_ 20 122] (sr_ [v_ 123 18,v_ 124 19,o2 125 123 124 bls_] (i_ 125 (sr_ [v_ 126 18,v_ 127 20,o2 128 126 127 bge_,v_ 10 128] (sr_ [v_ 129 0,v_ 130 1,v_ 131 16,v_ 132 3,v_ 133 4,m_ 134 [k_ (.fn 198 []),s_ 129,s_ 130,s_ 131,s_ 132,s_ 133] .call] (.reg [v_ 135 16,i1_ 136 135,v_ 1 136]))) (sr_ [v_ 137 19,v_ 138 20,o2 139 137 138 bge_,v_ 10 139] (sr_ [v_ 140 0,v_ 141 16,i1_ 142 141,v_ 143 2,v_ 144 3,v_ 145 4,m_ 146 [k_ (.fn 198 []),s_ 140,s_ 142,s_ 143,s_ 144,s_ 145] .call] (.reg [v_ 147 16,v_ 2 147]))))))))))))))))))))))
theorem E7:As Tryz.prog 198 5=some ⟨148,5,[],C7⟩:=by kernel_rfl
def Q1:AC:=(sr_ [ns_ 4] (sr_ [ns_ 5] (.seq (sr_ [v_ 10 0,o1 11 10 ln,z_ 12] (.block 0 (.loop (sr_ [o2 13 12 11 bls_] (.seq (ex_ 13 0) (.seq (.block 1 (sr_ [o2 14 10 12 a2_,o1 15 14 (.load true 2),o0 7 (.alloc (.agg [(.int .i64 0),(.int .i64 0)]) 2),n2 7 15 (.store 2)] (.seq (sr_ [v_ 16 1,o1 17 16 ln,z_ 18] (.block 2 (.loop (sr_ [o2 19 18 17 bls_] (.seq (ex_ 19 2) (.seq (.block 3 (sr_ [o2 20 16 18 a2_,o1 21 20 (.load true 2),o0 9 (.alloc (.agg [(.int .i64 0),(.int .i64 0)]) 2),n2 9 21 (.store 2)] (.reg [v_ 22 5,o1 23 7 f0_,o1 24 23 ld,o1 25 9 f0_,o1 26 25 ld,o2 27 24 26 bad_,o1 28 7 f1_,o1 29 28 ld,o1 30 9 f1_,o1 31 30 ld,o2 32 29 31 bad_,o2 33 27 32 (.build [(.int .i64 0),(.int .i64 0)] [(0,1),(1,1)] [0,1]),o1 34 33 (.bslice 2 1 (.agg [(.int .i64 0),(.int .i64 0)]) [0]),o2 35 22 34 (.app 2 16 (.agg [(.int .i64 0),(.int .i64 0)])),v_ 5 35]))) (.reg [i1_ 36 18,v_ 18 36]))))))) (sr_ [v_ 37 5,o1 38 37 ln,c2 39 38 (.int .i64 65536) bgt_] (i_ 39 (.reg [v_ 40 5,k1 41 181 40,v_ 5 41]) .skip))))) (.reg [i1_ 42 12,v_ 12 42]))))))) (sr_ [v_ 43 5,k1 44 181 43,v_ 4 44] .ret))))
theorem z2q:As Tryz.prog 200 2=some ⟨45,2,[(.slot 4)],Q1⟩:=by kernel_rfl
def I3:AC:=(sr_ [o1 2 0 .box,ns_ 4] (.seq (sr_ [o1 13 2 ld,o1 14 13 ln,c2 15 14 (.int .i64 1) beq_] (i_ 15 (sr_ [o1 16 2 ld,c2 17 16 (.int .i64 0) a4_,o1 18 17 (.load true 4),v_ 19 1,k2 20 187 18 19,v_ 4 20] .ret) .skip)) (sr_ [o0 5 (.alloc .nilS 1)] (.seq (sr_ [v_ 21 1,k1 22 197 21] (.block 0 (.rng (.slot 22) [23] (.reg [v_ 6 23]) (.block 1 (sr_ [z_ 7] (.seq (sr_ [o1 24 2 ld,o1 25 24 ln,z_ 26] (.block 2 (.loop (sr_ [o2 27 26 25 bls_] (.seq (ex_ 27 2) (.seq (.block 3 (sr_ [o2 28 24 26 a4_,o1 29 28 (.load true 4),o0 9 (.alloc (.agg [(.int .i64 0),(.int .i64 0),(.int .i64 0),(.int .i64 0)]) 4),n2 9 29 (.store 4)] (sr_ [o1 31 9 (.load true 4),v_ 32 6,k2 33 136 31 32,v_ 30 33,o1 34 30 (.extract 0),o1 35 30 (.extract 1),v_ 10 34,v_ 11 35] (.reg [v_ 36 7,v_ 37 10,o2 38 36 37 bad_,v_ 7 38])))) (.reg [i1_ 39 26,v_ 26 39]))))))) (sr_ [o1 40 5 ld,o1 41 40 ln,v_ 12 41] (sr_ [v_ 42 12,c2 43 42 (.int .i64 0) bgt_,v_ 44 43,g1 45 44 5 ld,g1 46 44 12 .mv,g_ 47 44 true [s_ 46,k_ (.int .i64 1)] bsu_,g2 48 44 45 47 a2_,g1 49 44 48 f1_,g1 50 44 49 ld,g1 51 44 7 .mv,g_ 52 44 true [s_ 51,k_ (.int .i64 1)] bsu_,g2 53 44 50 52 beq_,m_ 54 [s_ 44,s_ 53,k_ (.bool false)] .pick] (i_ 54 (.reg [o1 55 5 ld,v_ 56 12,c2 57 56 (.int .i64 1) bsu_,v_ 58 7,o2 59 55 57 a2_,o1 60 59 f1_,n2 60 58 st]) (.reg [o1 61 5 ld,v_ 62 7,v_ 63 7,o2 64 62 63 (.build [(.int .i64 0),(.int .i64 0)] [(0,1),(1,1)] [0,1]),o1 65 64 (.bslice 2 1 (.agg [(.int .i64 0),(.int .i64 0)]) [0]),o2 66 61 65 (.app 2 16 (.agg [(.int .i64 0),(.int .i64 0)])),n2 5 66 st])))))))))) (sr_ [o1 67 5 ld,k1 68 181 67,v_ 4 68] .ret)))))
theorem Q2:As Tryz.prog 201 2=some ⟨69,2,[(.slot 4)],I3⟩:=by kernel_rfl
def Ot:AC:=(sr_ [z_ 2,bf_ 3] (sr_ [v_ 5 0,k1 6 181 5,v_ 4 6] (.seq (sr_ [v_ 7 4,o1 8 7 ln,c2 9 8 (.int .i64 0) beq_] (i_ 9 (sr_ [z_ 2,bf_ 3] .ret) .skip)) (sr_ [v_ 10 4,c2 11 10 (.int .i64 0) a2_,o1 12 11 f0_,o1 13 12 ld,v_ 2 13,bt_ 3] .ret))))
theorem Zt:As Tryz.prog 202 1=some ⟨14,1,[(.slot 2),(.slot 3)],Ot⟩:=by kernel_rfl
def Q3:AC:=(sr_ [z_ 2,bf_ 3] (sr_ [v_ 5 0,k1 6 181 5,v_ 4 6] (.seq (sr_ [v_ 7 4,o1 8 7 ln,c2 9 8 (.int .i64 0) beq_] (i_ 9 (sr_ [z_ 2,bf_ 3] .ret) .skip)) (sr_ [v_ 10 4,v_ 11 4,o1 12 11 ln,c2 13 12 (.int .i64 1) bsu_,o2 14 10 13 a2_,o1 15 14 f1_,o1 16 15 ld,v_ 2 16,bt_ 3] .ret))))
theorem z2r:As Tryz.prog 203 1=some ⟨17,1,[(.slot 2),(.slot 3)],Q3⟩:=by kernel_rfl
def Hx:AC:=(sr_ [o1 6 1 ld,o1 7 6 ln,z_ 8] (.block 0 (.loop (sr_ [o2 9 8 7 bls_] (.seq (ex_ 9 0) (.seq (.block 1 (sr_ [o2 10 6 8 a2_,o1 11 10 (.load true 2),o0 4 (.alloc (.agg [(.int .i64 0),(.int .i64 0)]) 2),n2 4 11 (.store 2)] (sr_ [o1 12 4 f0_,o1 13 12 ld,v_ 5 13] (.block 2 (.loop (.seq (sr_ [v_ 14 5,o1 15 4 f1_,o1 16 15 ld,o2 17 14 16 ble_] (ex_ 17 2)) (.seq (.block 3 (sr_ [v_ 20 0,v_ 21 5,o2 22 20 21 .call,o1 23 22 nt] (i_ 23 .ret .skip))) (.reg [v_ 18 5,i1_ 19 18,v_ 5 19])))))))) (.reg [i1_ 24 8,v_ 8 24])))))))
theorem Wm:As Tryz.prog 204 2=some ⟨25,2,[],Hx⟩:=by kernel_rfl
def Cp:AC:=(sr_ [v_ 10 1,i1_ 11 10,v_ 8 11] (.block 0 (.loop (.seq (sr_ [v_ 12 8,v_ 13 2,o2 14 12 13 bls_] (ex_ 14 0)) (.seq (.block 1 (sr_ [v_ 17 8,v_ 9 17] (.block 2 (.loop (.seq (.seq (.dtl [v_ 18 9,v_ 19 1,o2 20 18 19 bgt_,v_ 21 20,g1 22 21 3 .mv,g1 23 21 0 .mv,g1 24 21 9 .mv,g2 25 21 23 24 a2_,g1 26 21 25 (.load true 2),g1 27 21 0 .mv,g1 28 21 9 .mv,g_ 29 21 true [s_ 28,k_ (.int .i64 1)] bsu_,g2 30 21 27 29 a2_,g1 31 21 30 (.load true 2)] [g_ 32 21 true [s_ 22,s_ 26,s_ 31] .call,g_ 33 21 true [s_ 32,k_ (.int .i64 0)] bls_,m_ 34 [s_ 21,s_ 33,k_ (.bool false)] .pick]) (ex_ 34 2)) (.seq (.block 3 (.greg [v_ 37 0,v_ 38 9,v_ 39 0,v_ 40 9,c2 41 40 (.int .i64 1) bsu_,v_ 42 0,v_ 43 9,c2 44 43 (.int .i64 1) bsu_,o2 45 42 44 a2_,o1 46 45 (.load true 2),v_ 47 0,v_ 48 9,o2 49 47 48 a2_,o1 50 49 (.load true 2),o2 51 37 38 a2_,n2 51 46 (.store 2),o2 52 39 41 a2_,n2 52 50 (.store 2)])) (.reg [v_ 35 9,c2 36 35 (.int .i64 1) bsu_,v_ 9 36]))))))) (.reg [v_ 15 8,i1_ 16 15,v_ 8 16]))))))
theorem Ec:As Tryz.prog 205 4=some ⟨53,4,[],Cp⟩:=by kernel_rfl
end Go.Proofs.YtbcjoeadpjfcfaaGreat
set_option linter.unusedSimpArgs false
set_option linter.unusedVariables false
namespace Go.Proofs.YtbcjoeadpjfcfaaGreat
open Abs
theorem J0 {P:Program} {f m np b:Nat} {xs:List AV} {l:List Grp} {K:AV→Ac→Prop} {res:List ARes} {B:AC} (hf:As P f xs.length=some ⟨m,np,res,B⟩) (hb:b=l.length) (h:W P m b B (entry xs) (Abs.hl l) (Ret P res K)):Bi P f xs (Abs.hl l) K:=by
 subst hb;exact z59 hf (W_T h)
theorem zou (l:List Span):Bi Tryz.prog 205 [.ref 0 1 0 0,.int .i64 0,.int .i64 0,.fn 191 []] (Abs.hl [⟨2,1,true,l.map Bw⟩]) fun y H'=>y=.tup []∧H'=Abs.hl [⟨2,1,true,l.map Bw⟩]:=by
 refine J0 (b:=1) Ec rfl ?_;unfold Cp;(with_reducible repeat' (first|(simp(disch:=omega)only[push_cast,↓zz,seval])|refine And.intro ?_ ?_|(first|refine Ab ?_ ?_|refine Aa ?_ ?_)<;>intro hc<;>(try simp only[push_cast] at hc)|omega|intro _))
 refine An (Ap (fun (_:Unit)=>True) (fun _=>0) (fun _=>[(0,.ref 0 1 0 0),(1,.int .i64 0),(2,.int .i64 0),(3,.fn 191 []),(8,.int .i64 1)])
   (fun _=>[⟨2,1,true,l.map Bw⟩]) (fun _ _=>[]) () trivial ?_ ?_)
 · (with_reducible repeat' (first|(simp(disch:=omega)only[push_cast,↓zz,seval])|refine And.intro ?_ ?_|(first|refine Ab ?_ ?_|refine Aa ?_ ?_)<;>intro hc<;>(try simp only[push_cast] at hc)|omega|intro _))
 rintro _ _;refine W_T ?_;(with_reducible repeat' (first|(simp(disch:=omega)only[push_cast,↓zz,seval])|refine And.intro ?_ ?_|(first|refine Ab ?_ ?_|refine Aa ?_ ?_)<;>intro hc<;>(try simp only[push_cast] at hc)|omega|intro _))
 all_goals trace_state
set_option maxRecDepth 100000 in
theorem len0:PC Tryz.prog 163 [.int .u64 0] (.int .i64 0):=by
 refine A9 M9 ?_;unfold G9;(with_reducible repeat' (first|(simp(disch:=omega)only[push_cast,↓zz,seval])|refine And.intro ?_ ?_|(first|refine Ab ?_ ?_|refine Aa ?_ ?_)<;>intro hc<;>(try simp only[push_cast] at hc)|omega|intro _))
 all_goals decide
theorem z9f:PC Tryz.prog 139 [.int .u64 0] (.int .i64 0):=by
 refine A9 Qn ?_;unfold Iz;(with_reducible repeat' (first|(simp(disch:=omega)only[push_cast,↓zz,seval])|refine And.intro ?_ ?_|(first|refine Ab ?_ ?_|refine Aa ?_ ?_)<;>intro hc<;>(try simp only[push_cast] at hc)|refine eK len0 ?_|refine eQ len0 ?_|refine eG len0 ?_|((first|refine cK len0 ?_|refine cQ len0 ?_|refine cG len0 ?_);(simp(disch:=omega)only[push_cast,↓zz,seval]);(fail_if_success change False))|omega|intro _))
theorem pdq0 (l:List Span):Bi Tryz.prog 198 [.ref 0 1 0 0,.int .i64 0,.int .i64 0,.int .i64 0,.fn 191 []] (Abs.hl [⟨2,1,true,l.map Bw⟩]) fun y H'=>y=.tup []∧H'=Abs.hl [⟨2,1,true,l.map Bw⟩]:=by
 refine J0 (b:=1) E7 rfl ?_;unfold C7;(with_reducible repeat' (first|(simp(disch:=omega)only[push_cast,↓zz,seval])|refine And.intro ?_ ?_|(first|refine Ab ?_ ?_|refine Aa ?_ ?_)<;>intro hc<;>(try simp only[push_cast] at hc)|omega|intro _))
 refine An (Ap (fun (_:Unit)=>True) (fun _=>0) (fun _=>[(0,.ref 0 1 0 0),(1,.int .i64 0),(2,.int .i64 0),(3,.int .i64 0),(4,.fn 191 []),(10,.bool true),(11,.bool true)])
   (fun _=>[⟨2,1,true,l.map Bw⟩]) (fun _ _=>[]) () trivial ?_ ?_)
 · (with_reducible repeat' (first|(simp(disch:=omega)only[push_cast,↓zz,seval])|refine And.intro ?_ ?_|(first|refine Ab ?_ ?_|refine Aa ?_ ?_)<;>intro hc<;>(try simp only[push_cast] at hc)|omega|intro _))
 rintro _ _;refine W_T ?_;(with_reducible repeat' (first|(simp(disch:=omega)only[push_cast,↓zz,seval])|refine And.intro ?_ ?_|(first|refine Ab ?_ ?_|refine Aa ?_ ?_)<;>intro hc<;>(try simp only[push_cast] at hc)|omega|intro _));refine Bi.mono (zou l) ?_;rintro y H' ⟨rfl,rfl⟩;(with_reducible repeat' (first|(simp(disch:=omega)only[push_cast,↓zz,seval])|refine And.intro ?_ ?_|(first|refine Ab ?_ ?_|refine Aa ?_ ?_)<;>intro hc<;>(try simp only[push_cast] at hc)|omega|intro _))
 all_goals trace_state
theorem sort0 (l:List Span):Bi Tryz.prog 190 [.ref 0 1 0 0,.fn 191 []] (Abs.hl [⟨2,1,true,l.map Bw⟩]) fun y H'=>y=.tup []∧H'=Abs.hl [⟨2,1,true,l.map Bw⟩]:=by
 refine J0 (b:=1) Eu rfl ?_;unfold Cv;(with_reducible repeat' (first|(simp(disch:=omega)only[push_cast,↓zz,seval])|refine And.intro ?_ ?_|(first|refine Ab ?_ ?_|refine Aa ?_ ?_)<;>intro hc<;>(try simp only[push_cast] at hc)|refine eK z9f ?_|refine eQ z9f ?_|refine eG z9f ?_|((first|refine cK z9f ?_|refine cQ z9f ?_|refine cG z9f ?_);(simp(disch:=omega)only[push_cast,↓zz,seval]);(fail_if_success change False))|omega|intro _));refine Bi.mono (pdq0 l) ?_;rintro y H' ⟨rfl,rfl⟩;(with_reducible repeat' (first|(simp(disch:=omega)only[push_cast,↓zz,seval])|refine And.intro ?_ ?_|(first|refine Ab ?_ ?_|refine Aa ?_ ?_)<;>intro hc<;>(try simp only[push_cast] at hc)|omega|intro _))
 all_goals trace_state
def memL (l:List Span) (x:Int):Prop:=∃ s∈l,s.lo≤x∧x≤s.hi
theorem Bh (x:Int):¬memL [] x:=fun⟨s,hs,_⟩=>by cases hs
theorem Ax {s:Span} {l:List Span} {x:Int}:memL (s::l) x↔(s.lo≤x∧x≤s.hi)∨memL l x:=by
 constructor
 · rintro⟨t,ht,hx⟩
   rcases List.mem_cons.1 ht with rfl|ht
   · exact .inl hx
   · exact .inr ⟨t,ht,hx⟩
 · rintro (hx|⟨t,ht,hx⟩)
   · exact⟨s,by simp,hx⟩
   · exact⟨t,by simp[ht],hx⟩
theorem Dy {l m:List Span} {x:Int}:memL (l++m) x↔memL l x∨memL m x:=by
 constructor
 · rintro⟨t,ht,hx⟩
   rcases List.mem_append.1 ht with ht|ht
   · exact .inl ⟨t,ht,hx⟩
   · exact .inr ⟨t,ht,hx⟩
 · rintro (⟨t,ht,hx⟩|⟨t,ht,hx⟩)
   · exact⟨t,by simp[ht],hx⟩
   · exact⟨t,by simp[ht],hx⟩
def Plain (l:List Span):Prop:=(∀ s∈l,s.lo≤s.hi)∧l.Pairwise fun s t=>s.hi+1<t.lo
theorem Plain.tail {s:Span} {l:List Span} (h:Plain (s::l)):Plain l:=⟨fun t ht=>h.1 t (by simp[ht]),(List.pairwise_cons.1 h.2).2⟩
theorem Plain.head {s:Span} {l:List Span} (h:Plain (s::l)):s.lo≤s.hi:=h.1 s (by simp)
theorem Plain.after {s:Span} {l:List Span} (h:Plain (s::l)) {x:Int} (hx:memL l x):s.hi+1<x:=by
 obtain⟨t,ht,h1,h2⟩:=hx;have:=(List.pairwise_cons.1 h.2).1 t ht;omega
theorem Ge:∀ {a b:List Span},Plain a→Plain b→(∀ x,memL a x↔memL b x)→a=b
 | [],[],_,_,_=>rfl
 | [],t::b,_,hb,h=>absurd ((h t.lo).2 (Ax.2 (.inl ⟨Int.le_refl _,hb.head⟩))) (Bh _)
 | s::a,[],ha,_,h=>absurd ((h s.lo).1 (Ax.2 (.inl ⟨Int.le_refl _,ha.head⟩))) (Bh _)
 | s::a,t::b,ha,hb,h=>by
   have hs:=ha.head;have ht:=hb.head
   have key:∀ {s t:Span} {a b:List Span},Plain (s::a)→Plain (t::b)→(∀ x,memL (s::a) x↔memL (t::b) x)→t.lo≤s.lo:=fun {s t a b} ha hb h=>by
     rcases Ax.1 ((h s.lo).1 (Ax.2 (.inl ⟨Int.le_refl _,ha.head⟩))) with hh|hh
     · exact hh.1
     · have:=hb.after hh;have:=hb.head;omega
   have hlo:s.lo=t.lo:=Int.le_antisymm (key hb ha fun x=>(h x).symm) (key ha hb h)
   have key2:∀ {s t:Span} {a b:List Span},Plain (s::a)→Plain (t::b)→(∀ x,memL (s::a) x↔memL (t::b) x)→s.lo=t.lo→t.hi≤s.hi:=fun {s t a b} ha hb h e=>by
     have:=ha.head;rcases Int.lt_or_le s.hi t.hi with hlt|hle
     · rcases Ax.1 ((h (s.hi+1)).2 (Ax.2 (.inl ⟨by omega,by omega⟩))) with hh|hh
       · omega
       · have:=ha.after hh;omega
     · exact hle
   have hhi:s.hi=t.hi:=Int.le_antisymm (key2 hb ha (fun x=>(h x).symm) hlo.symm) (key2 ha hb h hlo);have hst:s=t:=by cases s;cases t;simp_all
   subst hst;refine congrArg _ (Ge ha.tail hb.tail fun x=>⟨fun hx=>?_,fun hx=>?_⟩)
   · rcases Ax.1 ((h x).1 (Ax.2 (.inr hx))) with hh|hh
     · have:=ha.after hx;omega
     · exact hh
   · rcases Ax.1 ((h x).2 (Ax.2 (.inr hx))) with hh|hh
     · have:=hb.after hx;omega
     · exact hh
def C3 (out:List Span) (x:Span):List Span :=
 match out.getLast? with
 | some y=>if x.lo≤y.hi+1 then out.dropLast++[⟨y.lo,max y.hi x.hi⟩] else out++[x]
 | none=>[x]
theorem Fc (x:Span):C3 [] x=[x]:=rfl
theorem Le (out:List Span) (y x:Span):C3 (out++[y]) x=if x.lo≤y.hi+1 then out++[⟨y.lo,max y.hi x.hi⟩] else out++[y]++[x]:=by
 simp[C3]
theorem Dw (l:List Span):l=[]∨∃ m y,l=m++[y]:=by
 rcases List.eq_nil_or_concat l with h|⟨m,y,h⟩
 · exact .inl h
 · exact .inr ⟨m,y,by simpa using h⟩
theorem F3 {m:List Span} {y:Span}:Plain (m++[y])↔Plain m∧y.lo≤y.hi∧∀ s∈m,s.hi+1<y.lo:=by
 simp only[Plain,List.pairwise_append,List.mem_append,List.mem_singleton,List.pairwise_singleton,true_and,or_imp,forall_and,forall_eq];constructor
 · rintro⟨⟨h1,h2⟩,h3,h4⟩;exact⟨⟨h1,h3⟩,h2,h4⟩
 · rintro⟨⟨h1,h3⟩,h2,h4⟩;exact⟨⟨h1,h2⟩,h3,h4⟩
def Before (l:List Span) (x:Int):Prop:=∀ s∈l,s.lo≤x
theorem z2s {out:List Span} {x:Span} (h:Plain out) (hx:x.lo≤x.hi) (hb:Before out x.lo):Plain (C3 out x)∧Before (C3 out x) x.lo∧∀ v,memL (C3 out x) v↔memL out v∨(x.lo≤v∧v≤x.hi):=by
 rcases Dw out with rfl|⟨m,y,rfl⟩
 · refine⟨⟨by simp[Fc,hx],by simp[Fc]⟩,by simp[Fc,Before],fun v=>?_⟩
   rw[Fc,Ax];constructor
   · rintro (h|h)
     · exact .inr h
     · exact absurd h (Bh _)
   · rintro (h|h)
     · exact absurd h (Bh _)
     · exact .inl h
 · rw[Le]
   obtain⟨h1,h2,h3⟩:=F3.1 h;have hy:y.lo≤x.lo:=hb y (by simp);split
   · rename_i hle
     refine⟨F3.2 ⟨h1,by simp only;omega,fun s hs=>h3 s hs⟩,?_,fun v=>?_⟩
     · intro s hs
       rcases List.mem_append.1 hs with hs|hs
       · exact hb s (by simp[hs])
       · simp only[List.mem_singleton] at hs;subst hs;exact hy
     · rw[Dy,Dy,Ax,Ax]
       simp only[Bh,or_false];constructor
       · rintro (h|h)
         · exact .inl (.inl h)
         · by_cases hv:v≤y.hi
           · exact .inl (.inr ⟨h.1,hv⟩)
           · exact .inr ⟨by omega,by omega⟩
       · rintro ((h|h)|h)
         · exact .inl h
         · exact .inr ⟨h.1,by omega⟩
         · exact .inr ⟨by omega,by omega⟩
   · rename_i hle
     refine⟨F3.2 ⟨h,hx,fun s hs=>?_⟩,?_,fun v=>?_⟩
     · rcases List.mem_append.1 hs with hs|hs
       · have:=h3 s hs;omega
       · simp only[List.mem_singleton] at hs;subst hs;omega
     · intro s hs
       rcases List.mem_append.1 hs with hs|hs
       · exact hb s hs
       · simp only[List.mem_singleton] at hs;subst hs;exact Int.le_refl _
     · rw[Dy,Ax]
       simp only[Bh,or_false]
theorem Ha:∀ (l out:List Span),Plain out→(∀ s∈l,s.lo≤s.hi)→l.Pairwise (fun a b=>a.lo≤b.lo)→(∀ s∈l,Before out s.lo)→Plain (l.foldl C3 out)∧∀ v,memL (l.foldl C3 out) v↔memL out v∨memL l v
 | [],out,h,_,_,_=>⟨h,fun v=>by simp only[List.foldl_nil,Bh,or_false]⟩
 | x::l,out,h,h1,h2,h3=>by
   obtain⟨p1,p2,p3⟩:=z2s h (h1 x (by simp)) (h3 x (by simp));rw[List.pairwise_cons] at h2;obtain⟨q1,q2⟩:=Ha l (C3 out x) p1 (fun s hs=>h1 s (by simp[hs])) h2.2 (fun s hs t ht=>Int.le_trans (p2 t ht) (h2.1 s hs));refine⟨q1,fun v=>?_⟩;rw[List.foldl_cons,q2 v,p3 v,Ax,or_assoc]
theorem z9g (out:List Span) (x:Span):(C3 out x).length≤out.length+1:=by
 rcases Dw out with rfl|⟨m,y,rfl⟩
 · simp[Fc]
 · rw[Le];split<;>simp
theorem Wn:∀ (l out:List Span),(l.foldl C3 out).length≤out.length+l.length
 | [],out=>by simp
 | x::l,out=>by
   have h1:=Wn l (C3 out x);have h2:=z9g out x;simp only[List.foldl_cons,List.length_cons];omega
def Lf (s:Span):Span:=⟨max s.lo (-1073741824),min s.hi 1073741824⟩
def inN (l:List Span):List Span:=(l.map Lf).filter fun s=>decide (s.lo≤s.hi)
theorem zd7 {l:List Span} {x:Int}:memL (inN l) x↔memL l x∧-1073741824≤x∧x≤1073741824:=by
 constructor
 · rintro⟨s,hs,h1,h2⟩
   simp only[inN,List.mem_filter,List.mem_map] at hs;obtain⟨⟨t,ht,rfl⟩,_⟩:=hs;simp only[Lf] at h1 h2;exact⟨⟨t,ht,by omega,by omega⟩,by omega,by omega⟩
 · rintro⟨⟨t,ht,h1,h2⟩,h3,h4⟩
   refine⟨Lf t,?_,by simp only[Lf];omega,by simp only[Lf];omega⟩;simp only[inN,List.mem_filter,List.mem_map,decide_eq_true_eq];exact⟨⟨t,ht,rfl⟩,by simp only[Lf];omega⟩
theorem z5l {l:List Span}:∀ s∈inN l,s.lo≤s.hi:=fun s hs=>by
 simp only[inN,List.mem_filter,decide_eq_true_eq] at hs;exact hs.2
theorem Q4 {l m:List Span} (h:l.Perm m) (x:Int):memL l x↔memL m x :=
 ⟨fun⟨s,hs,hx⟩=>⟨s,h.mem_iff.1 hs,hx⟩,fun⟨s,hs,hx⟩=>⟨s,h.mem_iff.2 hs,hx⟩⟩
def Ar (l:List Span):List Span:=((inN l).mergeSort fun a b=>decide (a.lo≤b.lo)).foldl C3 []
theorem zig {l m:List Span} (hp:m.Perm (inN l)) (hs:m.Pairwise fun a b=>a.lo≤b.lo):m.foldl C3 []=Ar l:=by
 have hq:((inN l).mergeSort fun a b=>decide (a.lo≤b.lo)).Perm (inN l):=List.mergeSort_perm _ _
 have hs':((inN l).mergeSort fun a b=>decide (a.lo≤b.lo)).Pairwise fun a b=>a.lo≤b.lo:=by
   have:=List.pairwise_mergeSort (le:=fun a b:Span=>decide (a.lo≤b.lo)) (fun a b c h1 h2=>by simp at *;omega) (fun a b=>by simp;omega) (inN l);simpa using this
 obtain⟨a1,a2⟩:=Ha m [] ⟨by simp,by simp⟩ (fun s h=>z5l s (hp.mem_iff.1 h)) hs (fun s _ t ht=>by cases ht);obtain⟨b1,b2⟩:=Ha _ [] ⟨by simp,by simp⟩ (fun s h=>z5l s (hq.mem_iff.1 h)) hs' (fun s _ t ht=>by cases ht);refine Ge a1 b1 fun x=>?_;rw[Ar,a2 x,b2 x,Q4 hp x,Q4 hq x]
theorem Aq (l:List Span):Plain (Ar l)∧∀ x,memL (Ar l) x↔memL l x∧-1073741824≤x∧x≤1073741824:=by
 have hq:((inN l).mergeSort fun a b=>decide (a.lo≤b.lo)).Perm (inN l):=List.mergeSort_perm _ _
 have hs':((inN l).mergeSort fun a b=>decide (a.lo≤b.lo)).Pairwise fun a b=>a.lo≤b.lo:=by
   have:=List.pairwise_mergeSort (le:=fun a b:Span=>decide (a.lo≤b.lo)) (fun a b c h1 h2=>by simp at *;omega) (fun a b=>by simp;omega) (inN l);simpa using this
 obtain⟨b1,b2⟩:=Ha _ [] ⟨by simp,by simp⟩ (fun s h=>z5l s (hq.mem_iff.1 h)) hs' (fun s _ t ht=>by cases ht);refine⟨b1,fun x=>?_⟩;rw[Ar,b2 x,Q4 hq x,zd7];simp only[Bh,false_or]
theorem z2t (l:List Span):(inN l).length≤l.length:=by
 have:=List.length_filter_le (fun s:Span=>decide (s.lo≤s.hi)) (l.map Lf);simpa [inN] using this
theorem Dd (l:List Span):(Ar l).length≤l.length:=by
 have h1:=Wn ((inN l).mergeSort fun a b=>decide (a.lo≤b.lo)) [];have h2:=z2t l;rw[List.length_mergeSort] at h1;simp only[List.length_nil] at h1;rw[Ar];omega
end Go.Proofs.YtbcjoeadpjfcfaaGreat
namespace Go.Proofs.YtbcjoeadpjfcfaaGreat.Abs
mutual
def valOf:AV→Value
 | .int k a=>.int k a
 | .bool b=>.bool b
 | .agg xs=>.agg (zl2 xs).toArray
 | _=>undef
def zl2:List AV→List Value
 | []=>[]
 | x::xs=>valOf x::zl2 xs
end
def Flat (x:AV):Prop:=∀ S:MS,VRel S x (valOf x)
abbrev encI (r:List AV):Array Value:=(r.map valOf).toArray
def Clo (J:Nat→(Nat→Prop)→World→Prop):Prop :=
 ∀ k O W W',J k O W→W'.os=W.os→W'.tape=W.tape→W'.output=W.output→W.heap.size≤W'.heap.size →
   (∀ b,b<W.heap.size→¬O b→W'.heap[b]? = W.heap[b]?)→J k (fun b=>O b∨(W.heap.size≤b∧b<W'.heap.size)) W'
def z5m (P:Program) (gf:Nat) (caps:List AV) (rows:List (List AV)):Prop :=
 Enters P gf∧∀ (m l:Nat) (S:MS) (lb:List Value) (J Jx:Nat→(Nat→Prop)→World→Prop),
   SRel S Ac.nil→Ae S caps lb→Clo J→Clo Jx→J 0 (fun _=>False) S.w →
   (∀ k O W,J k O W∨Jx k O W→(∀ b,S.im b→¬O b∧W.heap[b]? = S.w.heap[b]?)∧(W.os=S.w.os∧W.tape=S.w.tape∧W.output=S.w.output)∧S.w.heap.size≤W.heap.size∧∀ b,O b→S.w.heap.size≤b∧b<W.heap.size) →
   (∀ k row O W,rows[k]? = some row→J k O W→YieldAt Fence.wide m P l (encI row) W fun e W'=>W.heap.size≤W'.heap.size∧(∀ b,O b→W'.heap[b]? = W.heap[b]?)∧(e=.returned (.bool true)∧J (k+1) O W'∨e=.returned (.bool false)∧Jx (k+1) O W')) →
   CallsIn Fence.wide (m+1) P gf (#[.func (.yield l) #[] #[]]++lb.toArray) S.w fun e W'=>(∃ v,e=.returned v)∧((∃ O,J rows.length O W')∨∃ k O,Jx k O W')
def setL:Env→List Nat→List AV→Env
 | env,p::ps,x::r=>setL (env.put (some p) x) ps r
 | env,_,_=>env
section
variable {P:Program} {n b:Nat} {env:Env} {H:Ac} {Q:Ex→Env→Ac→Prop}
theorem SRel.turn2 {S S':MS} {H:Ac} (h:SRel S H) (hw:∀ b,S.im b→S'.w.heap[b]? = S.w.heap[b]?) (hi:S'.im=S.im) (hn:S'.n=S.n) (hc:S'.cur=S.cur) (hp:S'.place=S.place) (hcap:S'.cap=S.cap) (hwid:S'.wid=S.wid)
   (hk:∀ b,S'.keep b→S.keep b∨S.w.heap.size≤b) (hkb:∀ b,S'.keep b→b<S'.w.heap.size) (hg:∀ b,¬(S.im b∨S.keep b)→b<S.w.heap.size→S'.w.heap[b]? = S.w.heap[b]?) (hsz:S.w.heap.size≤S'.w.heap.size):SRel S' H:=by
 have ev:=Evi.of hw hi hn hc hp hcap hwid;refine⟨hn.trans h.n,fun g hgn=>?_,fun g g' h1 h2 h3 h4 h5=>?_,fun b hb=>?_⟩
 · have hG:=h.grp g hgn
   have hni:¬(S.im (S.place g)∨S.keep (S.place g))→S.place g<S.w.heap.size→¬(S'.im (S'.place g)∨S'.keep (S'.place g)):=fun hn hlt hh=>by
     rw[hi,hp] at hh;rcases hh with hh|hh
     · exact hn (.inl hh)
     · rcases hk _ hh with hh|hh
       · exact hn (.inr hh)
       · omega
   refine⟨by rw[hc];exact hG.ver,by rw[hwid];exact hG.wid,fun hw0 hc0=>?_,fun hw0=>by rw[hcap];exact hG.len hw0,fun hw0 he=>by rw[hcap];exact hG.full hw0 he,fun hw0 he=>?_⟩
   · rw[hcap] at hc0 ⊢
     obtain⟨⟨cells,T,vs,a1,a2,a3,a4⟩,a5⟩:=hG.live hw0 hc0;exact⟨⟨cells,T,vs,by rw[hp,hg _ a5 (hG.lt hw0 hc0)];exact a1,a2,Ae.moni ev _ a3,a4⟩,hni a5 (hG.lt hw0 hc0)⟩
   · obtain⟨⟨es,clock,a1,a2⟩,a5⟩:=hG.mlive hw0 he
     exact⟨⟨es,clock,by rw[hp,hg _ a5 (hG.mlt hw0 he)];exact a1,Ae.moni ev _ a2⟩,hni a5 (hG.mlt hw0 he)⟩
 · rw[hp]
   rw[hcap] at h4 h5;exact h.apart g g' h1 h2 h3 h4 h5
 · rcases hb with hb|hb
   · rw[hi] at hb;exact Nat.lt_of_lt_of_le (h.im b (.inl hb)) hsz
   · exact hkb b hb
theorem z5n {S:MS} {ds:List Deferred} (hd:Marks S ds):∀ {ps:List Nat} {row:List AV} {env:Env} {tmps:Array Value} {ds':List Deferred},FRel S n env { tmps:=tmps,defers:=ds' }→(∀ p∈ps,p<n)→(∀ x∈row,Flat x) →
   FRel S n (setL env ps row) { tmps:=(ps.zip (row.map valOf)).foldl (fun t (p,v)=>t.setIfInBounds p v) tmps,defers:=ds }
 | [],row,env,tmps,_,hF,_,_=>by
   rw[show setL env [] row=env from by cases row<;>rfl];exact⟨hF.size,hd,hF.val⟩
 | p::ps,[],env,tmps,_,hF,_,_=>⟨hF.size,hd,hF.val⟩
 | p::ps,x::row,env,tmps,ds',hF,hp,hx=>by
   have:=hF.put (dst:=some p) (by simpa using hp p (by simp)) (x:=x) (v:=valOf x) (hx x (by simp) S);exact z5n hd (ps:=ps) (row:=row) this (fun q hq=>hp q (by simp[hq])) (fun y hy=>hx y (by simp[hy]))
def codeOf:Ex→Code
 | .normal=>.skip
 | .exit id=>.exit id
 | .ret=>.ret
structure Lo (S:MS) (rec:LoopState→Option Code→Loop) (W1:Nat) (st:LoopState) (pe:Option Code) (O:Nat→Prop) (S':MS) (H':Ac):Prop where
 evo:Evo S S'
 rel:SRel S' H'
 own:∀ b,O b→S'.keep b∧¬S'.im b∧W1≤b∧b<S'.w.heap.size
 size:W1≤S'.w.heap.size
 loop:S'.w.heap[S.w.heap.size+1]? = some (.loop (rec st pe))
 defd:S'.w.heap[S.w.heap.size]? = some (.deferred (some []))
 k1:S'.keep S.w.heap.size∧¬S'.im S.w.heap.size
 k2:S'.keep (S.w.heap.size+1)∧¬S'.im (S.w.heap.size+1)
theorem Lo.clo {S S':MS} {rec:LoopState→Option Code→Loop} {st:LoopState} {pe:Option Code} {O:Nat→Prop} {H':Ac} (hS:∀ b,S.im b∨S.keep b→b<S.w.heap.size) (h:Lo S rec (S.w.heap.size+2) st pe O S' H') {W':World}
   (h1:W'.os=S'.w.os) (h2:W'.tape=S'.w.tape) (h3:W'.output=S'.w.output) (h4:S'.w.heap.size≤W'.heap.size) (h5:∀ b,b<S'.w.heap.size→¬O b→W'.heap[b]? = S'.w.heap[b]?) :
   ∃ S'':MS,S''.w=W'∧Lo S rec (S.w.heap.size+2) st pe (fun b=>O b∨(S'.w.heap.size≤b∧b<W'.heap.size)) S'' H':=by
 obtain⟨S'',hd⟩:∃ S'':MS,S''={ S' with w:=W',keep:=fun b=>S'.keep b∨(S'.w.heap.size≤b∧b<W'.heap.size) }:=⟨_,rfl⟩;have him:∀ b,S'.im b→b<S'.w.heap.size:=fun b hb=>h.rel.im b (.inl hb);have hio:∀ b,S'.im b→¬O b:=fun b hb ho=>(h.own b ho).2.1 hb;have hlt:∀ b,S.im b∨S.keep b→¬O b:=fun b hb ho=>by have:=(h.own b ho).2.2.1;have:=hS b hb;omega
 have hsz:=h.size;refine⟨S'',by rw[hd],?_⟩
 have hrel:SRel S'' H':=by
   subst hd
   exact h.rel.turn2 (fun b hb=>h5 b (him b hb) (hio b hb)) rfl rfl rfl rfl rfl rfl (fun b hb=>hb.imp id And.left) (fun b hb=>hb.elim (fun hh=>Nat.lt_of_lt_of_le (h.rel.im b (.inr hh)) h4) And.right)
     (fun b hb hl=>h5 b hl (fun ho=>hb (.inr (h.own b ho).1))) h4
 have hevo:Evo S S'':=by
   have e:=h.evo;subst hd;refine⟨e.base,h1.trans e.os,h2.trans e.tape,h3.trans e.output,Nat.le_trans e.size h4,fun b hb=>?_,e.im,fun b hb=>.inl (e.keep b hb),e.fresh,e.n,e.cur,e.same⟩;exact (h5 b (Nat.lt_of_lt_of_le (hS b hb) e.size) (hlt b hb)).trans (e.kept b hb)
 have hw:S''.w=W':=by rw[hd]
 have hkeep:S''.keep=fun b=>S'.keep b∨(S'.w.heap.size≤b∧b<W'.heap.size):=by rw[hd]
 have himm:S''.im=S'.im:=by rw[hd]
 have hnO:∀ b,b<S.w.heap.size+2→¬O b:=fun b hb ho=>by have:=(h.own b ho).2.2.1;omega
 refine⟨hevo,hrel,fun b hb=>?_,by rw[hw];omega,?_,?_,?_,?_⟩
 · rw[hkeep,himm,hw]
   rcases hb with hb|⟨hb1,hb2⟩
   · obtain⟨q1,q2,q3,q4⟩:=h.own b hb
     exact⟨.inl q1,q2,q3,by omega⟩
   · exact⟨.inr ⟨hb1,hb2⟩,fun hi=>by have:=him b hi;omega,by omega,hb2⟩
 · rw[hw,h5 _ (by omega) (hnO _ (by omega))];exact h.loop
 · rw[hw,h5 _ (by omega) (hnO _ (by omega))];exact h.defd
 · rw[hkeep,himm];exact⟨.inl h.k1.1,h.k1.2⟩
 · rw[hkeep,himm];exact⟨.inl h.k2.1,h.k2.2⟩
theorem Lo.turn {S S':MS} {rec:LoopState→Option Code→Loop} {st:LoopState} {pe:Option Code} {O:Nat→Prop} {H':Ac} (hS:∀ b,S.im b∨S.keep b→b<S.w.heap.size) (h:Lo S rec (S.w.heap.size+2) st pe O S' H') (st':LoopState) (pe':Option Code) :
   ∃ S'':MS,S''.w=S'.w.putObj (S.w.heap.size+1) (.loop (rec st' pe'))∧Lo S rec (S.w.heap.size+2) st' pe' O S'' H'∧Evi S' S''∧S''.n=S'.n∧S''.base=S'.base∧S''.keep=S'.keep∧S''.im=S'.im:=by
 obtain⟨S'',hd⟩:∃ S'':MS,S''={ S' with w:=S'.w.putObj (S.w.heap.size+1) (.loop (rec st' pe')) }:=⟨_,rfl⟩;have hne:∀ b,S'.im b→b≠S.w.heap.size+1:=fun b hb hh=>h.k2.2 (hh ▸ hb);have hsz:=h.size;have hw:S''.w=S'.w.putObj (S.w.heap.size+1) (.loop (rec st' pe')):=by rw[hd]
 refine⟨S'',hw,⟨?_,?_,fun b hb=>?_,by rw[hw,World.putObj_size];exact hsz,?_,?_,?_,?_⟩,?_,by rw[hd],by rw[hd],by rw[hd],by rw[hd]⟩
 · have e:=h.evo
   subst hd;refine⟨e.base,e.os,e.tape,e.output,by show _≤(World.putObj _ _ _).heap.size;rw[World.putObj_size];exact e.size,fun b hb=>?_,e.im,e.keep,e.fresh,e.n,e.cur,e.same⟩;show (World.putObj _ _ _).heap[b]? = _;rw[World.putObj_heap_other (by have:=hS b hb;omega)];exact e.kept b hb
 · subst hd
   refine h.rel.turn (fun b hb=>World.putObj_heap_other (hne b hb)) rfl rfl rfl rfl rfl rfl (fun _ h=>h) (fun b hb _=>World.putObj_heap_other fun hh=>hb (.inr (hh ▸ h.k2.1))) (by show _≤(World.putObj _ _ _).heap.size;rw[World.putObj_size];exact Nat.le_refl _)
 · obtain⟨q1,q2,q3,q4⟩:=h.own b hb
   rw[hd];exact⟨q1,q2,q3,by show _<(World.putObj _ _ _).heap.size;rw[World.putObj_size];exact q4⟩
 · rw[hw];exact World.putObj_heap_same (by omega)
 · rw[hw,World.putObj_heap_other (by omega)];exact h.defd
 · rw[hd];exact h.k1
 · rw[hd];exact h.k2
 · subst hd
   exact Evi.of (fun b hb=>World.putObj_heap_other (hne b hb)) rfl rfl rfl rfl rfl rfl
theorem Lo.on {S S' S2:MS} {rec:LoopState→Option Code→Loop} {W1:Nat} {st:LoopState} {pe:Option Code} {O:Nat→Prop} {H' H2:Ac} (h:Lo S rec W1 st pe O S' H') (e:BEvo S.n S' S2) (hr:SRel S2 H2):Lo S rec W1 st pe O S2 H2∧∀ b,O b→S2.w.heap[b]? = S'.w.heap[b]? := by
 have hk:∀ b,S'.keep b→¬S'.im b→S2.keep b∧¬S2.im b∧S2.w.heap[b]? = S'.w.heap[b]? := fun b h1 h2=>⟨e.keep b h1,fun hi=>(e.fresh b hi).elim h2 (fun hh=>hh h1),e.kept b (.inr h1)⟩;refine⟨⟨((h.evo.down (Nat.le_refl _)).trans e).up,hr,fun b hb=>?_,Nat.le_trans h.size e.size,?_,?_,?_,?_⟩,fun b hb=>?_⟩
 · obtain⟨q1,q2,q3,q4⟩:=h.own b hb
   obtain⟨r1,r2,_⟩:=hk b q1 q2;exact⟨r1,r2,q3,Nat.lt_of_lt_of_le q4 e.size⟩
 · rw[(hk _ h.k2.1 h.k2.2).2.2];exact h.loop
 · rw[(hk _ h.k1.1 h.k1.2).2.2];exact h.defd
 · obtain⟨r1,r2,_⟩:=hk _ h.k1.1 h.k1.2;exact⟨r1,r2⟩
 · obtain⟨r1,r2,_⟩:=hk _ h.k2.1 h.k2.2;exact⟨r1,r2⟩
 · obtain⟨q1,q2,_,_⟩:=h.own b hb
   exact (hk b q1 q2).2.2
theorem T_rng {f:AArg} {ps:List Nat} {asg body:AC} {gf:Nat} {caps:List AV} (hf:f.eval env=.fn gf caps) (hpure:Aw caps=true) (hfr1:asg.free=true) (hfr2:body.free=true) {rows:List (List AV)} (hit:z5m P gf caps rows) (hfl:∀ r∈rows,∀ x∈r,Flat x)
   (hps:∀ r∈rows,r.length=ps.length) (hpn:∀ p∈ps,p<n) (Inv:Nat→Ac→Prop) (Qx:Ex→Ac→Prop) (h0:Inv 0 H) (hn:∀ k H',Inv k H'→H'.n=H.n) (hnx:∀ x H',Qx x H'→H'.n=H.n)
   (round:∀ k row H1,rows[k]? = some row→Inv k H1→T P n H.n asg (setL env ps row) H1 (fun x env1 H2=>x=.normal∧T P n H.n body env1 H2 (fun x _ H3=>(x=.normal∧Inv (k+1) H3)∨(x≠.normal∧Qx x H3))))
   (done:∀ H1,Inv rows.length H1→Q .normal env H1) (out:∀ x H1,Qx x H1→Q x env H1):T P n b (.rng f ps asg body) env H Q:=T_of fun rd mm hrd code hc hs S a hb hS hF=>by
 obtain rfl:rd=none:=by
   rcases hrd with h|h
   · cases h
   · exact h
 cases code<;>simp only[C0,reduceCtorEq,Option.some.injEq] at hc
 case rangeFunc g pps asgc bodyc =>
   split at hc
   · rename_i z x y hz hx hy
     cases hc;have hSim:=hS.im;have hv:=Vr hF hz;rw[hf] at hv;obtain⟨lb,hgv,hlb⟩:=hv;obtain⟨hent,hit⟩:=hit;have hFn:S.n=H.n:=hS.n;refine wpIn_rangeFunc (F:=fen none) fun fn _=>?_;obtain⟨rec,hrec⟩:∃ rec:LoopState→Option Code→Loop,rec=fun st pe=>{ state:=st,pending:=pe,fn,tmps:=a.tmps,params:=pps,assign:=asgc,body:=bodyc,defers:=S.w.heap.size }:=⟨_,rfl⟩;obtain⟨W1,hW1⟩:∃ W1,(S.w.alloc (.deferred (some []))).alloc (.loop (rec .ready none))=W1:=⟨_,rfl⟩;have hW1s:W1.heap.size=S.w.heap.size+2:=by rw[←hW1,size_alloc,size_alloc]
     have hW1o:∀ b,b<S.w.heap.size→W1.heap[b]? = S.w.heap[b]? := fun b hb=>by
       rw[←hW1,heap_alloc_lt _ _ _ (by rw[size_alloc];omega),heap_alloc_lt _ _ _ hb]
     have hL1:W1.heap[S.w.heap.size+1]? = some (.loop (rec .ready none)):=by
       rw[←hW1];have:=heap_alloc_new (S.w.alloc (.deferred (some []))) (.loop (rec .ready none));rwa [size_alloc] at this
     have hK1:W1.heap[S.w.heap.size]? = some (.deferred (some [])):=by
       rw[←hW1,heap_alloc_lt _ _ _ (by rw[size_alloc];omega)];exact heap_alloc_new _ _
     -- the state at the loop's beginning
     obtain⟨S1,hS1d⟩:∃ S1:MS,S1={ S with w:=W1,keep:=fun b=>S.keep b∨b=S.w.heap.size∨b=S.w.heap.size+1 }:=⟨_,rfl⟩;have hw1:S1.w=W1:=by rw[hS1d]
     have hlo:Lo S rec (S.w.heap.size+2) .ready none (fun _=>False) S1 H:=by
       refine⟨?_,?_,fun b hb=>hb.elim,by rw[hw1,hW1s];exact Nat.le_refl _,by rw[hw1];exact hL1,by rw[hw1];exact hK1,?_,?_⟩
       · subst hS1d hW1
         exact⟨rfl,rfl,rfl,rfl,by rw[hW1s];omega,fun b hb=>hW1o b (hSim b hb),fun _ h=>h,fun _ h=>.inl h,fun _ h=>.inl h,Nat.le_refl _,fun _ _=>Nat.le_refl _,fun _ _ _=>⟨rfl,rfl,rfl⟩⟩
       · subst hS1d
         exact hS.turn2 (fun b hb=>hW1o b (hSim b (.inl hb))) rfl rfl rfl rfl rfl rfl (fun b hb=>hb.imp id (fun h=>by omega)) (fun b hb=>by
           show b<W1.heap.size;rw[hW1s];rcases hb with hb|hb
           · have:=hSim b (.inr hb);omega
           · omega) (fun b _ hl=>hW1o b hl) (by show _≤W1.heap.size;rw[hW1s];omega)
       · rw[hS1d];exact⟨.inr (.inl rfl),fun hi=>by have:=hSim _ (.inl hi);omega⟩
       · rw[hS1d];exact⟨.inr (.inr rfl),fun hi=>by have:=hSim _ (.inl hi);omega⟩
     obtain⟨Sit,hSid⟩:∃ Sit:MS,Sit={ S1 with n:=0,keep:=fun _=>False }:=⟨_,rfl⟩
     have hSit:SRel Sit Ac.nil:=by
       subst hSid;exact⟨rfl,fun g hg=>absurd hg (Nat.not_lt_zero _),fun g _ hg=>absurd hg (Nat.not_lt_zero _),fun b hb=>hlo.rel.im b (hb.imp id False.elim)⟩
     have hlb':Ae Sit caps lb:=by
       have:=Ae.mono hlo.evo _ hlb;subst hSid;exact Ae.of_pure (S:=S1) (S':={ S1 with n:=0,keep:=fun _=>False }) rfl (fun _ h=>h) hpure this
     have hwit:Sit.w=W1:=by rw[hSid];exact hw1
     have himit:Sit.im=S.im:=by rw[hSid,hS1d]
     refine⟨S.w.heap.size+1,[mark S.w.heap.size],W1,{ target:=.fn (.func gf) lb.toArray,args:=#[.func (.yield (S.w.heap.size+1)) #[] #[]] },W1,gf,#[.func (.yield (S.w.heap.size+1)) #[] #[]]++lb.toArray,W1,?_,?_,fun _ _=>trivial,?_,fun h=>(by cases h),?_⟩
     · rw[←hW1,hrec];exact run_enterLoop_outer _ _ _ _ _
     · simp only[rangeCall,resolve,hgv]
       simp[go_sem,Act.eval]
     · simpa [invoke,go_sem] using hent (Value.func (.yield (S.w.heap.size+1)) #[] #[]::lb).toArray W1
     -- the iterator
     have hcall:=hit (mm+1) (S.w.heap.size+1) Sit lb
       (fun k O W=>∃ S' H',S'.w=W∧Lo S rec (S.w.heap.size+2) .ready none O S' H'∧Inv k H')
       (fun k O W=>∃ x S' H',S'.w=W∧Lo S rec (S.w.heap.size+2) .done (some (codeOf x)) O S' H'∧x≠.normal∧Qx x H')
       hSit hlb'
       (fun k O W W' ⟨S',H',hw,hl,hi⟩ h1 h2 h3 h4 h5=>by
         subst hw;obtain⟨S'',hw',hl'⟩:=hl.clo hSim h1 h2 h3 h4 h5
         exact⟨S'',H',hw',hl',hi⟩)
       (fun k O W W' ⟨x,S',H',hw,hl,hi⟩ h1 h2 h3 h4 h5=>by
         subst hw;obtain⟨S'',hw',hl'⟩:=hl.clo hSim h1 h2 h3 h4 h5
         exact⟨x,S'',H',hw',hl',hi⟩)
       ⟨S1,H,by rw[hwit,hw1],hlo,h0⟩
       (fun k O W hJ=>by
         have hW1e:W1.os=S.w.os∧W1.tape=S.w.tape∧W1.output=S.w.output:=by rw[←hW1];exact⟨rfl,rfl,rfl⟩
         have key:∀ {st:LoopState} {pe:Option Code} {S':MS} {H':Ac},Lo S rec (S.w.heap.size+2) st pe O S' H'→(∀ b,Sit.im b→¬O b∧S'.w.heap[b]? = Sit.w.heap[b]?)∧(S'.w.os=Sit.w.os∧S'.w.tape=Sit.w.tape∧S'.w.output=Sit.w.output)∧Sit.w.heap.size≤S'.w.heap.size∧∀ b,O b→Sit.w.heap.size≤b∧b<S'.w.heap.size:=fun hl=>by
           refine⟨fun b hb=>?_,by rw[hwit,hW1e.1,hW1e.2.1,hW1e.2.2];exact⟨hl.evo.os,hl.evo.tape,hl.evo.output⟩,by rw[hwit,hW1s];exact hl.size,fun b hb=>?_⟩
           · rw[himit] at hb
             refine⟨fun ho=>by have:=(hl.own b ho).2.2.1;have:=hSim b (.inl hb);omega,?_⟩;rw[hwit,hW1o b (hSim b (.inl hb))];exact hl.evo.kept b (.inl hb)
           · obtain⟨_,_,q3,q4⟩:=hl.own b hb
             rw[hwit,hW1s];exact⟨q3,q4⟩
         rcases hJ with⟨S',H',hw,hl,_⟩|⟨x,S',H',hw,hl,_,_⟩
         · subst hw;exact key hl
         · subst hw;exact key hl)
       (fun k row O W hrow ⟨S',H',hw,hl,hi⟩=>by
         subst hw
         have hlen:(encI row).size=(rec .ready none).params.size:=by
           rw[hrec];have:=hps row (List.mem_of_getElem? hrow);simp[this]
         refine⟨_,_,_,_,run_yield hl.loop hlen,?_⟩;have hrf:rec .ready none={ state:=.ready,pending:=none,fn,tmps:=a.tmps,params:=pps,assign:=asgc,body:=bodyc,defers:=S.w.heap.size }:=by rw[hrec]
         rw[hrf];refine roundIn_of_wpIn (F:=Fence.wide) trivial ?_;have hF':FRel S' n env a:=hF.mono hl.evo;have hFr:=z5n (n:=n) (Marks.nil hF'.defers.1) (ps:=pps.toList) (row:=row) (env:=env) (tmps:=a.tmps) (ds':=a.defers) hF' hpn (hfl row (List.mem_of_getElem? hrow));have hTa':=(round k row H' hrow hi) (some (S.w.heap.size+1)) (mm+1) (.inl hfr1) asgc hx S' _ (by rw[hl.rel.n,hn k H' hi];exact Nat.le_refl _) hl.rel hFr
         have hzip:(pps.zip (encI row)).foldl (fun t (p,v)=>t.setIfInBounds p v) a.tmps=(pps.toList.zip (row.map valOf)).foldl (fun t (p,v)=>t.setIfInBounds p v) a.tmps:=by
           rw[←Array.foldl_toList];simp
         rw[hzip];refine wpIn_mono hTa' fun e a1 w1 hh=>?_;obtain⟨S2,env1,H2,x1,rfl,e2,hS2,hF2,rfl,rfl,hbody⟩:=hh;have hn':H'.n=H.n:=hn k H' hi;have hsz2:=hl.size;obtain⟨hl2,ho2⟩:=hl.on (by rw[hFn];exact e2) hS2;obtain⟨S3,hw3,hl3,ev3,hn3,hb3,hk3,hi3⟩:=hl2.turn hSim .busy none;have hbr:=run_beginRound (P:=P) hl2.loop (by rw[hrec]);have hrb:({ rec .ready none with state:=.busy }:Loop)=rec .busy none:=by rw[hrec]
         rw[hrb] at hbr;refine⟨_,hbr,?_⟩;rw[←hw3]
         have hMs:Marks S3 a1.defers:=by
           obtain⟨q0,Ds,q1,q2,q3⟩:=hF2.defers;refine⟨by rw[hb3,hw3,World.putObj_size];exact q0,Ds,q1,q2,fun D hD=>?_⟩;obtain⟨r1,r2,r3,r4⟩:=q3 D hD;refine⟨by rw[hb3];exact r1,by rw[hk3];exact r2,by rw[hi3];exact r3,?_⟩;rw[hw3,World.putObj_heap_other,r4];intro hDl;rw[hDl,hl2.loop] at r4;cases r4
         have hF3:FRel S3 n env1 a1:=⟨hF2.size,hMs,fun i hi=>VRel.moni ev3 _ (hF2.val i hi)⟩;have hTb:=hbody (some (S.w.heap.size+1)) (mm+1) (.inl hfr2) bodyc hy S3 a1 (by rw[←hFn];exact hl3.evo.n) hl3.rel hF3;refine wpIn_mono hTb fun e a4 w4 hh=>?_;obtain⟨S4,env4,H4,x4,rfl,e4,hS4,hF4,rfl,hx4⟩:=hh;obtain⟨hl4,ho4⟩:=hl3.on (by rw[hFn];exact e4) hS4
         have hob:∀ b,O b→S4.w.heap[b]? = S'.w.heap[b]? := fun b hb=>by
           have hne:b≠S.w.heap.size+1:=by have:=(hl.own b hb).2.2.1;omega
           rw[ho4 b hb,hw3,World.putObj_heap_other hne,ho2 b hb]
         have hput:∀ (o:Obj) b,O b→(S4.w.putObj (S.w.heap.size+1) o).heap[b]? = S'.w.heap[b]? := fun o b hb=>by
           have hne:b≠S.w.heap.size+1:=by have:=(hl.own b hb).2.2.1;omega
           rw[World.putObj_heap_other hne,hob b hb]
         have hend:=fun j=>run_endRound (P:=P) j hl4.loop
         have hgrow:∀ o:Obj,S'.w.heap.size≤(S4.w.putObj (S.w.heap.size+1) o).heap.size:=fun o=>by
           have g1:=e2.size;have g2:=e4.size;rw[hw3,World.putObj_size] at g2;rw[World.putObj_size];omega
         have hr1:({ rec .busy none with state:=.ready,pending:=none }:Loop)=rec .ready none:=by rw[hrec]
         have hr2:∀ c,({ rec .busy none with state:=.done,pending:=some c }:Loop)=rec .done (some c):=fun c=>by rw[hrec]
         rcases hx4 with⟨rfl,hinv⟩|⟨hxn,hqx⟩
         · obtain⟨S5,hw5,hl5,_⟩:=hl4.turn hSim .ready none
           have:=hend none;simp only[Option.isNone_none,if_true,hr1] at this;exact⟨_,_,this,hgrow _,hput _,.inl ⟨rfl,S5,H4,hw5,hl5,hinv⟩⟩
         · obtain⟨S5,hw5,hl5,_⟩:=hl4.turn hSim .done (some (codeOf x4))
           have:=hend (some (codeOf x4));simp only[Option.isNone_some,Bool.false_eq_true,if_false,hr2] at this;cases x4 with
           | normal=>exact absurd rfl hxn
           | exit id=>exact⟨_,_,this,hgrow _,hput _,.inr ⟨rfl,.exit id,S5,H4,hw5,hl5,hxn,hqx⟩⟩
           | ret=>exact⟨_,_,this,hgrow _,hput _,.inr ⟨rfl,.ret,S5,H4,hw5,hl5,hxn,hqx⟩⟩)
     rw[hwit] at hcall
     have hmk:∀ (S':MS) (H':Ac),Evo S S'→SRel S' H'→S'.keep S.w.heap.size∧¬S'.im S.w.heap.size→S'.w.heap[S.w.heap.size]? = some (.deferred (some []))→FRel S' n env { a with defers:=[mark S.w.heap.size]++a.defers }:=fun S' H' ev _ hk hd=>by
       have hF':=hF.mono ev;refine⟨hF'.size,?_,hF'.val⟩;obtain⟨q0,Ds,q1,q2,q3⟩:=hF'.defers;obtain⟨_,Ds',p1,_,p3⟩:=hF.defers
       have hDs:Ds'=Ds:=by
         rw[q1] at p1
         have hinj:∀ {l l':List Nat},l.map mark=l'.map mark→l=l':=by
           intro l
           induction l with
           | nil=>intro l' h;cases l' with
             | nil=>rfl
             | cons=>simp at h
           | cons x l ih=>intro l' h;cases l' with
             | nil=>simp at h
             | cons y l' =>
               simp only[List.map_cons,List.cons.injEq,mark,Deferred.mk.injEq,and_true,Target.collected.injEq] at h;rw[h.1,ih h.2]
         exact (hinj p1).symm
       subst hDs;refine⟨q0,S.w.heap.size::Ds',by rw[q1];rfl,List.nodup_cons.2 ⟨fun hm=>by have:=hSim _ (.inr (p3 _ hm).2.1);omega,q2⟩,fun D hD=>?_⟩;rcases List.mem_cons.1 hD with rfl|hD
       · exact⟨by rw[ev.base];exact hF.defers.1,hk.1,hk.2,hd⟩
       · exact q3 D hD
     refine CallsIn.mono (callsIn_wide.2 (callsIn_wide.1 hcall)) fun e w3 hh=>?_;obtain⟨⟨v,rfl⟩,hh⟩:=hh;rcases hh with⟨O,S',H',rfl,hl,hinv⟩|⟨k,O,x,S',H',rfl,hl,hxn,hqx⟩
     · obtain⟨S5,hw5,hl5,_⟩:=hl.turn hSim .exhausted none
       have:=run_endLoop (P:=P) hl.loop (by rw[hrec];intro hh;cases hh);have hr1:({ rec .ready none with state:=.exhausted }:Loop)=rec .exhausted none:=by rw[hrec]
       rw[hr1] at this;have hpn':(rec .ready none).pending=none:=by rw[hrec]
       rw[hpn'] at this;exact⟨_,_,this,S5,env,H',.normal,hw5,hl5.evo.down hb,hl5.rel,hmk S5 H' hl5.evo hl5.rel hl5.k1 hl5.defd,rfl,done H' hinv⟩
     · obtain⟨S5,hw5,hl5,_⟩:=hl.turn hSim .exhausted (some (codeOf x))
       have:=run_endLoop (P:=P) hl.loop (by rw[hrec];intro hh;cases hh);have hr1:({ rec .done (some (codeOf x)) with state:=.exhausted }:Loop)=rec .exhausted (some (codeOf x)):=by rw[hrec]
       rw[hr1] at this;have hpn':(rec .done (some (codeOf x))).pending=some (codeOf x):=by rw[hrec]
       rw[hpn'] at this;refine⟨_,_,this,?_⟩
       have hAft:After S n b Q (Ex.up x) { a with defers:=[mark S.w.heap.size]++a.defers } (S'.w.putObj (S.w.heap.size+1) (.loop (rec .exhausted (some (codeOf x))))) :=
         ⟨S5,env,H',x,hw5,hl5.evo.down hb,hl5.rel,hmk S5 H' hl5.evo hl5.rel hl5.k1 hl5.defd,rfl,out x H' hqx⟩
       cases x with
       | normal=>exact absurd rfl hxn
       | exit id=>exact wpIn_exit hAft
       | ret=>exact wpIn_ret hAft
   · cases hc
 case region=>exact absurd hc Ce
 case seq=>split at hc<;>cases hc
 case cond=>split at hc<;>cases hc
 case block=>obtain⟨_,_,h⟩:=Option.map_eq_some_iff.1 hc;cases h
 case loop=>obtain⟨_,_,h⟩:=Option.map_eq_some_iff.1 hc;cases h
 case scope d=>exact absurd rfl (hs d)
end
section
variable {P:Program} {n b:Nat} {env:Env} {H:Ac} {Q:Ex→Env→Ac→Prop}
theorem z5o {a:Act}:∀ (ws:List Nat) {S:MS} {l:List Grp},(∀ w∈ws,0<w)→SRel S (hl l)→FRel S n env a→∃ S',S'.w=S.w∧Evo S S'∧SRel S' (hl (l++ws.map Io))∧FRel S' n env a
 | [],S,l,_,hS,hF=>⟨S,rfl,.refl S,by simpa using hS,hF⟩
 | w::ws,S,l,hw,hS,hF=>by
   have h1:=hS.virt w (hw w (by simp));rw[D4] at h1;obtain⟨S',e1,e2,e3,e4⟩:=z5o ws (S:=S.virt w) (l:=l++[Io w]) (fun w' h'=>hw w' (by simp[h'])) h1 ⟨hF.size,hF.defers.mono (Evo.virt _),fun j hj=>VRel.mono (Evo.virt _) _ (hF.val j hj)⟩;exact⟨S',e1,(Evo.virt _).trans e2,by simpa using e3,e4⟩
theorem zih {srcs:List Src} {live:List (Nat × AV)} {heap:List Grp} {S:MS} {a:Act} (hh:Head b env H srcs live heap) (hbS:b≤S.n) (hS:SRel S H) (hF:FRel S n env a) :
   ∃ S',S'.w=S.w∧BEvo b S S'∧SRel S' (hl heap)∧FRel S' n (C8 live) a:=by
 obtain⟨hb,hh⟩:=hh;have hgn:H.groups.length=H.n:=by simp[Ac.groups]
 have hS1:SRel S (hl H.groups):=hS.congr hgn (fun g hg=>by
   show H.groups.getD g default=_
   simp[Ac.groups,List.getD,hg])
 obtain⟨S2,e1,e2,e3,e4⟩:=z5o (Et H.n srcs).2 (Jz hh.1) hS1 hF;replace hh:=hh.2;generalize hl1:H.groups++(Et H.n srcs).2.map Io=l1 at *;obtain⟨h1,h2,h3,h4⟩:=hh;have hb1:b≤l1.length:=by rw[←hl1,List.length_append];omega
 have hbS2:b≤S2.n:=Nat.le_trans hbS e2.n;obtain⟨k1,k2⟩:=Qb (ks:=(Et H.n srcs).1) hb1;have hev:=Jw (ks:=(Et H.n srcs).1) e3 hbS2;have hrel:=(M6 (ks:=(Et H.n srcs).1) 6 e3 hb1 (fun k hk=>Pj h1 k hk) (Hw h2)).congr k1 k2;have hF3:FRel (S2.repack b (hl l1) (Et H.n srcs).1) n (fun i=>rnV b (hl l1) (Et H.n srcs).1 6 (env i)) a:=⟨e4.size,e4.defers.of hev.base hev.size hev.keep hev.fresh (fun b hb=>hev.kept b (.inr hb)),fun j hj=>z91 e3 6 (e4.val j hj)⟩;exact⟨S2.repack b (hl l1) (Et H.n srcs).1,e1,(e2.down hbS).trans hev,Jy hrel h4,⟨hF3.size,hF3.defers,Qc hrel hF3 h3⟩⟩
theorem zsu {c:AC} {Q':Ex→Env→Ac→Prop} (h:T P n b c env H Q') (hq:∀ x env' H',Q' x env' H'→∃ srcs live heap,Head b env' H' srcs live heap∧Q x (C8 live) (hl heap)):T P n b c env H Q :=
 fun rd mm hrd code hc S a hb hS hF=>wpIn_mono (h rd mm hrd code hc S a hb hS hF) fun e a w hh=>by
   obtain⟨S',env',H',x,e1,e2,e3,e4,e5,e6⟩:=hh;obtain⟨srcs,live,heap,k1,k2⟩:=hq _ _ _ e6;obtain⟨S2,q1,q2,q3,q4⟩:=zih k1 e2.n e3 e4;exact⟨S2,_,_,x,q1.trans e1,e2.trans q2,q3,q4,e5,k2⟩
theorem zd8 {σ:Type} (Fact:Nat→σ→Prop) (live:List (Nat × AV)) (heap:σ→List Grp) (srcs:List Src) (N:Nat) {f:AArg} {ps:List Nat} {asg body:AC} {gf:Nat} {caps:List AV} {rows:List (List AV)} (s0:σ)
   (hit:z5m P gf caps rows) (he:Head b env H srcs live (heap s0)) (hN:∀ s,(heap s).length=N) (hf:f.eval (C8 live)=.fn gf caps) (hpure:Aw caps=true) (hfr1:asg.free=true) (hfr2:body.free=true)
   (hfl:∀ r∈rows,∀ x∈r,Flat x) (hps:∀ r∈rows,r.length=ps.length) (hpn:∀ p∈ps,p<n) (h0:Fact 0 s0)
   (round:∀ k row s,rows[k]? = some row→Fact k s→T P n N asg (setL (C8 live) ps row) (hl (heap s)) (fun x env1 H2=>x=.normal∧T P n N body env1 H2 (Ex.then (fun env3 H3=>∃ s',Head N env3 H3 [] [] (heap s')∧Fact (k+1) s') (fun _ _ _=>False))))
   (done:∀ s,Fact rows.length s→Q .normal (C8 live) (hl (heap s))):T P n b (.rng f ps asg body) env H Q:=by
 refine z5i he ?_;refine T_rng hf hpure hfr1 hfr2 hit hfl hps hpn (fun k H'=>∃ s,H'=hl (heap s)∧Fact k s) (fun _ _=>False) ⟨s0,rfl,h0⟩ (fun k H' hh=>?_) (fun _ _ hh=>hh.elim) (fun k row H1 hrow hh=>?_) (fun H1 hh=>?_) (fun _ _ hh=>hh.elim)
 · obtain⟨s,rfl,_⟩:=hh
   show (heap s).length=(heap s0).length;rw[hN,hN]
 · obtain⟨s,rfl,hs⟩:=hh
   have hn0:(hl (heap s0)).n=N:=hN s0;rw[hn0];refine T.mono (round k row s hrow hs) fun x env1 H2 hh=>⟨hh.1,?_⟩;refine zsu hh.2 fun x env3 H3 hq=>?_;cases x with
   | normal =>
     obtain⟨s',q1,q2⟩:=hq;exact⟨[],[],heap s',q1,.inl ⟨rfl,s',rfl,q2⟩⟩
   | exit id=>exact hq.elim
   | ret=>exact hq.elim
 · obtain⟨s,rfl,hs⟩:=hh
   exact done s hs
theorem z2u {f:AArg} {ps:List Nat} {asg body:AC} (h:T P n b (.rng f ps asg body) env H Q):@Kj ⟨T P n b (.rng f ps asg body) env H Q⟩:=h
end
mutual
def ren (σ:Nat→Nat):AV→AV
 | .any=>.any
 | .bool b=>.bool b
 | .int k n=>.int k n
 | .str s=>.str s
 | .nilS=>.nilS
 | .nul=>.nul
 | .emp=>.emp
 | .lst w xs=>.lst w xs
 | .full w xs=>.full w xs
 | .map g v=>.map (σ g) v
 | .ref g v o n=>.ref (σ g) v o n
 | .cptr x=>.cptr x
 | .ptr g v i o=>.ptr (σ g) v i o
 | .nilP=>.nilP
 | .agg cs=>.agg (renL σ cs)
 | .tup cs=>.tup (renL σ cs)
 | .fn f cs=>.fn f (renL σ cs)
 | .nilF=>.nilF
 | .yld l=>.yld l
def renL (σ:Nat→Nat):List AV→List AV
 | []=>[]
 | x::xs=>ren σ x::renL σ xs
end
mutual
def ltV (m:Nat):AV→Prop
 | .map g _|.ref g _ _ _|.ptr g _ _ _=>g<m
 | .agg cs|.tup cs|.fn _ cs=>ltL m cs
 | .any|.bool _|.int ..|.str _|.nilS|.nul|.emp|.lst ..|.full ..|.cptr _|.nilP|.nilF|.yld _=>True
def ltL (m:Nat):List AV→Prop
 | []=>True
 | x::xs=>ltV m x∧ltL m xs
end
def renG (σ:Nat→Nat) (G:Grp):Grp:=⟨G.w,G.ver,G.exact,renL σ G.xs⟩
mutual
theorem zl3 {A B:MS} {σ:Nat→Nat} (hw:B.w=A.w) (hi:∀ b,A.im b→B.im b) (hg:∀ g,g<A.n→σ g<B.n∧B.cur (σ g)=A.cur g∧B.place (σ g)=A.place g∧B.cap (σ g)=A.cap g∧B.wid (σ g)=A.wid g):∀ (x:AV) {v:Value},VRel A x v→VRel B (ren σ x) v
 | .any,_,_=>trivial
 | .bool _,_,h=>h
 | .int _ _,_,h=>h
 | .str _,_,h=>h
 | .nilS,_,h=>h
 | .nul,_,h=>h
 | .emp,_,h=>h
 | .nilP,_,h=>h
 | .nilF,_,h=>h
 | .yld _,_,h=>h
 | .lst wd xs,v,h=>by
   obtain⟨hp,h0,a,cap,vs,hv,hc,hl,hr⟩:=h;refine⟨hp,h0,a,cap,vs,hv,hc,Ae.of_pure hw hi hp hl,fun hne=>?_⟩;obtain⟨b,o,ha,hb,hrow⟩:=hr hne;exact⟨b,o,ha,hi b hb,by rw[hw];exact hrow⟩
 | .full wd xs,v,h=>by
   obtain⟨hp,h0,a,vs,hv,hc,hl,hr⟩:=h;refine⟨hp,h0,a,vs,hv,hc,Ae.of_pure hw hi hp hl,fun hne=>?_⟩;obtain⟨b,o,ha,hb,hrow⟩:=hr hne;exact⟨b,o,ha,hi b hb,by rw[hw];exact hrow⟩
 | .cptr x,v,h=>by
   obtain⟨hp,b,o,u,hv,hb,hx,hl⟩:=h;exact⟨hp,b,o,u,hv,hi b hb,VRel.of_pure hw hi hp hx,by rw[hw];exact hl⟩
 | .map g vn,v,h=>by
   obtain⟨hs,hgn,hc,hv⟩:=h;obtain⟨k1,k2,k3,k4,k5⟩:=hg g hgn;exact⟨hs,k1,by rw[k2];exact hc,fun h'=>by rw[k3];exact hv (by rw[←k2];exact h')⟩
 | .ref g vn off len,v,h=>by
   obtain⟨hs,hgn,hc,hv⟩:=h;obtain⟨k1,k2,k3,k4,k5⟩:=hg g hgn;exact⟨hs,k1,by rw[k2];exact hc,fun h'=>by rw[k3,k4,k5];exact hv (by rw[←k2];exact h')⟩
 | .ptr g vn i o,v,h=>by
   obtain⟨hs,hgn,hc,hv⟩:=h;obtain⟨k1,k2,k3,k4,k5⟩:=hg g hgn;exact⟨hs,k1,by rw[k2];exact hc,fun h'=>by rw[k3,k5];exact hv (by rw[←k2];exact h')⟩
 | .agg cs,v,h=>by obtain⟨vs,hv,h⟩:=h;exact⟨vs,hv,Na hw hi hg cs h⟩
 | .tup cs,v,h=>by obtain⟨vs,hv,h⟩:=h;exact⟨vs,hv,Na hw hi hg cs h⟩
 | .fn f cs,v,h=>by obtain⟨vs,hv,h⟩:=h;exact⟨vs,hv,Na hw hi hg cs h⟩
theorem Na {A B:MS} {σ:Nat→Nat} (hw:B.w=A.w) (hi:∀ b,A.im b→B.im b) (hg:∀ g,g<A.n→σ g<B.n∧B.cur (σ g)=A.cur g∧B.place (σ g)=A.place g∧B.cap (σ g)=A.cap g∧B.wid (σ g)=A.wid g):∀ (xs:List AV) {vs:List Value},Ae A xs vs→Ae B (renL σ xs) vs
 | [],_,h=>h
 | x::xs,_,h=>by
   obtain⟨v,r,hv,h1,h2⟩:=h;exact⟨v,r,hv,zl3 hw hi hg x h1,Na hw hi hg xs h2⟩
end
mutual
theorem z5p {A B:MS} {σ:Nat→Nat} {m:Nat} (hw:A.w=B.w) (hi:∀ b,B.im b→A.im b) (hg:∀ g,g<m→g<A.n∧B.cur (σ g)=A.cur g∧B.place (σ g)=A.place g∧B.cap (σ g)=A.cap g∧B.wid (σ g)=A.wid g):∀ (x:AV) {v:Value},ltV m x→VRel B (ren σ x) v→VRel A x v
 | .any,_,_,_=>trivial
 | .bool _,_,_,h=>h
 | .int _ _,_,_,h=>h
 | .str _,_,_,h=>h
 | .nilS,_,_,h=>h
 | .nul,_,_,h=>h
 | .emp,_,_,h=>h
 | .nilP,_,_,h=>h
 | .nilF,_,_,h=>h
 | .yld _,_,_,h=>h
 | .lst wd xs,v,_,h=>by
   obtain⟨hp,h0,a,cap,vs,hv,hc,hl,hr⟩:=h;refine⟨hp,h0,a,cap,vs,hv,hc,Ae.of_pure hw hi hp hl,fun hne=>?_⟩;obtain⟨b,o,ha,hb,hrow⟩:=hr hne;exact⟨b,o,ha,hi b hb,by rw[hw];exact hrow⟩
 | .full wd xs,v,_,h=>by
   obtain⟨hp,h0,a,vs,hv,hc,hl,hr⟩:=h;refine⟨hp,h0,a,vs,hv,hc,Ae.of_pure hw hi hp hl,fun hne=>?_⟩;obtain⟨b,o,ha,hb,hrow⟩:=hr hne;exact⟨b,o,ha,hi b hb,by rw[hw];exact hrow⟩
 | .cptr x,v,_,h=>by
   obtain⟨hp,b,o,u,hv,hb,hx,hl⟩:=h;exact⟨hp,b,o,u,hv,hi b hb,VRel.of_pure hw hi hp hx,by rw[hw];exact hl⟩
 | .map g vn,v,hm,h=>by
   obtain⟨hs,hgn,hc,hv⟩:=h;obtain⟨k1,k2,k3,k4,k5⟩:=hg g hm;exact⟨hs,k1,by rw[←k2];exact hc,fun h'=>by rw[←k3];exact hv (by rw[k2];exact h')⟩
 | .ref g vn off len,v,hm,h=>by
   obtain⟨hs,hgn,hc,hv⟩:=h;obtain⟨k1,k2,k3,k4,k5⟩:=hg g hm;exact⟨hs,k1,by rw[←k2];exact hc,fun h'=>by rw[←k3,←k4,←k5];exact hv (by rw[k2];exact h')⟩
 | .ptr g vn i o,v,hm,h=>by
   obtain⟨hs,hgn,hc,hv⟩:=h;obtain⟨k1,k2,k3,k4,k5⟩:=hg g hm;exact⟨hs,k1,by rw[←k2];exact hc,fun h'=>by rw[←k3,←k5];exact hv (by rw[k2];exact h')⟩
 | .agg cs,v,hm,h=>by obtain⟨vs,hv,h⟩:=h;exact⟨vs,hv,Fp hw hi hg cs hm h⟩
 | .tup cs,v,hm,h=>by obtain⟨vs,hv,h⟩:=h;exact⟨vs,hv,Fp hw hi hg cs hm h⟩
 | .fn f cs,v,hm,h=>by obtain⟨vs,hv,h⟩:=h;exact⟨vs,hv,Fp hw hi hg cs hm h⟩
theorem Fp {A B:MS} {σ:Nat→Nat} {m:Nat} (hw:A.w=B.w) (hi:∀ b,B.im b→A.im b) (hg:∀ g,g<m→g<A.n∧B.cur (σ g)=A.cur g∧B.place (σ g)=A.place g∧B.cap (σ g)=A.cap g∧B.wid (σ g)=A.wid g):∀ (xs:List AV) {vs:List Value},ltL m xs→Ae B (renL σ xs) vs→Ae A xs vs
 | [],_,_,h=>h
 | x::xs,_,hm,h=>by
   obtain⟨v,r,hv,h1,h2⟩:=h;exact⟨v,r,hv,z5p hw hi hg x hm.1 h1,Fp hw hi hg xs hm.2 h2⟩
end
theorem Mh {σ:Nat→Nat}:∀ xs:List AV,(renL σ xs).length=xs.length
 | []=>rfl
 | x::xs=>by simp[renL,Mh xs]
def sg (ks:List Nat) (N i:Nat):Nat:=if i<ks.length then ks.getD i 0 else N+(i-ks.length)
def iv (ks:List Nat) (N g:Nat):Nat:=if g<N then ks.idxOf g else ks.length+(g-N)
def setG:List Nat→List Grp→List Grp→List Grp
 | [],r,l=>l++r
 | _::_,[],l=>l
 | k::ks,G::r,l=>setG ks r (l.set k G)
theorem z5q:∀ {ks:List Nat} {r l:List Grp},ks.length≤r.length→(setG ks r l).length=l.length+(r.length-ks.length)
 | [],r,l,_=>by simp[setG]
 | k::ks,[],l,h=>by simp at h
 | k::ks,G::r,l,h=>by
   rw[setG,z5q (by simpa using h)];simp
theorem Nb:∀ {ks:List Nat} {r l:List Grp} {g:Nat},g<l.length→g∉ks→(setG ks r l).getD g default=l.getD g default
 | [],r,l,g,hg,_=>by simp[setG,List.getD,List.getElem?_append_left hg]
 | k::ks,[],l,g,_,_=>rfl
 | k::ks,G::r,l,g,hg,hk=>by
   simp only[List.mem_cons,not_or] at hk;rw[setG,Nb (by simpa using hg) hk.2];simp[List.getD,List.getElem?_set_ne (fun h=>hk.1 h.symm)]
theorem zd9:∀ {ks:List Nat} {r l:List Grp} {i:Nat},ks.Nodup→(∀ k∈ks,k<l.length)→i<r.length→(setG ks r l).getD (sg ks l.length i) default=r.getD i default
 | [],r,l,i,_,_,hi=>by
   simp only[setG,sg,List.length_nil,Nat.not_lt_zero,if_false,Nat.sub_zero,List.getD];rw[List.getElem?_append_right (by omega),Nat.add_sub_cancel_left]
 | k::ks,[],l,i,_,_,hi=>by simp at hi
 | k::ks,G::r,l,0,hn,hk,_=>by
   rw[List.nodup_cons] at hn;have h1:k<l.length:=hk k (by simp);have e:sg (k::ks) l.length 0=k:=by simp[sg]
   rw[e,setG,Nb (by simpa using h1) hn.1];simp[List.getD,List.getElem?_set_self h1]
 | k::ks,G::r,l,i+1,hn,hk,hi=>by
   rw[List.nodup_cons] at hn;have e:sg (k::ks) l.length (i+1)=sg ks (l.set k G).length i:=by simp[sg]
   rw[e,setG,zd9 hn.2 (fun k' h'=>by simpa using hk k' (by simp[h'])) (by simpa using hi)];simp
theorem sg_lt {ks:List Nat} {N i n:Nat} (hk:∀ k∈ks,k<N) (hi:i<n) (hm:ks.length≤n):sg ks N i<N+(n-ks.length):=by
 unfold sg;split
 · rename_i h
   have:ks.getD i 0∈ks:=by rw[List.getD_eq_getElem?_getD,List.getElem?_eq_getElem h];exact List.getElem_mem h
   have:=hk _ this;omega
 · omega
theorem zov {ks:List Nat} {N i:Nat} (hn:ks.Nodup) (hk:∀ k∈ks,k<N):iv ks N (sg ks N i)=i:=by
 unfold sg;split
 · rename_i h
   have hmem:ks.getD i 0∈ks:=by rw[List.getD_eq_getElem?_getD,List.getElem?_eq_getElem h];exact List.getElem_mem h
   rw[iv,if_pos (hk _ hmem),List.getD_eq_getElem?_getD,List.getElem?_eq_getElem h];exact hn.idxOf_getElem i h
 · rw[iv,if_neg (by omega)];omega
theorem zda {ks:List Nat} {N g:Nat} (hg:g∈ks):∃ i,i<ks.length∧sg ks N i=g:=by
 obtain⟨i,hi,he⟩:=List.getElem_of_mem hg;exact⟨i,hi,by rw[sg,if_pos hi,List.getD_eq_getElem?_getD,List.getElem?_eq_getElem hi];exact he⟩
theorem zii {ks:List Nat} {N g n:Nat} (hm:ks.length≤n) (hg:g<N+(n-ks.length)) (h:¬(g<N∧g∉ks)):∃ i,i<n∧sg ks N i=g:=by
 by_cases hgN:g<N
 · have hmem:g∈ks:=by
     by_cases hh:g∈ks
     · exact hh
     · exact absurd ⟨hgN,hh⟩ h
   obtain⟨i,hi,he⟩:=zda (N:=N) hmem;exact⟨i,by omega,he⟩
 · exact⟨ks.length+(g-N),by omega,by rw[sg,if_neg (by omega)];omega⟩
theorem Ou {σ:Nat→Nat} {l:List Grp} {i:Nat} (h:i<l.length):(l.map (renG σ)).getD i default=renG σ (l.getD i default):=by
 simp[List.getD,List.getElem?_eq_getElem h]
theorem Zu {P:Program} {f:Nat} {xs0 xs:List AV} {l0 l:List Grp} {K0 K:AV→Ac→Prop} (ks:List Nat) (h:Bi P f xs0 (hl l0) K0) (hxs:renL (sg ks l.length) xs0=xs)
   (hl0:l0.map (renG (sg ks l.length))=ks.map (fun k=>l.getD k default)) (hn:ks.Nodup) (hk:∀ k∈ks,k<l.length) (hlt:ltL ks.length xs0) (hltG:∀ G∈l0,ltL ks.length G.xs)
   (hK:∀ y H',K0 y H'→∃ l',H'=hl l'∧ks.length≤l'.length∧K (ren (sg ks l.length) y) (hl (setG ks (l'.map (renG (sg ks l.length))) l))):Bi P f xs (hl l) K:=by
 refine⟨h.1,fun S cargs hS hx=>?_⟩;have hm:l0.length=ks.length:=by simpa using congrArg List.length hl0
 have hSn:S.n=l.length:=hS.n;have hinj:∀ i j,sg ks l.length i=sg ks l.length j→i=j:=fun i j e=>by rw[←zov (i:=i) hn hk,e,zov hn hk]
 have hin:∀ i,i<ks.length→sg ks l.length i<l.length∧sg ks l.length i∈ks:=fun i hi=>by
   have e:sg ks l.length i=ks[i]:=by rw[sg,if_pos hi,List.getD_eq_getElem?_getD,List.getElem?_eq_getElem hi];rfl
   rw[e];exact⟨hk _ (List.getElem_mem hi),List.getElem_mem hi⟩
 have hat:∀ i,i<ks.length→l.getD (sg ks l.length i) default=renG (sg ks l.length) (l0.getD i default):=fun i hi=>by
   rw[←Ou (by omega),hl0,sg,if_pos hi];simp[List.getD,List.getElem?_eq_getElem hi]
 have hG:∀ i,i<ks.length→GRel S (renG (sg ks l.length) (l0.getD i default)) (sg ks l.length i):=fun i hi=>by
   have:=hS.grp (sg ks l.length i) (hin i hi).1
   rwa [Ck,hat i hi] at this
 obtain⟨O,hO⟩:∃ O:Nat→Prop,∀ b,O b↔∃ g,g<l.length∧g∉ks∧(l.getD g default).has (S.cap g)∧S.place g=b:=⟨_,fun _=>Iff.rfl⟩
 have hOfree:∀ b,O b→¬(S.im b∨S.keep b):=fun b hb=>by
   obtain⟨g,h1,h2,h3,rfl⟩:=(hO b).1 hb;exact (hS.grp g h1).has_ni (by rw[Ck];exact h3)
 obtain⟨S0,hS0d⟩:∃ S0:MS,S0={ S with keep:=fun b=>S.keep b∨O b,n:=ks.length,place:=fun i=>S.place (sg ks l.length i),cur:=fun i=>S.cur (sg ks l.length i),cap:=fun i=>S.cap (sg ks l.length i),wid:=fun i=>S.wid (sg ks l.length i) }:=⟨_,rfl⟩
 have hdn:∀ g,g<ks.length→g<S0.n∧S.cur (sg ks l.length g)=S0.cur g∧S.place (sg ks l.length g)=S0.place g∧S.cap (sg ks l.length g)=S0.cap g∧S.wid (sg ks l.length g)=S0.wid g:=fun g hg=>by
   subst hS0d;exact⟨hg,rfl,rfl,rfl,rfl⟩
 have hw0:S0.w=S.w:=by subst hS0d;rfl
 have hi0:∀ b,S.im b→S0.im b:=fun b hb=>by subst hS0d;exact hb
 have hrel0:SRel S0 (hl l0):=by
   refine⟨by subst hS0d;exact hm.symm,fun i hi=>?_,fun i j hi hj hne h1 h2=>?_,fun b hb=>?_⟩
   · have hi':i<ks.length:=by rw[←hm];exact hi
     have hg:=hG i hi';have hmem:l0.getD i default∈l0:=by rw[List.getD_eq_getElem?_getD,List.getElem?_eq_getElem (show i<l0.length from hi)];exact List.getElem_mem _
     have hlg:=hltG _ hmem;rw[Ck]
     have hnO:(l0.getD i default).has (S.cap (sg ks l.length i))→¬O (S.place (sg ks l.length i)):=fun hh ho=>by
       obtain⟨g,a1,a2,a3,a4⟩:=(hO _).1 ho;exact hS.apart g (sg ks l.length i) a1 (hin i hi').1 (fun e=>a2 (e ▸ (hin i hi').2)) (by rw[Ck];exact a3) (by rw[Ck,hat i hi'];exact hh) a4
     refine⟨by subst hS0d;exact hg.ver,by subst hS0d;exact hg.wid,fun hw hc=>?_,fun hw=>by have:=hg.len hw;subst hS0d;simpa [renG,Mh] using this,fun hw he=>by have:=hg.full hw he;subst hS0d;simpa [renG,Mh] using this,fun hw he=>?_⟩
     · have hc':0<S.cap (sg ks l.length i):=by subst hS0d;exact hc
       obtain⟨⟨cells,T,vs,b1,b2,b3,b4⟩,ni⟩:=hg.live hw hc';refine⟨⟨cells,T,vs,by subst hS0d;exact b1,by subst hS0d;exact b2,Fp hw0 hi0 hdn _ hlg b3,b4⟩,fun hh=>?_⟩;have hno:=hnO (.inl ⟨hw,hc'⟩);subst hS0d;exact hh.elim (fun hh=>ni (.inl hh)) (fun hh=>hh.elim (fun hh=>ni (.inr hh)) hno)
     · obtain⟨⟨es,clock,b1,b2⟩,ni⟩:=hg.mlive hw he
       refine⟨⟨es,clock,by subst hS0d;exact b1,Fp hw0 hi0 hdn _ hlg b2⟩,fun hh=>?_⟩;have hno:=hnO (.inr ⟨hw,he⟩);subst hS0d;exact hh.elim (fun hh=>ni (.inl hh)) (fun hh=>hh.elim (fun hh=>ni (.inr hh)) hno)
   · have hi':i<ks.length:=by rw[←hm];exact hi
     have hj':j<ks.length:=by rw[←hm];exact hj
     rw[Ck] at h1 h2;have:=hS.apart (sg ks l.length i) (sg ks l.length j) (hin i hi').1 (hin j hj').1 (fun e=>hne (hinj _ _ e)) (by rw[Ck,hat i hi'];subst hS0d;exact h1) (by rw[Ck,hat j hj'];subst hS0d;exact h2);subst hS0d;exact this
   · subst hS0d
     rcases hb with hb|hb|hb
     · exact hS.im b (.inl hb)
     · exact hS.im b (.inr hb)
     · obtain⟨g,a1,a2,a3,rfl⟩:=(hO _).1 hb
       exact (hS.grp g a1).has_lt (by rw[Ck];exact a3)
 have hx0:Ae S0 xs0 cargs:=Fp hw0 hi0 hdn xs0 hlt (by rw[hxs];exact hx);have hsz:S0.w.heap=S.w.heap:=by rw[hw0]
 have hcall:=h.2 S0 cargs hrel0 hx0;rw[hw0] at hcall;refine hcall.mono fun e w' hh=>?_;obtain⟨v,S1,y,H',he,hw1,ev,hS1,hv,hk0⟩:=hh;obtain⟨l',rfl,hml,hK'⟩:=hK y H' hk0;have hn1:S1.n=l'.length:=hS1.n
 have hnot:∀ i,¬(sg ks l.length i<l.length∧sg ks l.length i∉ks):=fun i hh=>by
   by_cases hi:i<ks.length
   · exact hh.2 (hin i hi).2
   · have:sg ks l.length i=l.length+(i-ks.length):=by rw[sg,if_neg hi]
     omega
 obtain⟨S',hS'd⟩:∃ S':MS,S'={ w:=S1.w,im:=S1.im,keep:=fun b=>S1.keep b∧¬O b,n:=l.length+(l'.length-ks.length),place:=fun g=>if g<l.length∧g∉ks then S.place g else S1.place (iv ks l.length g),cur:=fun g=>if g<l.length∧g∉ks then S.cur g else S1.cur (iv ks l.length g),cap:=fun g=>if g<l.length∧g∉ks then S.cap g else S1.cap (iv ks l.length g),wid:=fun g=>if g<l.length∧g∉ks then S.wid g else S1.wid (iv ks l.length g),base:=S1.base }:=⟨_,rfl⟩
 have hoth:∀ g,g<l.length→g∉ks→S'.place g=S.place g∧S'.cur g=S.cur g∧S'.cap g=S.cap g∧S'.wid g=S.wid g:=fun g h1 h2=>by
   subst hS'd;exact⟨if_pos ⟨h1,h2⟩,if_pos ⟨h1,h2⟩,if_pos ⟨h1,h2⟩,if_pos ⟨h1,h2⟩⟩
 have hour:∀ i,S'.place (sg ks l.length i)=S1.place i∧S'.cur (sg ks l.length i)=S1.cur i∧S'.cap (sg ks l.length i)=S1.cap i∧S'.wid (sg ks l.length i)=S1.wid i:=fun i=>by
   subst hS'd;refine⟨?_,?_,?_,?_⟩<;>simp only[if_neg (hnot i),zov hn hk]
 have hn':S'.n=l.length+(l'.length-ks.length):=by subst hS'd;rfl
 have hwS':S'.w=S1.w:=by subst hS'd;rfl
 have hup:∀ g,g<S1.n→sg ks l.length g<S'.n∧S'.cur (sg ks l.length g)=S1.cur g∧S'.place (sg ks l.length g)=S1.place g∧S'.cap (sg ks l.length g)=S1.cap g∧S'.wid (sg ks l.length g)=S1.wid g:=fun g hg=>by
   obtain⟨a1,a2,a3,a4⟩:=hour g;exact⟨by rw[hn'];exact sg_lt hk (by omega) hml,a2,a1,a3,a4⟩
 have hiS':∀ b,S1.im b→S'.im b:=fun b hb=>by subst hS'd;exact hb
 have hkS0:∀ b,O b→S0.keep b:=fun b hb=>by subst hS0d;exact .inr hb
 have hn0:S0.n=ks.length:=by subst hS0d;rfl
 have hevo:Evo S S':=by
   refine⟨?_,?_,?_,?_,?_,fun b hb=>?_,fun b hb=>?_,fun b hb=>?_,fun b hb=>?_,?_,fun g hg=>?_,fun g hg he=>?_⟩
   · have:=ev.base;subst hS'd;subst hS0d;exact this
   · have:=ev.os;rw[hw0] at this;rw[hwS'];exact this
   · have:=ev.tape;rw[hw0] at this;rw[hwS'];exact this
   · have:=ev.output;rw[hw0] at this;rw[hwS'];exact this
   · have:=ev.size;rw[hw0] at this;rw[hwS'];exact this
   · have:=ev.kept b (by subst hS0d;exact hb.imp id .inl);rw[hw0] at this;rw[hwS'];exact this
   · exact hiS' b (ev.im b (hi0 b hb))
   · have h1:=ev.keep b (by subst hS0d;exact .inl hb)
     subst hS'd;exact⟨h1,fun ho=>hOfree b ho (.inr hb)⟩
   · have h1:=ev.fresh b (by subst hS'd;exact hb)
     subst hS0d;exact h1.imp id fun hh h2=>hh (.inl h2)
   · rw[hn',hSn];omega
   · rw[hSn] at hg
     by_cases hmem:g∈ks
     · obtain⟨i,hi,rfl⟩:=zda (N:=l.length) hmem
       rw[(hour i).2.1];have:=ev.cur i (by rw[hn0];exact hi);subst hS0d;exact this
     · rw[(hoth g hg hmem).2.1];exact Nat.le_refl _
   · rw[hSn] at hg
     by_cases hmem:g∈ks
     · obtain⟨i,hi,rfl⟩:=zda (N:=l.length) hmem
       obtain⟨a1,a2,a3,a4⟩:=hour i;rw[a1,a3,a4];rw[a2] at he;have:=ev.same i (by rw[hn0];exact hi) (by subst hS0d;exact he);subst hS0d;exact this
     · obtain⟨a1,a2,a3,a4⟩:=hoth g hg hmem
       exact⟨a1,a3,a4⟩
 have hlen:(setG ks (l'.map (renG (sg ks l.length))) l).length=l.length+(l'.length-ks.length):=by rw[z5q (by simpa using hml)];simp
 have hatO:∀ g,g<l.length→g∉ks→(setG ks (l'.map (renG (sg ks l.length))) l).getD g default=l.getD g default:=fun g h1 h2=>Nb h1 h2
 have hatI:∀ i,i<l'.length→(setG ks (l'.map (renG (sg ks l.length))) l).getD (sg ks l.length i) default=renG (sg ks l.length) (l'.getD i default):=fun i hi=>by
   rw[zd9 hn hk (by simpa using hi),Ou hi]
 have hrel':SRel S' (hl (setG ks (l'.map (renG (sg ks l.length))) l)):=by
   have hcov:∀ g,g<(setG ks (l'.map (renG (sg ks l.length))) l).length→(g<l.length∧g∉ks)∨∃ i,i<l'.length∧sg ks l.length i=g:=fun g hg=>by
     by_cases hh:g<l.length∧g∉ks
     · exact .inl hh
     · exact .inr (zii hml (by rw[←hlen];exact hg) hh)
   have hfree1:∀ i,i<l'.length→(l'.getD i default).has (S1.cap i)→¬S1.keep (S1.place i):=fun i hi hh hkk=>(hS1.grp i hi).has_ni (by rw[Ck];exact hh) (.inr hkk);refine⟨by rw[hn'];exact hlen.symm,fun g hg=>?_,fun g g' hg hg' hne h1 h2=>?_,fun b hb=>?_⟩
   · rcases hcov g hg with⟨h1,h2⟩|⟨i,hi,rfl⟩
     · have hr:=hS.grp g h1
       obtain⟨a1,a2,a3,a4⟩:=hoth g h1 h2;rw[Ck] at hr ⊢;rw[hatO g h1 h2]
       have hblk:(l.getD g default).has (S.cap g)→S'.w.heap[S.place g]? = S.w.heap[S.place g]? := fun hh=>by
         have:=ev.kept (S.place g) (.inr (hkS0 _ ((hO _).2 ⟨g,h1,h2,hh,rfl⟩)));rw[hw0] at this;rw[hwS'];exact this
       have hnik:(l.getD g default).has (S.cap g)→¬(S'.im (S.place g)∨S'.keep (S.place g)):=fun hh hik=>by
         have ho:O (S.place g):=(hO _).2 ⟨g,h1,h2,hh,rfl⟩;rcases hik with hik|hik
         · rcases ev.fresh (S.place g) (by subst hS'd;exact hik) with h3|h3
           · exact hOfree _ ho (.inl (by subst hS0d;exact h3))
           · exact h3 (hkS0 _ ho)
         · subst hS'd;exact hik.2 ho
       refine⟨by rw[a2];exact hr.ver,by rw[a4];exact hr.wid,fun hw hc=>?_,fun hw=>by rw[a3];exact hr.len hw,fun hw he=>by rw[a3];exact hr.full hw he,fun hw he=>?_⟩
       · rw[a3] at hc
         obtain⟨⟨cells,T,vs,b1,b2,b3,b4⟩,ni⟩:=hr.live hw hc;rw[a1,a3];exact⟨⟨cells,T,vs,by rw[hblk (.inl ⟨hw,hc⟩)];exact b1,b2,b3.mono hevo,b4⟩,hnik (.inl ⟨hw,hc⟩)⟩
       · obtain⟨⟨es,clock,b1,b2⟩,ni⟩:=hr.mlive hw he
         rw[a1];exact⟨⟨es,clock,by rw[hblk (.inr ⟨hw,he⟩)];exact b1,b2.mono hevo⟩,hnik (.inr ⟨hw,he⟩)⟩
     · have hr:=hS1.grp i hi
       obtain⟨a1,a2,a3,a4⟩:=hour i;rw[Ck] at hr ⊢;rw[hatI i hi]
       have hnik:¬(S1.im (S1.place i)∨S1.keep (S1.place i))→¬(S'.im (S1.place i)∨S'.keep (S1.place i)):=fun hh hik=>by
         subst hS'd;exact hh (hik.imp id fun h3=>h3.1)
       refine⟨by rw[a2];exact hr.ver,by rw[a4];exact hr.wid,fun hw hc=>?_,fun hw=>by rw[a3];have:=hr.len hw;simpa [renG,Mh] using this,fun hw he=>by rw[a3];have:=hr.full hw he;simpa [renG,Mh] using this,fun hw he=>?_⟩
       · rw[a3] at hc
         obtain⟨⟨cells,T,vs,b1,b2,b3,b4⟩,ni⟩:=hr.live hw hc;rw[a1,a3];exact⟨⟨cells,T,vs,by rw[hwS'];exact b1,b2,Na hwS' hiS' hup _ b3,b4⟩,hnik ni⟩
       · obtain⟨⟨es,clock,b1,b2⟩,ni⟩:=hr.mlive hw he
         rw[a1];exact⟨⟨es,clock,by rw[hwS'];exact b1,Na hwS' hiS' hup _ b2⟩,hnik ni⟩
   · have hmix:∀ g i,g<l.length→g∉ks→i<l'.length→(l.getD g default).has (S.cap g)→(l'.getD i default).has (S1.cap i)→S.place g≠S1.place i:=fun g i b1 b2 b3 b4 b5 e=>by
       have h3:=ev.keep _ (hkS0 _ ((hO _).2 ⟨g,b1,b2,b4,rfl⟩));rw[e] at h3;exact hfree1 i b3 b5 h3
     rw[Ck] at h1 h2;rcases hcov g hg with⟨c1,c2⟩|⟨i,hi,rfl⟩<;>rcases hcov g' hg' with⟨d1,d2⟩|⟨j,hj,rfl⟩
     · rw[hatO g c1 c2,(hoth g c1 c2).2.2.1] at h1
       rw[hatO g' d1 d2,(hoth g' d1 d2).2.2.1] at h2;rw[(hoth g c1 c2).1,(hoth g' d1 d2).1];exact hS.apart g g' c1 d1 hne (by rw[Ck];exact h1) (by rw[Ck];exact h2)
     · rw[hatO g c1 c2,(hoth g c1 c2).2.2.1] at h1
       rw[hatI j hj,(hour j).2.2.1] at h2;rw[(hoth g c1 c2).1,(hour j).1];exact hmix g j c1 c2 hj h1 h2
     · rw[hatI i hi,(hour i).2.2.1] at h1
       rw[hatO g' d1 d2,(hoth g' d1 d2).2.2.1] at h2;rw[(hoth g' d1 d2).1,(hour i).1];exact fun e=>hmix g' i d1 d2 hi h2 h1 e.symm
     · rw[hatI i hi,(hour i).2.2.1] at h1
       rw[hatI j hj,(hour j).2.2.1] at h2;rw[(hour i).1,(hour j).1];exact hS1.apart i j hi hj (fun e=>hne (by rw[e])) (by rw[Ck];exact h1) (by rw[Ck];exact h2)
   · rw[hwS']
     refine hS1.im b ?_;subst hS'd;exact hb.imp id fun h3=>h3.1
 exact⟨v,S',_,_,he,by rw[hwS'];exact hw1,hevo,hrel',zl3 hwS' hiS' hup y hv,hK'⟩
mutual
theorem zij (σ:Nat→Nat):∀ (x:AV),x.pure=true→ren σ x=x
 | .any,_=>rfl
 | .bool _,_=>rfl
 | .int _ _,_=>rfl
 | .str _,_=>rfl
 | .nilS,_=>rfl
 | .nul,_=>rfl
 | .emp,_=>rfl
 | .lst _ _,_=>rfl
 | .full _ _,_=>rfl
 | .cptr _,_=>rfl
 | .nilP,_=>rfl
 | .nilF,_=>rfl
 | .yld _,_=>rfl
 | .map _ _,h=>by cases h
 | .ref _ _ _ _,h=>by cases h
 | .ptr _ _ _ _,h=>by cases h
 | .agg cs,h=>by rw[ren,I4 σ cs h]
 | .tup cs,h=>by rw[ren,I4 σ cs h]
 | .fn f cs,h=>by rw[ren,I4 σ cs h]
theorem I4 (σ:Nat→Nat):∀ (xs:List AV),Aw xs=true→renL σ xs=xs
 | [],_=>rfl
 | x::xs,h=>by
   simp only[Aw,Bool.and_eq_true] at h;rw[renL,zij σ x h.1,I4 σ xs h.2]
end
mutual
theorem C5 (m:Nat):∀ (x:AV),x.pure=true→ltV m x
 | .any,_=>trivial
 | .bool _,_=>trivial
 | .int _ _,_=>trivial
 | .str _,_=>trivial
 | .nilS,_=>trivial
 | .nul,_=>trivial
 | .emp,_=>trivial
 | .lst _ _,_=>trivial
 | .full _ _,_=>trivial
 | .cptr _,_=>trivial
 | .nilP,_=>trivial
 | .nilF,_=>trivial
 | .yld _,_=>trivial
 | .map _ _,h=>by cases h
 | .ref _ _ _ _,h=>by cases h
 | .ptr _ _ _ _,h=>by cases h
 | .agg cs,h=>C9 m cs h
 | .tup cs,h=>C9 m cs h
 | .fn f cs,h=>C9 m cs h
theorem C9 (m:Nat):∀ (xs:List AV),Aw xs=true→ltL m xs
 | [],_=>trivial
 | x::xs,h=>by
   simp only[Aw,Bool.and_eq_true] at h;exact⟨C5 m x h.1,C9 m xs h.2⟩
end
def renM (σ:Nat→Nat) (xs:List AV):List AV:=renL σ xs
def ltM (m:Nat) (xs:List AV):Prop:=ltL m xs
section
variable {ks:List Nat} {N i m g k v o n w f:Nat} {x:AV} {xs cs:List AV} {e:Bool} {G:Grp} {r l:List Grp}
theorem zow:renL (sg ks N) xs=bif Aw xs then xs else renM (sg ks N) xs:=by
 cases h:Aw xs
 · rfl
 · exact I4 _ xs h
theorem zsv:ltL m xs=ifB (Aw xs) (ltM m xs):=propext ⟨fun h=>.inr h,fun h=>h.elim (C9 m xs) id⟩
theorem zik:renM (sg ks N) []=[]:=rfl
theorem zdb:renM (sg ks N) (x::xs)=ren (sg ks N) x::renM (sg ks N) xs:=rfl
theorem zox:ltM m []=True:=rfl
theorem zil:ltM m (x::xs)=(ltV m x∧ltM m xs):=rfl
theorem zsw:ren (sg ks N) .any=.any:=rfl
theorem zoy {b:Bool}:ren (sg ks N) (.bool b)=.bool b:=rfl
theorem zsx {q:IntKind} {z:Int}:ren (sg ks N) (.int q z)=.int q z:=rfl
theorem zsy {s:List UInt8}:ren (sg ks N) (.str s)=.str s:=rfl
theorem zoz:ren (sg ks N) .nilS=.nilS:=rfl
theorem zsz:ren (sg ks N) .nul=.nul:=rfl
theorem zt0:ren (sg ks N) .emp=.emp:=rfl
theorem zp0:ren (sg ks N) .nilP=.nilP:=rfl
theorem zp1:ren (sg ks N) .nilF=.nilF:=rfl
theorem zt1:ren (sg ks N) (.lst w xs)=.lst w xs:=rfl
theorem zp2:ren (sg ks N) (.full w xs)=.full w xs:=rfl
theorem zp3:ren (sg ks N) (.cptr x)=.cptr x:=rfl
theorem zt2:ren (sg ks N) (.ref g v o n)=.ref (sg ks N g) v o n:=rfl
theorem zt3:ren (sg ks N) (.ptr g v i o)=.ptr (sg ks N g) v i o:=rfl
theorem zt4:ren (sg ks N) (.map g v)=.map (sg ks N g) v:=rfl
theorem zt5:ren (sg ks N) (.agg cs)=.agg (renL (sg ks N) cs):=rfl
theorem zt6:ren (sg ks N) (.tup cs)=.tup (renL (sg ks N) cs):=rfl
theorem re_fn:ren (sg ks N) (.fn f cs)=.fn f (renL (sg ks N) cs):=rfl
theorem zt7:ltV m .any=True:=rfl
theorem zp4 {b:Bool}:ltV m (.bool b)=True:=rfl
theorem zt8 {q:IntKind} {z:Int}:ltV m (.int q z)=True:=rfl
theorem zt9 {s:List UInt8}:ltV m (.str s)=True:=rfl
theorem zp5:ltV m .nilS=True:=rfl
theorem zta:ltV m .nul=True:=rfl
theorem ztb:ltV m .emp=True:=rfl
theorem zp6:ltV m .nilP=True:=rfl
theorem zp7:ltV m .nilF=True:=rfl
theorem ztc:ltV m (.lst w xs)=True:=rfl
theorem zp8:ltV m (.full w xs)=True:=rfl
theorem zp9:ltV m (.cptr x)=True:=rfl
theorem ztd:ltV m (.ref g v o n)=(g<m):=rfl
theorem zte:ltV m (.ptr g v i o)=(g<m):=rfl
theorem ztf:ltV m (.map g v)=(g<m):=rfl
theorem ztg:ltV m (.agg cs)=ltL m cs:=rfl
theorem zth:ltV m (.tup cs)=ltL m cs:=rfl
theorem lv_fn:ltV m (.fn f cs)=ltL m cs:=rfl
theorem sg_eq:sg ks N i=if i<ks.length then ks.getD i 0 else N+(i-ks.length):=rfl
theorem reG {σ:Nat→Nat}:renG σ ⟨w,v,e,xs⟩=⟨w,v,e,renL σ xs⟩:=rfl
theorem zti:setG [] r l=l++r:=rfl
theorem zdc:setG (k::ks) (G::r) l=setG ks r (l.set k G):=rfl
end
attribute [push_cast] zow zsv zik zdb zox zil zsw zoy zsx zsy zoz zsz zt0 zp0 zp1 zt1 zp2 zp3 zt2 zt3 zt4 zt5 zt6 re_fn
attribute [push_cast] zt7 zp4 zt8 zt9 zp5 zta ztb zp6 zp7 ztc zp8 zp9 ztd zte ztf ztg zth lv_fn sg_eq reG zti zdc List.set_cons_zero List.set_cons_succ List.getD_cons_zero List.getD_cons_succ
theorem Q5 {P:Program} {f:Nat} {xs0 xs:List AV} {l0 l:List Grp} {K0 K:AV→Ac→Prop} (ks:List Nat) (h:Bi P f xs0 (hl l0) K0) (hn:ks.Nodup) (hk:∀ k∈ks,k<l.length) (hxs:renL (sg ks l.length) xs0=xs)
   (hl0:l0.map (renG (sg ks l.length))=ks.map (fun k=>l.getD k default)) (hlt:ltL ks.length xs0) (hltG:∀ G∈l0,ltL ks.length G.xs)
   (hK:∀ y H',K0 y H'→∃ l',H'=hl l'∧ks.length≤l'.length∧@nx (ren (sg ks l.length) y) (hl (setG ks (l'.map (renG (sg ks l.length))) l)) ⟨K⟩):@Vw P f xs (hl l) ⟨K⟩ :=
 Zu ks h hxs hl0 hn hk hlt hltG hK
section
variable {P:Program} {n b:Nat} {env:Env} {H:Ac}
theorem T0 {S:MS} {l2:List Grp} {H1:Ac} {ks:List Nat} {val:Nat→Value} (hS:SRel S (hl l2)) (hF:∀ i,VRel S (rnV b H1 ks 6 (env i)) (val i)):∀ {live:List (Nat × AV)},Nv l2 H1 b ks env live→∀ i,VRel S (C8 live i) (val i)
 | [],_,i=>trivial
 | (t,y)::r,h,i=>by
   show VRel S (if i=t then y else C8 r i) _;split
   · rename_i hit
     subst hit;exact Yx (.inl hS) _ h.1 (hF i)
   · exact T0 hS hF h.2 i
theorem Wo:∀ (ws:List Nat) {S:MS} {l:List Grp} {val:Nat→Value},(∀ w∈ws,0<w)→SRel S (hl l)→(∀ i,VRel S (env i) (val i))→∃ S',S'.w=S.w∧Evo S S'∧SRel S' (hl (l++ws.map Io))∧∀ i,VRel S' (env i) (val i)
 | [],S,l,val,_,hS,hF=>⟨S,rfl,.refl S,by simpa using hS,hF⟩
 | w::ws,S,l,val,hw,hS,hF=>by
   have h1:=hS.virt w (hw w (by simp));rw[D4] at h1;obtain⟨S',e1,e2,e3,e4⟩:=Wo ws (S:=S.virt w) (l:=l++[Io w]) (fun w' h'=>hw w' (by simp[h'])) h1 (fun j=>VRel.mono (Evo.virt _) _ (hF j));exact⟨S',e1,(Evo.virt _).trans e2,by simpa using e3,e4⟩
theorem zim {srcs:List Src} {live:List (Nat × AV)} {heap:List Grp} {S:MS} {val:Nat→Value} (hh:Head b env H srcs live heap) (hbS:b≤S.n) (hS:SRel S H) (hF:∀ i,VRel S (env i) (val i)) :
   ∃ S',S'.w=S.w∧BEvo b S S'∧SRel S' (hl heap)∧∀ i,VRel S' (C8 live i) (val i):=by
 obtain⟨hb,hh⟩:=hh;have hgn:H.groups.length=H.n:=by simp[Ac.groups]
 have hS1:SRel S (hl H.groups):=hS.congr hgn (fun g hg=>by
   show H.groups.getD g default=_
   simp[Ac.groups,List.getD,hg])
 obtain⟨S2,e1,e2,e3,e4⟩:=Wo (Et H.n srcs).2 (Jz hh.1) hS1 hF;replace hh:=hh.2;generalize hl1:H.groups++(Et H.n srcs).2.map Io=l1 at *;obtain⟨h1,h2,h3,h4⟩:=hh;have hb1:b≤l1.length:=by rw[←hl1,List.length_append];omega
 have hbS2:b≤S2.n:=Nat.le_trans hbS e2.n;obtain⟨k1,k2⟩:=Qb (ks:=(Et H.n srcs).1) hb1;have hev:=Jw (ks:=(Et H.n srcs).1) e3 hbS2;have hrel:=(M6 (ks:=(Et H.n srcs).1) 6 e3 hb1 (fun k hk=>Pj h1 k hk) (Hw h2)).congr k1 k2;exact⟨S2.repack b (hl l1) (Et H.n srcs).1,e1,(e2.down hbS).trans hev,Jy hrel h4,T0 hrel (fun j=>z91 e3 6 (e4 j)) h3⟩
def Drop (b:Nat) (y:AV) (H:Ac) [K:HK]:Prop:=∃ srcs y' heap,Head b (C8 [(0,y)]) H srcs [(0,y')] heap∧K.f y' (hl heap)
theorem zl4 {y:AV} {K:AV→Ac→Prop} (srcs:List Src) (y':AV) (heap:List Grp) (h1:Head b (C8 [(0,y)]) H srcs [(0,y')] heap) (h2:K y' (hl heap)):@Drop b y H ⟨K⟩:=⟨srcs,y',heap,h1,h2⟩
theorem Q6 {f:Nat} {xs:List AV} {l:List Grp} {K:AV→Ac→Prop} (h:Bi P f xs (hl l) (fun y H'=>@Drop l.length y H' ⟨K⟩)):Bi P f xs (hl l) K :=
 ⟨h.1,fun S cargs hS hx=>(h.2 S cargs hS hx).mono fun e w' hh=>by
   obtain⟨v,S1,y,H',he,hw,ev,hS1,hv,srcs,y',heap,h1,h2⟩:=hh;have hn:S.n=l.length:=hS.n
   obtain⟨S2,q1,q2,q3,q4⟩:=zim (S:=S1) (val:=fun i=>if i=0 then v else undef) h1 (by rw[←hn];exact ev.n) hS1 (fun i=>by
     show VRel S1 (if i=0 then y else .any) _;split
     · exact hv
     · trivial)
   have hb:=(ev.down (b:=l.length) (by omega)).trans q2
   exact⟨v,S2,y',_,he,q1.trans hw,⟨hb.base,hb.os,hb.tape,hb.output,hb.size,hb.kept,hb.im,hb.keep,hb.fresh,by rw[hn];exact hb.n,fun g hg=>hb.cur g (by omega),fun g hg=>hb.same g (by omega)⟩,q3,q4 0,h2⟩⟩
theorem zin {f m np b:Nat} {xs:List AV} {l:List Grp} {K:AV→Ac→Prop} {res:List ARes} {B:AC} (hf:As P f xs.length=some ⟨m,np,res,B⟩) (hb:b=l.length) (h:W P m b B (entry xs) (hl l) (Ret P res fun y H'=>@Drop b y H' ⟨K⟩)):Bi P f xs (hl l) K:=by
 subst hb;exact Q6 (z59 hf (W_T h))
end
theorem zio (env:Env):setL env [] []=env:=rfl
theorem zdd (env:Env) (p:Nat) (ps:List Nat) (x:AV) (r:List AV):setL env (p::ps) (x::r)=setL (env.put (some p) x) ps r:=rfl
attribute [push_cast] zio zdd
section
variable {P:Program} {n b:Nat} {S:MS} {H:Ac}
theorem put_defers (a:Act) (d:Option Nat) (v:Value):(a.put d v).defers=a.defers:=by cases d<;>rfl
theorem ztj (hS:SRel S H) {env:Env} {a:Act} (hF:FRel S n env a) {o:Oper} {q:AOp} {ops:Array Oper} (h:Bu P n ops o=some q) {K:AV→Ac→Prop} (hst:Af P q.k H (q.vals env) K)
   {N:Act→World→Prop} {Q:Exit→Act→World→Prop} (hN:∀ S' H' x a',Evo S S'→SRel S' H'→FRel S' n (env.put q.dst x) a'→a'.defers=a.defers→K x H'→N a' S'.w) (r:Option Nat) (m:Nat):o.wpIn (fen r) m P a S.w N Q:=by
 obtain⟨h1,h2,h3,h4,_⟩:=Bg h;have hargs:=Jt hF h2;have h1':=Hr h1 fun e=>by rw[e] at hst;simp[Af] at hst
 have hsem:o.semAt (fen r).round a.eval=execOp a.eval o:=Oper.semAt_eq _ _ _ fun c hc=>by rw[hc] at h1';cases h1'
 rcases Te hS o h1 (ρ:=a.eval) hargs hst with⟨v,S',x,H',hr,e,hS',hv,hK⟩|⟨f,cargs,hr,hc⟩
 · have hN':=fun v' (hv':VRel S' x v')=>hN S' H' x (a.put o.dst v') e hS' (by rw[h3];exact (hF.mono e).put h4 hv') (put_defers _ _ _) hK
   refine⟨fun _ _=>trivial,?_⟩;rw[hsem];rcases hr with hr|⟨hr,rfl⟩<;>rw[hr]
   · exact hN' v hv
   · exact hN' undef hv
 · refine⟨fun _ _=>trivial,?_⟩
   rw[hsem,hr,Oper.uponIn_enter];refine⟨fun h=>(by cases h),Px (hc.mono fun e w' hh=>?_)⟩;obtain⟨v,S',x,H',rfl,rfl,ev,hS',hv,hK⟩:=hh;exact hN S' H' x (a.put o.dst v) ev hS' (by rw[h3];exact (hF.mono ev).put h4 hv) (put_defers _ _ _) hK
theorem Hb {ops:Array Oper} {Q:Exit→Act→World→Prop} {rd:Option Nat} {m:Nat} (tl:List Nat):∀ (l:List Oper) (l':List AOp) (k:Nat),(∀ j,j<l.length→l[j]? = ops[k+j]?)→l.mapM (Bu P n ops)=some l'→∀ {S:MS} {H:Ac} {env:Env} {a:Act} {K:Env→Ac→Prop},
   SRel S H→FRel S n env a→runK P l' env H K→(∀ S' H' env' a',Evo S S'→SRel S' H'→FRel S' n env' a'→a'.defers=a.defers→K env' H'→wpOpsIn (fen rd) m P ops Q tl a' S'.w)→wpOpsIn (fen rd) m P ops Q (List.range' k l.length++tl) a S.w
 | [],l',k,_,hm,S,H,env,a,K,hS,hF,hr,hQ=>by
   simp at hm;subst hm;exact hQ S H env a (.refl S) hS hF rfl hr
 | o::l,l',k,hl,hm,S,H,env,a,K,hS,hF,hr,hQ=>by
   rw[List.mapM_cons] at hm;simp only[Option.bind_eq_bind,Option.bind_eq_some_iff,Option.pure_def,Option.some.injEq] at hm;obtain⟨q,hq,r,hrr,rfl⟩:=hm;have h0:ops[k]? = some o:=by simpa using (hl 0 (by simp)).symm
   have hl':∀ j,j<l.length→l[j]? = ops[k+1+j]? := fun j hj=>by have:=hl (j+1) (by simp;omega);simpa [Nat.add_assoc,Nat.add_comm 1 j] using this
   have hg:=Pw hq hF hr;rw[show List.range' k (o::l).length++tl=k::(List.range' (k+1) l.length++tl) from rfl];simp only[wpOpsIn,h0];cases hw:Region.wanted o (yielded ops a.tmps)
   · rw[hw] at hg
     simp only[Bool.false_eq_true,if_false] at hg ⊢;obtain⟨_,_,h3,h4,_⟩:=Bg hq;exact⟨fun _ _=>trivial,Hb tl l r (k+1) hl' hrr hS (by rw[h3];exact hF.put h4 Iq) hg (fun S' H' env' a' e hS' hF' hd=>hQ S' H' env' a' e hS' hF' (hd.trans (put_defers _ _ _)))⟩
   · rw[hw] at hg
     simp only[if_true] at hg ⊢;refine ztj hS hF hq hg (fun S' H' x a' e hS' hF' hd hK=>?_) rd m;exact Hb tl l r (k+1) hl' hrr hS' hF' hK (fun S2 H2 env2 a2 e2 hS2 hF2 hd2 hK2=>hQ S2 H2 env2 a2 (e.trans e2) hS2 hF2 (hd2.trans hd) hK2)
end
structure Itr where
 P:Program
 l:Nat
 m:Nat
 rows:List (List AV)
 S0:MS
 J:Nat→(Nat→Prop)→World→Prop
 Jx:Nat→(Nat→Prop)→World→Prop
 cJ:Clo J
 cx:Clo Jx
 fact:∀ k O W,J k O W∨Jx k O W→(∀ b,S0.im b→¬O b∧W.heap[b]? = S0.w.heap[b]?)∧(W.os=S0.w.os∧W.tape=S0.w.tape∧W.output=S0.w.output)∧S0.w.heap.size≤W.heap.size∧∀ b,O b→S0.w.heap.size≤b∧b<W.heap.size
 round:∀ k row O W,rows[k]? = some row→J k O W→YieldAt Fence.wide m P l (encI row) W fun e W'=>W.heap.size≤W'.heap.size∧(∀ b,O b→W'.heap[b]? = W.heap[b]?)∧(e=.returned (.bool true)∧J (k+1) O W'∨e=.returned (.bool false)∧Jx (k+1) O W')
namespace Itr
def at_ (I:Itr):Option Nat→(Nat→Prop)→World→Prop
 | some k,O,W=>I.J k O W
 | none,O,W=>∃ k,I.Jx k O W
structure Now (I:Itr) (s:Option Nat) (X:Nat→Prop) (S:MS) (H:Ac):Prop where
 rel:SRel S H
 base:S.base≤S.w.heap.size
 keep:∀ b,X b→S.keep b
 im:∀ b,I.S0.im b→S.im b
 apart:∀ b,S.im b→I.S0.im b∨¬X b
 st:I.at_ s (fun b=>b<S.w.heap.size∧¬X b∧¬I.S0.im b) S.w
theorem Now.on {I:Itr} {s:Option Nat} {X:Nat→Prop} {S S':MS} {H H':Ac} (h:I.Now s X S H) (e:Evo S S') (hr:SRel S' H'):I.Now s X S' H':=by
 have hX:∀ b,X b→b<S.w.heap.size:=fun b hb=>h.rel.im b (.inr (h.keep b hb));have hi0:∀ b,I.S0.im b→b<S.w.heap.size:=fun b hb=>h.rel.im b (.inl (h.im b hb));refine⟨hr,by rw[e.base];exact Nat.le_trans h.base e.size,fun b hb=>e.keep b (h.keep b hb),fun b hb=>e.im b (h.im b hb),fun b hb=>?_,?_⟩
 · rcases e.fresh b hb with hh|hh
   · exact h.apart b hh
   · exact .inr fun hx=>hh (h.keep b hx)
 · have ho:(fun b=>b<S'.w.heap.size∧¬X b∧¬I.S0.im b)=fun b=>(b<S.w.heap.size∧¬X b∧¬I.S0.im b)∨(S.w.heap.size≤b∧b<S'.w.heap.size):=by
     funext b;refine propext ⟨fun⟨h1,h2,h3⟩=>?_,fun hh=>?_⟩
     · rcases Nat.lt_or_ge b S.w.heap.size with hl|hl
       · exact .inl ⟨hl,h2,h3⟩
       · exact .inr ⟨hl,h1⟩
     · rcases hh with⟨h1,h2,h3⟩|⟨h1,h2⟩
       · exact⟨Nat.lt_of_lt_of_le h1 e.size,h2,h3⟩
       · exact⟨h2,fun hx=>by have:=hX b hx;omega,fun hx=>by have:=hi0 b hx;omega⟩
   rw[ho]
   have hk:∀ b,b<S.w.heap.size→¬(b<S.w.heap.size∧¬X b∧¬I.S0.im b)→S'.w.heap[b]? = S.w.heap[b]? := fun b hb hn=>by
     by_cases hx:X b
     · exact e.kept b (.inr (h.keep b hx))
     · by_cases hi:I.S0.im b
       · exact e.kept b (.inl (h.im b hi))
       · exact absurd ⟨hb,hx,hi⟩ hn
   cases s with
   | some k=>exact I.cJ k _ _ _ h.st e.os e.tape e.output e.size hk
   | none=>obtain⟨k,hj⟩:=h.st;exact⟨k,I.cx k _ _ _ hj e.os e.tape e.output e.size hk⟩
theorem Now.round {I:Itr} {k:Nat} {X:Nat→Prop} {S:MS} {H:Ac} (h:I.Now (some k) X S H) {W':World} {s':Option Nat} (hsz:S.w.heap.size≤W'.heap.size) (ho:∀ b,b<S.w.heap.size∧¬X b∧¬I.S0.im b→W'.heap[b]? = S.w.heap[b]?)
   (hi:∀ b,I.S0.im b→W'.heap[b]? = S.w.heap[b]?) (hst:I.at_ s' (fun b=>b<S.w.heap.size∧¬X b∧¬I.S0.im b) W') :
   ∃ S',S'.w=W'∧I.Now s' (fun b=>X b∨(S.w.heap.size≤b∧b<W'.heap.size)) S' H∧Evi S S':=by
 obtain⟨S',hd⟩:∃ S':MS,S'={ S with w:=W',keep:=fun b=>S.keep b∨(S.w.heap.size≤b∧b<W'.heap.size) }:=⟨_,rfl⟩;have hX:∀ b,X b→b<S.w.heap.size:=fun b hb=>h.rel.im b (.inr (h.keep b hb));have him:∀ b,S.im b→b<S.w.heap.size:=fun b hb=>h.rel.im b (.inl hb);have hi0:∀ b,I.S0.im b→b<S.w.heap.size:=fun b hb=>him b (h.im b hb)
 have hw:∀ b,S.im b→W'.heap[b]? = S.w.heap[b]? := fun b hb=>by
   by_cases h0:I.S0.im b
   · exact hi b h0
   · exact ho b ⟨him b hb,(h.apart b hb).resolve_left h0,h0⟩
 refine⟨S',by rw[hd],⟨?_,?_,?_,?_,?_,?_⟩,?_⟩
 · subst hd
   exact h.rel.turn2 hw rfl rfl rfl rfl rfl rfl (fun b hb=>hb.imp id And.left) (fun b hb=>hb.elim (fun hh=>Nat.lt_of_lt_of_le (h.rel.im b (.inr hh)) hsz) And.right)
     (fun b hb hl=>ho b ⟨hl,fun hx=>hb (.inr (h.keep b hx)),fun hx=>hb (.inl (h.im b hx))⟩) hsz
 · subst hd;exact Nat.le_trans h.base hsz
 · subst hd;exact fun b hb=>hb.imp (h.keep b) id
 · subst hd;exact h.im
 · subst hd
   intro b hb;rcases h.apart b hb with hh|hh
   · exact .inl hh
   · exact .inr fun hx=>hx.elim hh fun hx=>by have:=him b hb;omega
 · subst hd
   have e:(fun b=>b<W'.heap.size∧¬(X b∨(S.w.heap.size≤b∧b<W'.heap.size))∧¬I.S0.im b)=fun b=>b<S.w.heap.size∧¬X b∧¬I.S0.im b:=by
     funext b;refine propext ⟨fun⟨h1,h2,h3⟩=>⟨?_,fun hx=>h2 (.inl hx),h3⟩,fun⟨h1,h2,h3⟩=>⟨by omega,fun hx=>hx.elim h2 (fun hh=>by omega),h3⟩⟩;rcases Nat.lt_or_ge b S.w.heap.size with hl|hl
     · exact hl
     · exact absurd (.inr ⟨hl,h1⟩) h2
   show I.at_ s' _ W';rw[e];exact hst
 · subst hd
   exact Evi.of hw rfl rfl rfl rfl rfl rfl
end Itr
def Mi (I:Itr) (n:Nat) (Q:Option Nat→Ex→Env→Ac→Prop) (e:Exit) (a:Act) (w:World):Prop :=
 ∃ S' env H' x s X,S'.w=w∧I.Now s X S' H'∧FRel S' n env a∧a.defers=[]∧e=Ex.up x∧Q s x env H'
def TI (I:Itr) (n:Nat) (c:AC) (s:Option Nat) (env:Env) (H:Ac) (Q:Option Nat→Ex→Env→Ac→Prop):Prop :=
 ∀ code,C0 I.P n code=some c→∀ S a X,I.Now s X S H→FRel S n env a→a.defers=[]→code.wpIn (fen none) (I.m+1) I.P (Mi I n Q) a S.w
section
variable {I:Itr} {n:Nat} {s:Option Nat} {env:Env} {H:Ac} {Q:Option Nat→Ex→Env→Ac→Prop}
theorem ziq {F:Fence} {mm:Nat} {c:Code} {a:Act} {w:World} (h:c.wpIn F mm I.P (Mi I n Q) a w):(Code.scope c).wpIn F mm I.P (Mi I n Q) a w:=by
 refine F9 (wpIn_mono h fun e a w hh=>?_);obtain⟨S2,env,H',y,s,X,h1,h2,h3,h4,h5,h6⟩:=hh;subst h5;cases y<;>exact⟨S2,env,H',_,s,X,h1,h2,h3,h4,rfl,h6⟩
theorem Wp {c:AC} (h:∀ code,C0 I.P n code=some c→(∀ d,code≠.scope d)→∀ S a X,I.Now s X S H→FRel S n env a→a.defers=[]→code.wpIn (fen none) (I.m+1) I.P (Mi I n Q) a S.w):TI I n c s env H Q:=by
 intro code
 induction code with
 | scope d ih=>exact fun hc S a X hN hF hd=>ziq (ih (by simpa [C0] using hc) S a X hN hF hd)
 | skip=>exact fun hc=>h _ hc (by simp)
 | region=>exact fun hc=>h _ hc (by simp)
 | seq=>exact fun hc=>h _ hc (by simp)
 | cond=>exact fun hc=>h _ hc (by simp)
 | block=>exact fun hc=>h _ hc (by simp)
 | loop=>exact fun hc=>h _ hc (by simp)
 | rangeFunc=>exact fun hc=>h _ hc (by simp)
 | exit=>exact fun hc=>h _ hc (by simp)
 | label=>exact fun hc=>h _ hc (by simp)
 | goto=>exact fun hc=>h _ hc (by simp)
 | ret=>exact fun hc=>h _ hc (by simp)
 | refuse=>exact fun hc=>h _ hc (by simp)
theorem zpa (h:Q s .normal env H):TI I n .skip s env H Q:=Wp fun code hc hs S a X hN hF hd=>by
 have hA:Mi I n Q .normal a S.w:=⟨S,env,H,.normal,s,X,rfl,hN,hF,hd,rfl,h⟩;cases code<;>simp only[C0,reduceCtorEq,Option.some.injEq] at hc
 case skip=>exact wpIn_skip hA
 case label=>exact wpIn_label hA
 case region=>exact absurd hc Ce
 case seq=>split at hc<;>cases hc
 case cond=>split at hc<;>cases hc
 case block=>obtain⟨_,_,h⟩:=Option.map_eq_some_iff.1 hc;cases h
 case loop=>obtain⟨_,_,h⟩:=Option.map_eq_some_iff.1 hc;cases h
 case rangeFunc=>split at hc<;>cases hc
 case scope d=>exact absurd rfl (hs d)
theorem zpb {id:Nat} (h:Q s (.exit id) env H):TI I n (.exit id) s env H Q:=Wp fun code hc hs S a X hN hF hd=>by
 cases code<;>simp only[C0,reduceCtorEq,Option.some.injEq] at hc
 case exit k=>cases hc;exact wpIn_exit ⟨S,env,H,.exit id,s,X,rfl,hN,hF,hd,rfl,h⟩
 case region=>exact absurd hc Ce
 case seq=>split at hc<;>cases hc
 case cond=>split at hc<;>cases hc
 case block=>obtain⟨_,_,h⟩:=Option.map_eq_some_iff.1 hc;cases h
 case loop=>obtain⟨_,_,h⟩:=Option.map_eq_some_iff.1 hc;cases h
 case rangeFunc=>split at hc<;>cases hc
 case scope d=>exact absurd rfl (hs d)
theorem ztk (h:Q s .ret env H):TI I n .ret s env H Q:=Wp fun code hc hs S a X hN hF hd=>by
 cases code<;>simp only[C0,reduceCtorEq,Option.some.injEq] at hc
 case ret=>exact wpIn_ret ⟨S,env,H,.ret,s,X,rfl,hN,hF,hd,rfl,h⟩
 case region=>exact absurd hc Ce
 case seq=>split at hc<;>cases hc
 case cond=>split at hc<;>cases hc
 case block=>obtain⟨_,_,h⟩:=Option.map_eq_some_iff.1 hc;cases h
 case loop=>obtain⟨_,_,h⟩:=Option.map_eq_some_iff.1 hc;cases h
 case rangeFunc=>split at hc<;>cases hc
 case scope d=>exact absurd rfl (hs d)
def Ex.thenI (K:Option Nat→Env→Ac→Prop) (Q:Option Nat→Ex→Env→Ac→Prop):Option Nat→Ex→Env→Ac→Prop
 | s,.normal,env,H=>K s env H
 | s,x,env,H=>Q s x env H
theorem Kx {x y:AC} (h:TI I n x s env H (Ex.thenI (fun s' env' H'=>TI I n y s' env' H' Q) Q)):TI I n (.seq x y) s env H Q:=Wp fun code hc hs S a X hN hF hd=>by
 cases code<;>simp only[C0,reduceCtorEq,Option.some.injEq] at hc
 case seq c d =>
   split at hc
   · rename_i x' y' hx hy
     cases hc;refine wpIn_seq (wpIn_mono (h c hx S a X hN hF hd) fun e a' w' hh=>?_);obtain⟨S2,env2,H2,z,s2,X2,rfl,hN2,hF2,hd2,rfl,hq⟩:=hh;cases z with
     | normal=>exact hq d hy S2 a' X2 hN2 hF2 hd2
     | exit id=>exact⟨S2,env2,H2,.exit id,s2,X2,rfl,hN2,hF2,hd2,rfl,hq⟩
     | ret=>exact⟨S2,env2,H2,.ret,s2,X2,rfl,hN2,hF2,hd2,rfl,hq⟩
   · cases hc
 case region=>exact absurd hc Ce
 case cond=>split at hc<;>cases hc
 case block=>obtain⟨_,_,h⟩:=Option.map_eq_some_iff.1 hc;cases h
 case loop=>obtain⟨_,_,h⟩:=Option.map_eq_some_iff.1 hc;cases h
 case rangeFunc=>split at hc<;>cases hc
 case scope d=>exact absurd rfl (hs d)
theorem zpc {c:AArg} {x y:AC} {q:Bool} (hc:c.eval env=.bool q) (ht:q=true→TI I n x s env H Q) (hf:q=false→TI I n y s env H Q):TI I n (.cond c x y) s env H Q:=Wp fun code hcc hs S a X hN hF hd=>by
 cases code<;>simp only[C0,reduceCtorEq,Option.some.injEq] at hcc
 case cond z p q' =>
   split at hcc
   · rename_i z' p2 q2 hz hp hq
     cases hcc;have hv:=Vr hF hz;rw[hc] at hv;exact wpIn_cond_split (t:=q) hv (fun hbb=>ht hbb p hp S a X hN hF hd) (fun hbb=>hf hbb q' hq S a X hN hF hd)
   · cases hcc
 case region=>exact absurd hcc Ce
 case seq=>split at hcc<;>cases hcc
 case block=>obtain⟨_,_,h⟩:=Option.map_eq_some_iff.1 hcc;cases h
 case loop=>obtain⟨_,_,h⟩:=Option.map_eq_some_iff.1 hcc;cases h
 case rangeFunc=>split at hcc<;>cases hcc
 case scope d=>exact absurd rfl (hs d)
def Ex.inBlockI (id:Nat) (Q:Option Nat→Ex→Env→Ac→Prop):Option Nat→Ex→Env→Ac→Prop
 | s,.exit k,env,H=>if k=id then Q s .normal env H else Q s (.exit k) env H
 | s,x,env,H=>Q s x env H
theorem Mj {id:Nat} {c:AC} (h:TI I n c s env H (Ex.inBlockI id Q)):TI I n (.block id c) s env H Q:=Wp fun code hc hs S a X hN hF hd=>by
 cases code<;>simp only[C0,reduceCtorEq,Option.some.injEq] at hc
 case block k d =>
   obtain⟨x,hx,hh⟩:=Option.map_eq_some_iff.1 hc;cases hh;refine wpIn_block (wpIn_mono (h d hx S a X hN hF hd) fun e a' w' hh=>?_);obtain⟨S2,env2,H2,z,s2,X2,h1,hN2,hF2,hd2,rfl,hq⟩:=hh;cases z with
   | normal=>exact⟨S2,env2,H2,.normal,s2,X2,h1,hN2,hF2,hd2,rfl,hq⟩
   | exit j =>
     simp only[Ex.up,Exit.inBlock];simp only[Ex.inBlockI] at hq;split
     · rename_i hj;rw[if_pos hj] at hq;exact⟨S2,env2,H2,.normal,s2,X2,h1,hN2,hF2,hd2,rfl,hq⟩
     · rename_i hj;rw[if_neg hj] at hq;exact⟨S2,env2,H2,.exit j,s2,X2,h1,hN2,hF2,hd2,rfl,hq⟩
   | ret=>exact⟨S2,env2,H2,.ret,s2,X2,h1,hN2,hF2,hd2,rfl,hq⟩
 case region=>exact absurd hc Ce
 case seq=>split at hc<;>cases hc
 case cond=>split at hc<;>cases hc
 case loop=>obtain⟨_,_,h⟩:=Option.map_eq_some_iff.1 hc;cases h
 case rangeFunc=>split at hc<;>cases hc
 case scope d=>exact absurd rfl (hs d)
theorem zde {σ:Type} (Inv:σ→Option Nat→Env→Ac→Prop) (μ:σ→Nat) {c:AC} (s0:σ) (h0:Inv s0 s env H)
   (round:∀ t s env H,Inv t s env H→TI I n c s env H (Ex.thenI (fun s' env' H'=>∃ t',Inv t' s' env' H'∧μ t'<μ t) Q)):TI I n (.loop c) s env H Q:=Wp fun code hc hs S a X hN hF hd=>by
 cases code<;>simp only[C0,reduceCtorEq,Option.some.injEq] at hc
 case loop d =>
   obtain⟨x,hx,hh⟩:=Option.map_eq_some_iff.1 hc;cases hh;refine wpIn_loop_ghost (fun k a w=>∃ S' t s env H X,S'.w=w∧I.Now s X S' H∧FRel S' n env a∧a.defers=[]∧Inv t s env H∧μ t=k) (μ s0) ⟨S,s0,s,env,H,X,rfl,hN,hF,hd,h0,rfl⟩ ?_;rintro k a w ⟨S1,t,s1,env1,H1,X1,rfl,hN1,hF1,hd1,hI,rfl⟩;refine wpIn_mono (round t s1 env1 H1 hI d hx S1 a X1 hN1 hF1 hd1) fun e a' w' hh=>?_;obtain⟨S2,env2,H2,z,s2,X2,rfl,hN2,hF2,hd2,rfl,hq⟩:=hh;cases z with
   | normal =>
     obtain⟨t',h1,h2⟩:=hq;exact⟨μ t',h2,S2,t',s2,env2,H2,X2,rfl,hN2,hF2,hd2,h1,rfl⟩
   | exit id=>exact⟨S2,env2,H2,.exit id,s2,X2,rfl,hN2,hF2,hd2,rfl,hq⟩
   | ret=>exact⟨S2,env2,H2,.ret,s2,X2,rfl,hN2,hF2,hd2,rfl,hq⟩
 case region=>exact absurd hc Ce
 case seq=>split at hc<;>cases hc
 case cond=>split at hc<;>cases hc
 case block=>obtain⟨_,_,h⟩:=Option.map_eq_some_iff.1 hc;cases h
 case rangeFunc=>split at hc<;>cases hc
 case scope d=>exact absurd rfl (hs d)
theorem ztl {ops:List AOp} (h:runK I.P ops env H fun env' H'=>Q s .normal env' H'):TI I n (.reg ops) s env H Q:=Wp fun code hc hs S a X hN hF hd=>by
 cases code<;>simp only[C0,reduceCtorEq,Option.some.injEq] at hc
 case region id l draw =>
   split at hc
   · rename_i r hr
     obtain⟨hd',rfl⟩:=K8 hc;subst hd';refine wpIn_region ?_;have:=Hb (ops:=l) (rd:=none) (m:=I.m+1) (Q:=Mi I n Q) [] l.toList ops 0 (by simp) hr hN.rel hF h (fun S' H' env' a' e hS' hF' hdd hK=>⟨S',env',H',.normal,s,X,rfl,hN.on e hS',hF',hdd.trans hd,rfl,hK⟩);rw[List.range_eq_range'];simpa using this
   · cases hc
 case seq=>split at hc<;>cases hc
 case cond=>split at hc<;>cases hc
 case block=>obtain⟨_,_,h⟩:=Option.map_eq_some_iff.1 hc;cases h
 case loop=>obtain⟨_,_,h⟩:=Option.map_eq_some_iff.1 hc;cases h
 case rangeFunc=>split at hc<;>cases hc
 case scope d=>exact absurd rfl (hs d)
theorem T5 {α β:Type} {f:α→Option β}:∀ (p:List β) {l:List α} {y:β} {q:List β},l.mapM f=some (p++y::q)→∃ l1 o l2,l=l1++o::l2∧l1.mapM f=some p∧f o=some y∧l2.mapM f=some q
 | [],l,y,q,h=>by
   cases l with
   | nil=>simp at h
   | cons o l =>
     rw[List.mapM_cons] at h;simp only[Option.bind_eq_bind,Option.bind_eq_some_iff,Option.pure_def,Option.some.injEq,List.nil_append,List.cons.injEq] at h;obtain⟨y',hy,r,hr,rfl,rfl⟩:=h;exact⟨[],o,l,rfl,rfl,hy,hr⟩
 | z::p,l,y,q,h=>by
   cases l with
   | nil=>simp at h
   | cons o l =>
     rw[List.mapM_cons] at h;simp only[Option.bind_eq_bind,Option.bind_eq_some_iff,Option.pure_def,Option.some.injEq,List.cons_append,List.cons.injEq] at h;obtain⟨z',hz,r,hr,rfl,rfl⟩:=h;obtain⟨l1,o',l2,rfl,h1,h2,h3⟩:=T5 p hr;exact⟨o::l1,o',l2,rfl,by rw[List.mapM_cons,hz,h1];rfl,h2,h3⟩
theorem z9h {P:Program} {op:Op} (h:X0 P op=some .call):∃ g args argTypes,op=.call { callee:=.value g,args,argTypes }:=by
 replace h:=Hr h (by simp);cases op
 case call c =>
   obtain⟨callee,args,argTypes⟩:=c;cases callee<;>simp only[Da,Dn,reduceCtorEq] at h
   case value g=>exact⟨g,args,argTypes,rfl⟩
   case builtin b =>
     repeat' split at h
     all_goals first
       | (cases h;done)
       | (simp at h;done)
 all_goals simp only[Da,reduceCtorEq] at h
 all_goals repeat' split at h
 all_goals first
   | contradiction
   | (cases h;done)
   | (obtain⟨⟨_,_⟩,_,h⟩:=Option.map_eq_some_iff.1 h;cases h;done)
   | (obtain⟨_,_,h⟩:=Option.map_eq_some_iff.1 h;cases h;done)
   | (simp at h;done)
def ztm (x:AV):Prop:=∀ S v,VRel S x v→v=valOf x
theorem T6 {S:MS}:∀ {xs:List AV} {vs:List Value},(∀ x∈xs,ztm x)→Ae S xs vs→vs=xs.map valOf
 | [],vs,_,h=>h
 | x::xs,vs,hf,⟨v,r,hv,h1,h2⟩=>by
   rw[hv,hf x (by simp) S v h1,T6 (fun y hy=>hf y (by simp[hy])) h2];rfl
theorem zir {pre post:List AOp} {y:AOp} {k:Nat} (hk:y.k=.call) (hg:y.guard=none)
   (h:runK I.P pre env H fun env1 H1=>∃ row,y.vals env1=.yld I.l::row∧(∀ x∈row,ztm x)∧I.rows[k]? = some row ∧
     runK I.P post (env1.put y.dst (.bool true)) H1 (fun env2 H2=>Q (some (k+1)) .normal env2 H2)∧runK I.P post (env1.put y.dst (.bool false)) H1 (fun env2 H2=>Q none .normal env2 H2)) :
   TI I n (.reg (pre++y::post)) (some k) env H Q:=Wp fun code hc hs S a X hN hF hd=>by
 cases code<;>simp only[C0,reduceCtorEq,Option.some.injEq] at hc
 case region id l draw =>
   split at hc
   · rename_i r hr
     obtain⟨hd',hrr⟩:=K8 hc;subst hrr;subst hd';refine wpIn_region ?_;obtain⟨l1,o,l2,hl,h1,h2,h3⟩:=T5 pre hr;have hsz:l.size=l1.length+(l2.length+1):=by rw[←Array.length_toList,hl];simp
     rw[List.range_eq_range',hsz,List.range'_append_1 |>.symm];have hat:∀ j:Nat,l[j]? = (l1++o::l2)[j]? := fun j=>by rw[←hl,Array.getElem?_toList]
     refine Hb (ops:=l) (rd:=none) (m:=I.m+1) (Q:=Mi I n Q) _ l1 pre 0 (fun j hj=>by rw[Nat.zero_add,hat,List.getElem?_append_left hj]) h1 hN.rel hF h (fun S1 H1 env1 a1 e1 hS1 hF1 hd1 hK=>?_);obtain⟨row,hv,hfx,hrow,ht,hff⟩:=hK;have hN1:=hN.on e1 hS1;have ho:l[l1.length]? = some o:=by rw[hat];simp
     rw[show List.range' (0+l1.length) (l2.length+1)=l1.length::List.range' (l1.length+1) l2.length from by rw[Nat.zero_add];rfl];simp only[wpOpsIn,ho];obtain⟨c1,c2,c3,c4,c5⟩:=Bg h2
     have hw:Region.wanted o (yielded l a1.tmps)=true:=by
       rcases c5 with⟨g1,_⟩|⟨j,want,d,g1,g2,_⟩
       · simp[Region.wanted,g1]
       · rw[hg] at g2;cases g2
     rw[hw];simp only[if_true];have hargs:=Jt hF1 c2;rw[show y.args.map (·.eval env1)=y.vals env1 from rfl,hv] at hargs;rw[hk] at c1;obtain⟨g,args,argTypes,hop⟩:=z9h c1;obtain⟨fn,tm,asg,bd,hy,hR⟩:=I.round k row _ _ hrow hN1.st
     have hrun:(o.semAt (fen none).round a1.eval).run I.P S1.w=.ok (.round I.l fn tm asg bd) S1.w:=by
       rw[show (fen none).round=none from rfl,Oper.semAt_none];rw[hop] at hargs;have hargs':Ae S1 (.yld I.l::row) (a1.eval g::args.toList.map a1.eval):=by simpa [Op.operands,Call.operands] using hargs
       obtain⟨v,vs,hvv,hv1,hv2⟩:=hargs';cases hvv;have hvs:=T6 hfx hv2;have hv1':a1.eval g=.func (.yield I.l) #[] #[]:=hv1;have e:args.map a1.eval=encI row:=by apply Array.ext';simp[hvs]
       have hex:execOp a1.eval o=(do let d ←Deferred.ofValue (a1.eval g) (args.map a1.eval);invoke d.target d.args:Sem Next):=by
         cases o;simp only at hop;subst hop;rfl
       rw[hex,e,hv1'];simp only[Deferred.ofValue,Sem.run_bind,Sem.run_pure,Result.andThen_ok,invoke];simpa using hy
     refine⟨fun _ _=>trivial,?_⟩;rw[hrun,Oper.uponIn_round];refine⟨fun h=>(by cases h),?_⟩;refine RoundIn.mono (F:=fen none) (n:=I.m) hR fun e W' hh=>?_;obtain⟨hsz',ho',hcase⟩:=hh;have hf0:=(I.fact k _ _ (.inl hN1.st)).1;have hdef:a1.defers=[]:=hd1.trans hd
     have hgo:∀ (bv:Bool) (s':Option Nat),I.at_ s' (fun b=>b<S1.w.heap.size∧¬X b∧¬I.S0.im b) W'→(∀ b,I.S0.im b→W'.heap[b]? = I.S0.w.heap[b]?) →
         runK I.P post (env1.put y.dst (.bool bv)) H1 (fun env2 H2=>Q s' .normal env2 H2)→wpOpsIn (fen none) (I.m+1) I.P l (Mi I n Q) (List.range' (l1.length+1) l2.length) (a1.put o.dst (.bool bv)) W':=fun bv s' hst him hrk=>by
       obtain⟨S2,hw2,hN2,ev2⟩:=hN1.round hsz' ho' (fun b hb=>(him b hb).trans ((hf0 b hb).2).symm) hst;have hF2:FRel S2 n env1 a1:=⟨hF1.size,by rw[hdef];exact Marks.nil hN2.base,fun i hi=>VRel.moni ev2 _ (hF1.val i hi)⟩;have hF3:=hF2.put (dst:=y.dst) (by rw[c3];exact c4) (x:=.bool bv) (v:=.bool bv) rfl;rw[c3] at hF3;rw[c3] at hrk;rw[←hw2]
       have:=Hb (ops:=l) (rd:=none) (m:=I.m+1) (Q:=Mi I n Q) [] l2 post (l1.length+1) (fun j hj=>by rw[hat,List.getElem?_append_right (by omega),show l1.length+1+j-l1.length=j+1 from by omega];rfl) h3 hN2.rel hF3 hrk
         (fun S' H' env' a' e hS' hF' hdd hK=>⟨S',env',H',.normal,s',_,rfl,hN2.on e hS',hF',hdd.trans ((put_defers _ _ _).trans hdef),rfl,hK⟩)
       simpa using this
     rcases hcase with⟨rfl,hj⟩|⟨rfl,hj⟩
     · exact hgo true (some (k+1)) hj (fun b hb=>((I.fact _ _ _ (.inl hj)).1 b hb).2) ht
     · exact hgo false none ⟨_,hj⟩ (fun b hb=>((I.fact _ _ _ (.inr hj)).1 b hb).2) hff
   · cases hc
 case seq=>split at hc<;>cases hc
 case cond=>split at hc<;>cases hc
 case block=>obtain⟨_,_,h⟩:=Option.map_eq_some_iff.1 hc;cases h
 case loop=>obtain⟨_,_,h⟩:=Option.map_eq_some_iff.1 hc;cases h
 case rangeFunc=>split at hc<;>cases hc
 case scope d=>exact absurd rfl (hs d)
theorem zpd {P:Program} {gf:Nat} {caps:List AV} {rows:List (List AV)} {fn:AFn} (hf:As P gf (caps.length+1)=some fn)
   (h:∀ I:Itr,I.P=P→I.rows=rows→TI I fn.n fn.body (some 0) (entry (.yld I.l::caps)) Ac.nil (fun s x env H=>Ret P fn.res (fun _ _=>True) x env H∧(s=some rows.length∨s=none))):z5m P gf caps rows:=by
 refine⟨enters_of hf,fun m l S0 lb J Jx hS0 hx0 cJ cx hj fact round=>?_⟩;obtain⟨F,c,hF,hb,hn,hc,hr,hnp,_⟩:=K9 hf;obtain⟨S,hSd⟩:∃ S:MS,S={ S0 with base:=S0.w.heap.size,keep:=fun b=>b<S0.w.heap.size∧¬S0.im b }:=⟨_,rfl⟩;have ev0:Evi S0 S:=by subst hSd;exact Evi.of (fun _ _=>rfl) rfl rfl rfl rfl rfl rfl
 have hw0:S.w=S0.w:=by rw[hSd]
 have hS:SRel S Ac.nil:=by
   subst hSd;exact⟨hS0.n,fun g hg=>absurd hg (Nat.not_lt_zero _),fun g _ hg=>absurd hg (Nat.not_lt_zero _),fun b hb=>hb.elim (fun h=>hS0.im b (.inl h)) And.left⟩
 have hx:Ae S caps lb:=Ae.moni ev0 _ hx0;have hlen:=hx.length
 let I:Itr:=⟨P,l,m,rows,S0,J,Jx,cJ,cx,fact,round⟩
 have hN:I.Now (some 0) (fun b=>b<S0.w.heap.size∧¬S0.im b) S Ac.nil:=by
   refine⟨hS,by rw[hSd];exact Nat.le_refl _,fun b hb=>by rw[hSd];exact hb,fun b hb=>by rw[hSd];exact hb,fun b hb=>.inl (by rw[hSd] at hb;exact hb),?_⟩
   have e:(fun b=>b<S.w.heap.size∧¬(b<S0.w.heap.size∧¬S0.im b)∧¬I.S0.im b)=fun _=>False:=by
     funext b;refine propext ⟨fun⟨h1,h2,h3⟩=>h2 ⟨by rw[hw0] at h1;exact h1,h3⟩,False.elim⟩
   rw[e,hw0];exact hj
 refine callsIn_of_wp_marks (F:=Fence.wide) (n:=m+1) hF hb trivial ?_
 have hfr:FRel S fn.n (entry (.yld l::caps)) { tmps:=(#[Value.func (.yield l) #[] #[]]++lb.toArray)++Array.replicate (F.ntmps-(#[Value.func (.yield l) #[] #[]]++lb.toArray).size) undef,defers:=[] }:=by
   have hx':Ae S (.yld l::caps) (.func (.yield l) #[] #[]::lb):=⟨_,_,rfl,rfl,hx⟩;refine⟨by simp;omega,Marks.nil hN.base,fun i hi=>?_⟩;by_cases hlt:i<(AV.yld l::caps).length
   · obtain⟨v,hv,hr⟩:=hx'.get (List.getElem?_eq_getElem hlt)
     have e1:entry (.yld l::caps) i=(AV.yld l::caps)[i]:=by simp[entry,List.getD,List.getElem?_eq_getElem hlt]
     have e2:((#[Value.func (.yield l) #[] #[]]++lb.toArray)++Array.replicate (F.ntmps-(#[Value.func (.yield l) #[] #[]]++lb.toArray).size) undef).getD i undef=v:=by
       have hsz:i<(#[Value.func (.yield l) #[] #[]]++lb.toArray).size:=by simp at hlt ⊢;omega
       rw[Array.getD_eq_getD_getElem?,Array.getElem?_append_left hsz];have:(#[Value.func (.yield l) #[] #[]]++lb.toArray)[i]? = (Value.func (.yield l) #[] #[]::lb)[i]? := by simp
       rw[this,hv];rfl
     rw[e1,e2];exact hr
   · have e1:entry (.yld l::caps) i=.any:=by simp[entry,List.getD,List.getElem?_eq_none (Nat.le_of_not_lt hlt)]
     rw[e1];trivial
 rw[←hw0];refine wpIn_mono (h I rfl rfl c hc S _ _ hN hfr rfl) fun e a w' hh=>?_;obtain⟨S2,env2,H2,z,s2,X2,rfl,hN2,hF2,hd2,rfl,⟨hq,hres⟩,hst⟩:=hh
 have fin:LeavesInM Fence.wide (m+1) P F a.tmps (fun e W'=>(∃ v,e=.returned v)∧((∃ O,J rows.length O W')∨∃ k O,Jx k O W')) a.defers .returning S2.w:=by
   rw[hd2];refine It [] S2.w List.nodup_nil (fun D hd=>by cases hd) ?_;obtain⟨vs,ys,h1,h2,h3⟩:=Jv hN2.rel hF2 hr hres;refine⟨if h:vs.toArray.size=1 then vs.toArray[0] else .tuple vs.toArray,?_,⟨_,rfl⟩,?_⟩
   · have e:results F a.tmps=(do let vs ←F.results.mapM (Tp a.tmps);pure (if h:vs.size=1 then vs[0] else .tuple vs)):=by
       unfold results;congr
     rw[e,Array.mapM_eq_mapM_toList];show Sem.run P _ S2.w=_;simp only[Sem.run_bind,Sem.run_map,h1,Result.andThen_ok,Sem.run_pure];rfl
   · have:=hN2.st
     rcases hst with rfl|rfl
     · exact .inl ⟨_,this⟩
     · obtain⟨k,hk⟩:=this;exact .inr ⟨k,_,hk⟩
 cases z with
 | normal=>exact fin
 | exit id=>exact hq.elim
 | ret=>exact fin
end
end Go.Proofs.YtbcjoeadpjfcfaaGreat.Abs
namespace Go.Proofs.YtbcjoeadpjfcfaaGreat
open Abs
def domL (s:Int):List Span:=if s=1 then [⟨0,255⟩] else if s=2 then [⟨0,55295⟩,⟨57344,1114111⟩] else []
theorem J1 (a:Int):PC Tryz.prog 113 [.int .i64 a] (Ca ⟨a,0,21,0⟩):=by
 refine A9 Za ?_;unfold N6;(with_reducible repeat' (first|(simp(disch:=omega)only[push_cast,↓zz,seval])|refine And.intro ?_ ?_|(first|refine Ab ?_ ?_|refine Aa ?_ ?_)<;>intro hc<;>(try simp only[push_cast] at hc)|omega|intro _))
def C6 (p:Part):Bool:=decide (0≤p.drop∧p.drop<21∧1≤p.take∧p.take≤21∧0≤p.up∧p.up<21∧(p.up=0∨p.take≤6))
theorem Hc (p:Part):PC Tryz.prog 153 [Ca p] (.bool (C6 p)):=by
 refine A9 z2i ?_;unfold Qr;(with_reducible repeat' (first|(simp(disch:=omega)only[push_cast,↓zz,seval])|refine And.intro ?_ ?_|(first|refine Ab ?_ ?_|refine Aa ?_ ?_)<;>intro hc<;>(try simp only[push_cast] at hc)|omega|intro _))
 all_goals (unfold C6;first|(refine Yu ?_;omega)|(refine Yv ?_;omega)|(refine M5 ?_;omega))
theorem J2 (p:Part):PC Tryz.prog 164 [Ca p] (.bool (C6 p)):=by
 refine A9 Zk ?_;unfold Og;(with_reducible repeat' (first|(simp(disch:=omega)only[push_cast,↓zz,seval])|refine And.intro ?_ ?_|(first|refine Ab ?_ ?_|refine Aa ?_ ?_)<;>intro hc<;>(try simp only[push_cast] at hc)|omega|intro _))
 all_goals (unfold C6;first|(refine Yu ?_;omega)|(refine Yv ?_;omega)|(refine M5 ?_;omega))
def Dk (p:Part) (n:Int):Bool:=decide (0≤p.at_∧p.at_<n)&&C6 p
theorem J3 (p:Part) (n:Int):PC Tryz.prog 135 [Ca p,.int .i64 n] (.bool (Dk p n)):=by
 refine A9 Zg ?_;unfold Oc;(with_reducible repeat' (first|(simp(disch:=omega)only[push_cast,↓zz,seval])|refine And.intro ?_ ?_|(first|refine Ab ?_ ?_|refine Aa ?_ ?_)<;>intro hc<;>(try simp only[push_cast] at hc)|(have q_:=Hc p;(first|refine eK q_ ?_|refine eQ q_ ?_|refine eG q_ ?_);clear q_)|(have q_:=Hc p;(first|refine cK q_ ?_|refine cQ q_ ?_|refine cG q_ ?_);clear q_;(simp(disch:=omega)only[push_cast,↓zz,seval]);(fail_if_success change False))|omega|intro _))
 all_goals (simp[Dk, *]<;>omega)
theorem Q7 (p:Part) (n:Int):PC Tryz.prog 141 [Ca p,.int .i64 n] (.bool (Dk p n)):=by
 refine A9 Wa ?_;unfold L6;(with_reducible repeat' (first|(simp(disch:=omega)only[push_cast,↓zz,seval])|refine And.intro ?_ ?_|(first|refine Ab ?_ ?_|refine Aa ?_ ?_)<;>intro hc<;>(try simp only[push_cast] at hc)|(have q_:=J2 p;(first|refine eK q_ ?_|refine eQ q_ ?_|refine eG q_ ?_);clear q_)|(have q_:=J2 p;(first|refine cK q_ ?_|refine cQ q_ ?_|refine cG q_ ?_);clear q_;(simp(disch:=omega)only[push_cast,↓zz,seval]);(fail_if_success change False))|omega|intro _))
 all_goals (simp[Dk, *]<;>omega)
theorem ztn (i:Nat) (h:i≤40):(1:Int)≤2 ^ i∧(2:Int) ^ i≤1099511627776 :=
 ⟨Int.pow_pos (by decide),by have:=Nat.pow_le_pow_right (n:=2) (by decide) h;have e:((2 ^ i:Nat):Int)=2 ^ i:=(by simp);rw[←e];omega⟩
theorem Hy (n:Int) (h:0≤n∧n≤40):PC Tryz.prog 152 [.int .i64 n] (.int .i64 (2 ^ n.toNat)):=by
 refine A9 z2h ?_;unfold Qq;(with_reducible repeat' (first|(simp(disch:=omega)only[push_cast,↓zz,seval])|refine And.intro ?_ ?_|(first|refine Ab ?_ ?_|refine Aa ?_ ?_)<;>intro hc<;>(try simp only[push_cast] at hc)|omega|intro _));refine An (Ap (fun (i:Nat)=>(i:Int)≤n) (fun i=>n.toNat-i) (fun i=>[(0,.int .i64 n),(3,.int .i64 (2 ^ i)),(4,.int .i64 i)]) (fun _=>[]) (fun _ _=>[]) 0 (by omega) ?_ ?_)
 · (with_reducible repeat' (first|(simp(disch:=omega)only[push_cast,↓zz,seval])|refine And.intro ?_ ?_|(first|refine Ab ?_ ?_|refine Aa ?_ ?_)<;>intro hc<;>(try simp only[push_cast] at hc)|omega|intro _))
 intro i hi;refine W_T ?_;have hp:=ztn (i+1);rw[Int.pow_succ] at hp;(with_reducible repeat' (first|(simp(disch:=omega)only[push_cast,↓zz,seval])|refine And.intro ?_ ?_|(first|refine Ab ?_ ?_|refine Aa ?_ ?_)<;>intro hc<;>(try simp only[push_cast] at hc)|omega|intro _))
 · refine⟨i+1,?_⟩
   have hp:=hp (by omega);(with_reducible repeat' (first|(simp(disch:=omega)only[push_cast,↓zz,seval,Int.pow_succ])|refine And.intro ?_ ?_|(first|refine Ab ?_ ?_|refine Aa ?_ ?_)<;>intro hc<;>(try simp only[push_cast] at hc)|omega|intro _))
 · obtain rfl:n=i:=by omega
   rfl
def valP (p:Part) (x:Int):Int:=x / 2 ^ p.drop.toNat % 2 ^ p.take.toNat * 2 ^ p.up.toNat
def valB (p:Part) (x:Int):Bool:=C6 p&&decide (0≤x∧x≤2097151)
def val1 (p:Part) (x:Int):Int:=if valB p x then valP p x else 0
abbrev valV (p:Part) (x:Int):AV:=.tup [.int .i64 (val1 p x),.bool (valB p x)]
theorem Dt {p:Part}:C6 p=true↔(0≤p.drop∧p.drop<21∧1≤p.take∧p.take≤21∧0≤p.up∧p.up<21∧(p.up=0∨p.take≤6)):=by simp[C6]
theorem Hd (d:Nat) (h:d≤21):(1:Int)≤2 ^ d∧(2:Int) ^ d≤2097152 :=
 ⟨Int.pow_pos (by decide),by have:=Nat.pow_le_pow_right (n:=2) (by decide) h;have e:((2 ^ d:Nat):Int)=2 ^ d:=(by simp);rw[←e];omega⟩
theorem zis {p:Part} {x:Int} (hb:C6 p=true) (hx:0≤x∧x≤2097151) :
   IntKind.i64.wrap (Kg .and .i64 (x.fdiv (2 ^ min p.drop.toNat IntKind.i64.bits)) (IntKind.i64.wrap (IntKind.i64.wrap (1 * 2 ^ min p.take.toNat IntKind.i64.bits)-1)) * 2 ^ min p.up.toNat IntKind.i64.bits)=valP p x:=by
 rw[Dt] at hb;have e1:min p.drop.toNat IntKind.i64.bits=p.drop.toNat:=Nat.min_eq_left (by show _≤64;omega);have e2:min p.take.toNat IntKind.i64.bits=p.take.toNat:=Nat.min_eq_left (by show _≤64;omega);have e3:min p.up.toNat IntKind.i64.bits=p.up.toNat:=Nat.min_eq_left (by show _≤64;omega);rw[e1,e2,e3];have hd:=Hd p.drop.toNat (by omega);have ht:=Hd p.take.toNat (by omega);have hu:=Hd p.up.toNat (by omega);rw[Int.one_mul,IntWalk.i64_in (2 ^ p.take.toNat) (by omega),IntWalk.i64_in (2 ^ p.take.toNat-1) (by omega),zbo _ _ (by omega)];have q0:0≤x / 2 ^ p.drop.toNat:=Int.ediv_nonneg hx.1 (by omega);have q1:x / 2 ^ p.drop.toNat≤x:=Int.ediv_le_self _ hx.1;have m0:=Int.emod_nonneg (x / 2 ^ p.drop.toNat) (b:=2 ^ p.take.toNat) (by omega);have m1:=Int.emod_lt_of_pos (x / 2 ^ p.drop.toNat) (b:=2 ^ p.take.toNat) (by omega);rw[zbp p.take.toNat ⟨q0,by show _<(2:Int) ^ 64;omega⟩ (by show _≤64;omega) (IntWalk.i64_in _ (by omega))];refine IntWalk.i64_in _ ?_;have:x / 2 ^ p.drop.toNat % 2 ^ p.take.toNat * 2 ^ p.up.toNat≤2097152 * 2097152:=Int.mul_le_mul (by omega) (by omega) (by omega) (by omega);have:0≤x / 2 ^ p.drop.toNat % 2 ^ p.take.toNat * 2 ^ p.up.toNat:=Int.mul_nonneg (by omega) (by omega);omega
theorem Wq {p:Part} {x:Int} (hb:C6 p=true) (hx:0≤x∧x≤2097151):valB p x=true∧val1 p x=valP p x:=by
 have:valB p x=true:=by simp only[valB,hb,Bool.true_and,decide_eq_true_eq];exact hx
 exact⟨this,by rw[val1,this];rfl⟩
theorem zto {p:Part} {x:Int} (h:C6 p=false∨x<0∨2097151<x):valB p x=false∧val1 p x=0:=by
 have:valB p x=false:=by
   simp only[valB,Bool.and_eq_false_iff,decide_eq_false_iff_not];rcases h with h|h
   · exact .inl h
   · exact .inr (by omega)
 exact⟨this,by rw[val1,this];rfl⟩
theorem zpe {p:Part} {x:Int} (hb:C6 p=true) (hx:0≤x∧x≤2097151):IntKind.i64.wrap ((IntKind.i64.wrap (x.tdiv (2 ^ p.drop.toNat))).tmod (2 ^ p.take.toNat) * 2 ^ p.up.toNat)=valP p x:=by
 rw[Dt] at hb;have hd:=Hd p.drop.toNat (by omega);have ht:=Hd p.take.toNat (by omega);have hu:=Hd p.up.toNat (by omega);have q0:0≤x / 2 ^ p.drop.toNat:=Int.ediv_nonneg hx.1 (by omega);have q1:x / 2 ^ p.drop.toNat≤x:=Int.ediv_le_self _ hx.1;have m0:=Int.emod_nonneg (x / 2 ^ p.drop.toNat) (b:=2 ^ p.take.toNat) (by omega);have m1:=Int.emod_lt_of_pos (x / 2 ^ p.drop.toNat) (b:=2 ^ p.take.toNat) (by omega);rw[IntWalk.i64_quo _ _ (by omega),IntWalk.rem_in _ _ q0];refine IntWalk.i64_in _ ?_;have:x / 2 ^ p.drop.toNat % 2 ^ p.take.toNat * 2 ^ p.up.toNat≤2097152 * 2097152:=Int.mul_le_mul (by omega) (by omega) (by omega) (by omega);have:0≤x / 2 ^ p.drop.toNat % 2 ^ p.take.toNat * 2 ^ p.up.toNat:=Int.mul_nonneg (by omega) (by omega);omega
theorem Wr {p:Part} {x:Int} (h:C6 p=false∨x<0∨2097151<x):valV p x=.tup [.int .i64 0,.bool false]:=by
 obtain⟨h1,h2⟩:=zto h;simp only[valV,h1,h2]
theorem z2v {p:Part} {x:Int} (hb:C6 p=true) (hx:0≤x∧x≤2097151):valV p x=.tup [.int .i64 (valP p x),.bool true]:=by
 obtain⟨h1,h2⟩:=Wq hb hx;simp only[valV,h1,h2]
theorem z9i (p:Part) (x:Int):PC Tryz.prog 136 [Ca p,.int .i64 x] (valV p x):=by
 refine A9 Zh ?_;unfold Od;(with_reducible repeat' (first|(simp(disch:=omega)only[push_cast,↓zz,seval])|refine And.intro ?_ ?_|(first|refine Ab ?_ ?_|refine Aa ?_ ?_)<;>intro hc<;>(try simp only[push_cast] at hc)|(have q_:=Hc p;(first|refine eK q_ ?_|refine eQ q_ ?_|refine eG q_ ?_);clear q_)|(have q_:=Hc p;(first|refine cK q_ ?_|refine cQ q_ ?_|refine cG q_ ?_);clear q_;(simp(disch:=omega)only[push_cast,↓zz,seval]);(fail_if_success change False))|omega|intro _))
 all_goals first|(have hb:=Dt.1 ‹C6 p=true›;omega)|(rw[Wr (.inl ‹_›)];(repeat' (first|(simp(disch:=omega)only[push_cast,↓zz,seval,Bq])|omega|(with_reducible refine And.intro ?_ ?_)));done)|(rw[Wr (.inr (by omega))];(repeat' (first|(simp(disch:=omega)only[push_cast,↓zz,seval,Bq])|omega|(with_reducible refine And.intro ?_ ?_)));done)|(rw[z2v ‹_› (by omega)];(repeat' (first|(simp(disch:=omega)only[push_cast,↓zz,seval,Bq])|omega|(with_reducible refine And.intro ?_ ?_)));exact zis ‹_› (by omega))
theorem z2w (p:Part) (x:Int):PC Tryz.prog 142 [Ca p,.int .i64 x] (valV p x):=by
 refine A9 Wb ?_;unfold L8;(with_reducible repeat' (first|(simp(disch:=omega)only[push_cast,↓zz,seval])|refine And.intro ?_ ?_|(first|refine Ab ?_ ?_|refine Aa ?_ ?_)<;>intro hc<;>(try simp only[push_cast] at hc)|(have q_:=J2 p;(first|refine eK q_ ?_|refine eQ q_ ?_|refine eG q_ ?_);clear q_)|(have q_:=Hy p.drop (by have hb:=Dt.1 ‹C6 p=true›;omega);(first|refine eK q_ ?_|refine eQ q_ ?_|refine eG q_ ?_);clear q_)|(have q_:=Hy p.take (by have hb:=Dt.1 ‹C6 p=true›;omega);(first|refine eK q_ ?_|refine eQ q_ ?_|refine eG q_ ?_);clear q_)|(have q_:=Hy p.up (by have hb:=Dt.1 ‹C6 p=true›;omega);(first|refine eK q_ ?_|refine eQ q_ ?_|refine eG q_ ?_);clear q_)|(have q_:=J2 p;(first|refine cK q_ ?_|refine cQ q_ ?_|refine cG q_ ?_);clear q_;(simp(disch:=omega)only[push_cast,↓zz,seval]);(fail_if_success change False))|(have q_:=Hy p.drop (by have hb:=Dt.1 ‹C6 p=true›;omega);(first|refine cK q_ ?_|refine cQ q_ ?_|refine cG q_ ?_);clear q_;(simp(disch:=omega)only[push_cast,↓zz,seval]);(fail_if_success change False))|(have q_:=Hy p.take (by have hb:=Dt.1 ‹C6 p=true›;omega);(first|refine cK q_ ?_|refine cQ q_ ?_|refine cG q_ ?_);clear q_;(simp(disch:=omega)only[push_cast,↓zz,seval]);(fail_if_success change False))|(have q_:=Hy p.up (by have hb:=Dt.1 ‹C6 p=true›;omega);(first|refine cK q_ ?_|refine cQ q_ ?_|refine cG q_ ?_);clear q_;(simp(disch:=omega)only[push_cast,↓zz,seval]);(fail_if_success change False))|omega|intro _))
 all_goals first|(rw[Wr (.inl ‹_›)];(repeat' (first|(simp(disch:=omega)only[push_cast,↓zz,seval,Bq])|omega|(with_reducible refine And.intro ?_ ?_)));done)|(rw[Wr (.inr (by omega))];(repeat' (first|(simp(disch:=omega)only[push_cast,↓zz,seval,Bq])|omega|(with_reducible refine And.intro ?_ ?_)));done)|(have hp:=Hd p.drop.toNat (by have hb:=Dt.1 ‹C6 p=true›;omega);omega)|(have hp:=Hd p.take.toNat (by have hb:=Dt.1 ‹C6 p=true›;omega);omega)|(rw[z2v ‹_› (by omega)];(repeat' (first|(simp(disch:=omega)only[push_cast,↓zz,seval,Bq])|omega|(with_reducible refine And.intro ?_ ?_)));exact zpe ‹_› (by omega))
theorem D7 (s:Int):PC Tryz.prog 72 [.int .i64 s] (Ag (domL s)):=by
 refine A9 V6 ?_;unfold L2;(with_reducible repeat' (first|(simp(disch:=omega)only[push_cast,↓zz,seval])|refine And.intro ?_ ?_|(first|refine Ab ?_ ?_|refine Aa ?_ ?_)<;>intro hc<;>(try simp only[push_cast] at hc)|omega|intro _))
 all_goals (simp only[domL, *];rfl)
end Go.Proofs.YtbcjoeadpjfcfaaGreat
